/- TopGravityTruth: the given statement is proved: at every input the law returns true, and the input reads as it did. No condition. -/
import Derived.Test.YtfapfcjioianbaaDoorWalkTopGravityTruth
import Derived.Test.YtfapfcjioianbaaDoorLayB
import Derived.Test.YtfapfcjioianbaaDoorMxUl
import Derived.Test.YtfapfcjioianbaaDoorRows
import Derived.Test.YtfapfcjioianbaaDoorCards
import Derived.Test.YtfapfcjioianbaaDoorTie
import Derived.ProofKit
import Derived.SevenTiedAt
namespace Go.Proofs.YtfapfcjioianbaaDoor
open Go Go.Mx
set_option maxRecDepth 100000
theorem v_sums_le {f g:Nat→Int}:∀ (n a:Nat),(∀ k,a≤k→k < a + n→f k≤g k)→v_sums f a n≤v_sums g a n
  | 0,_,_ => Int.le_refl _
  | n + 1,a,h => by
    have h1 := h a (Nat.le_refl _) (by omega)
    have h2 := v_sums_le n (a + 1) fun k hk1 hk2 => h k (by omega) (by omega)
    show f a + v_sums f (a + 1) n≤g a + v_sums g (a + 1) n
    omega
theorem v_sums_comm (F:Nat→Nat→Int):∀ (n a b m:Nat),v_sums (fun i => v_sums (fun j => F i j) b m) a n = v_sums (fun j => v_sums (fun i => F i j) a n) b m
  | 0,a,b,m => by
    rw [v_sums_zero (f := fun j => v_sums (fun i => F i j) a 0) m b (fun _ _ _ => rfl)]; rfl
  | n + 1,a,b,m => by
    rw [v_sums,v_sums_comm F n (a + 1) b m,← v_sums_add]
    rfl
theorem v_at_neg (f:gF) (k:Int):v_at f (-k) = v_at f k := by unfold v_at; rw [Int.natAbs_neg]
/-- What is opposite on both sides adds up to nothing. -/
theorem v_odd {g:Int→Int} (hg:∀ x,g (-x) = -g x) (n:Nat):v_sums (fun j => g ((j:Int) - (n:Int))) 0 (2 * n + 1) = 0 := by
  have h := v_sums_rev (fun j => g ((j:Int) - (n:Int))) (2 * n + 1) 0
  rw [v_sums_congr (f := fun k => g (((0 + (2 * n + 1) - 1 - k:Nat):Int) - (n:Int))) (g := fun k => -1 * g ((k:Int) - (n:Int))) (2 * n + 1) 0 (fun k _ hk => by rw [show (((0 + (2 * n + 1) - 1 - k:Nat):Int) - (n:Int)) = -((k:Int) - (n:Int)) by omega,hg]; omega),v_sums_mul] at h
  omega
/-- The same from the other side. -/
theorem v_flip {g:Int→Int} (n:Nat):v_sums (fun j => g ((j:Int) - (n:Int))) 0 (2 * n + 1) = v_sums (fun j => g (-((j:Int) - (n:Int)))) 0 (2 * n + 1) := by
  rw [v_sums_rev]
  exact v_sums_congr _ _ fun k _ hk => by congr 1; omega
/-- The numbers of two filters composed,on both sides. -/
def v_C (f g:gF) (k:Int):Int := v_sums (fun i => v_at f ((i:Int) - ((f.length:Int) - 1)) * v_at g (k - ((i:Int) - ((f.length:Int) - 1)))) 0 (2 * f.length - 1)
theorem v_C_neg {f g:List Int} (h1:1≤f.length) (k:Int):v_C f g (-k) = v_C f g k := by
  unfold v_C
  rw [show ((f.length:Int) - 1) = ((f.length - 1:Nat):Int) by omega,show 2 * f.length - 1 = 2 * (f.length - 1) + 1 by omega]
  refine (v_flip (g := fun x => v_at f x * v_at g (-k - x)) (f.length - 1)).trans ?_
  refine v_sums_congr _ _ fun j _ _ => ?_
  rw [v_at_neg,show -k - -((j:Int) - ((f.length - 1:Nat):Int)) = -(k - ((j:Int) - ((f.length - 1:Nat):Int))) by omega,v_at_neg]
theorem v_conv_at {f g:List Int} (h0:1≤f.length) (h1:1≤g.length) (k:Int):v_at (v_conv f g) k = v_C f g k := by
  have hl := v_conv_len f g
  by_cases c:k.natAbs < f.length + g.length - 1
  · have e:v_at (v_conv f g) k = v_C f g (k.natAbs:Nat) := v_conv_get c
    rw [e]
    rcases Int.le_total 0 k with d | d
    · rw [show ((k.natAbs:Nat):Int) = k by omega]
    · rw [show ((k.natAbs:Nat):Int) = -k by omega,v_C_neg h0]
  · rw [v_at_out (by omega)]
    unfold v_C
    rw [v_sums_zero]
    intro i _ hi
    rw [v_at_out (f := g) (by omega),Int.mul_zero]
/-- Composed,or one after the other. -/
theorem v_conv_sum2 {f g:List Int} (h0:1≤f.length) (h1:1≤g.length) (R:Nat→Int):v_sums (fun k => v_at (v_conv f g) ((k:Int) - (((f.length + g.length - 1:Nat):Int) - 1)) * R k) 0 (2 * (f.length + g.length - 1) - 1) = v_sums (fun t => v_at g ((t:Int) - ((g.length:Int) - 1)) * v_sums (fun i => v_at f ((i:Int) - ((f.length:Int) - 1)) * R (t + i)) 0 (2 * f.length - 1)) 0 (2 * g.length - 1) := by
  have e1:v_sums (fun k => v_at (v_conv f g) ((k:Int) - (((f.length + g.length - 1:Nat):Int) - 1)) * R k) 0 (2 * (f.length + g.length - 1) - 1) = v_sums (fun k => v_sums (fun i => v_at f ((i:Int) - ((f.length:Int) - 1)) * (v_at g ((k:Int) - (((f.length + g.length - 1:Nat):Int) - 1) - ((i:Int) - ((f.length:Int) - 1))) * R k)) 0 (2 * f.length - 1)) 0 (2 * (f.length + g.length - 1) - 1) := by
    refine v_sums_congr _ _ fun k _ _ => ?_
    rw [v_conv_at h0 h1,Int.mul_comm]
    unfold v_C
    rw [← v_sums_mul]
    exact v_sums_congr _ _ fun i _ _ => by grind
  have e2:v_sums (fun t => v_at g ((t:Int) - ((g.length:Int) - 1)) * v_sums (fun i => v_at f ((i:Int) - ((f.length:Int) - 1)) * R (t + i)) 0 (2 * f.length - 1)) 0 (2 * g.length - 1) = v_sums (fun t => v_sums (fun i => v_at f ((i:Int) - ((f.length:Int) - 1)) * (v_at g ((t:Int) - ((g.length:Int) - 1)) * R (t + i))) 0 (2 * f.length - 1)) 0 (2 * g.length - 1) := by
    refine v_sums_congr _ _ fun t _ _ => ?_
    rw [← v_sums_mul]
    exact v_sums_congr _ _ fun i _ _ => by grind
  rw [e1,e2]
  refine (v_sums_comm _ _ _ _ _).trans (Eq.trans ?_ (v_sums_comm _ _ _ _ _).symm)
  refine v_sums_congr _ _ fun i _ hi => ?_
  rw [v_sums_mul,v_sums_mul]
  congr 1
  rw [show 2 * (f.length + g.length - 1) - 1 = i + ((2 * g.length - 1) + (2 * f.length - 2 - i)) by omega,v_sums_app,v_sums_app,v_sums_zero i 0 (fun j _ hj => by rw [v_at_out (f := g) (by omega),Int.zero_mul]),v_sums_zero (2 * f.length - 2 - i) (0 + i + (2 * g.length - 1)) (fun j hj _ => by rw [v_at_out (f := g) (by omega),Int.zero_mul]),v_sums_shift]
  rw [Int.zero_add,Int.add_zero]
  refine v_sums_congr _ _ fun t _ _ => ?_
  congr 2
  omega
theorem v_fsum_conv {f g:List Int} (h0:1≤f.length) (h1:1≤g.length):v_fsum (v_conv f g) = v_fsum f * v_fsum g := by
  have hl := v_conv_len f g
  have h := v_conv_sum2 h0 h1 (fun _ => 1)
  unfold v_fsum
  rw [hl]
  simp only [Int.mul_one] at h
  rw [h,← v_sums_mul]
  exact v_sums_congr _ _ fun t _ _ => by rw [Int.mul_comm]
/-- Weights from 0 on. -/
def v_nnf (f:gF):Prop := ∀ k,0≤v_at f k
theorem v_nnf_of {f:List Int} (h:∀ i,i < f.length→0≤f.getD i 0):v_nnf f := fun k => by
  by_cases c:k.natAbs < f.length
  · exact h _ c
  · rw [v_at_out (by omega)]; exact Int.le_refl _
theorem v_sums_nn {f:Nat→Int} (n a:Nat) (h:∀ k,a≤k→k < a + n→0≤f k):0≤v_sums f a n := by
  have := v_sums_le (f := fun _ => 0) (g := f) n a h
  rw [v_sums_zero n a (fun _ _ _ => rfl)] at this
  exact this
theorem v_nnf_conv {f g:List Int} (h0:1≤f.length) (h1:1≤g.length) (hf:v_nnf f) (hg:v_nnf g):v_nnf (v_conv f g) := fun k => by
  rw [v_conv_at h0 h1]
  exact v_sums_nn _ _ fun i _ _ => Int.mul_nonneg (hf _) (hg _)
/-- Weighed sums of lower and of upper ends. -/
def v_x1 (f:gF) (l:gC) (j:Nat):Int := v_sums (fun i => v_at f ((i:Int) - ((f.length:Int) - 1)) * (l.getD (j + i) (0,0)).1) 0 (2 * f.length - 1)
def v_x2 (f:gF) (l:gC) (j:Nat):Int := v_sums (fun i => v_at f ((i:Int) - ((f.length:Int) - 1)) * (l.getD (j + i) (0,0)).2) 0 (2 * f.length - 1)
theorem v_lin_nn:∀ (ws:gF) (xs:gC),ws.length≤xs.length→(∀ w∈ws,0≤w)→(∀ x∈xs,x.1≤x.2)→v_lin ws xs = (v_sums (fun i => ws.getD i 0 * (xs.getD i (0,0)).1) 0 ws.length,v_sums (fun i => ws.getD i 0 * (xs.getD i (0,0)).2) 0 ws.length)
  | [],_,_,_,_ => by simp [v_lin,v_sums]
  | w :: ws,[],h,_,_ => by simp at h
  | w :: ws,x :: xs,h,hw,hx => by
    have ih := v_lin_nn ws xs (by simpa using h) (fun y hy => hw y (by simp [hy])) (fun y hy => hx y (by simp [hy]))
    have m := Int.mul_le_mul_of_nonneg_left (hx x (by simp)) (hw w (by simp))
    rw [List.length_cons,v_lin,ih]
    simp only [v_sums,v_sums_shift,List.getD_cons_zero]
    rw [Int.min_eq_left m,Int.max_eq_right m]
    rfl
theorem v_both_nn {f:List Int} (hf:v_nnf f) (h1:1≤f.length):∀ w∈v_both f,0≤w := by
  intro w hw
  obtain ⟨i,hi,rfl⟩ := List.getElem_of_mem hw
  rw [v_both_len h1] at hi
  rw [← gd_get 0,v_both_at hi]
  exact hf _
theorem v_fil_len (f:gF) (l:gC):(v_fil f l).length = (max 0 ((l.length:Int) - ((v_both f).length:Nat) + 1)).toNat := by simp [v_fil,v_windows]
theorem v_fil_get {f:List Int} {l:List (Int×Int)} {j:Nat} (h:j < (v_fil f l).length):(v_fil f l).getD j (0,0) = ((v_lin (v_both f) ((l.drop j).take (v_both f).length)).1 / v_fsum f,v_ceil (v_lin (v_both f) ((l.drop j).take (v_both f).length)).2 (v_fsum f)) := by
  rw [v_fil_len] at h
  unfold v_fil v_windows
  rw [List.map_map,gd_map 0 (by simpa using h)]
  rw [show (List.range (max 0 ((l.length:Int) - ((v_both f).length:Nat) + 1)).toNat).getD j 0 = j by rw [List.range_eq_range',gd_range h,Nat.zero_add]]
  rfl
theorem v_fil_len2 {f:List Int} (h1:1≤f.length) (l:gC):((v_fil f l).length:Int) = max 0 ((l.length:Int) - 2 * ((f.length:Int) - 1)) := by
  rw [v_fil_len,v_both_len h1]; omega
theorem v_fil_nn {f:List Int} {l:List (Int×Int)} {j:Nat} (hf:v_nnf f) (h1:1≤f.length) (hl:∀ x∈l,x.1≤x.2) (h:j < (v_fil f l).length):(v_fil f l).getD j (0,0) = (v_x1 f l j / v_fsum f,v_ceil (v_x2 f l j) (v_fsum f)) := by
  have hlen := v_fil_len2 h1 l
  have hb := v_both_len h1
  have c1:v_sums (fun i => (v_both f).getD i 0 * (((l.drop j).take (2 * f.length - 1)).getD i (0,0)).1) 0 (2 * f.length - 1) = v_x1 f l j :=
    v_sums_congr _ _ fun i _ hi => by rw [v_both_at (by omega),gd_take (by omega),gd_drop]
  have c2:v_sums (fun i => (v_both f).getD i 0 * (((l.drop j).take (2 * f.length - 1)).getD i (0,0)).2) 0 (2 * f.length - 1) = v_x2 f l j :=
    v_sums_congr _ _ fun i _ hi => by rw [v_both_at (by omega),gd_take (by omega),gd_drop]
  rw [v_fil_get h,v_lin_nn _ _ (by rw [List.length_take,List.length_drop]; omega) (v_both_nn hf h1) (fun x hx => hl x (List.mem_of_mem_drop (List.mem_of_mem_take hx))),hb,c1,c2]
/-- A filter returns what grows evenly as it is. -/
theorem v_even {f:List Int} (h1:1≤f.length) (a b:Int):v_sums (fun i => v_at f ((i:Int) - ((f.length:Int) - 1)) * (a + (i:Int) * b)) 0 (2 * f.length - 1) = v_fsum f * (a + ((f.length:Int) - 1) * b) := by
  have o := v_odd (g := fun x => v_at f x * x) (fun x => by rw [v_at_neg,Int.mul_neg]) (f.length - 1)
  rw [show 2 * (f.length - 1) + 1 = 2 * f.length - 1 by omega,show ((f.length - 1:Nat):Int) = (f.length:Int) - 1 by omega] at o
  rw [v_sums_congr (g := fun i => (a + ((f.length:Int) - 1) * b) * v_at f ((i:Int) - ((f.length:Int) - 1)) + b * (v_at f ((i:Int) - ((f.length:Int) - 1)) * ((i:Int) - ((f.length:Int) - 1)))) _ _ (fun i _ _ => by grind),v_sums_add,v_sums_mul,v_sums_mul,o]
  unfold v_fsum
  rw [Int.mul_zero,Int.add_zero,Int.mul_comm]
theorem v_ceil_ge {n d c:Int} (hd:0 < d) (h:c * d≤n):c≤v_ceil n d := by
  have := Int.ediv_le_of_le_mul (a := -n) (b := -c) hd (by rw [Int.neg_mul]; omega)
  unfold v_ceil; omega
theorem v_ceil_le {n d c:Int} (hd:0 < d) (h:n≤c * d):v_ceil n d≤c := by
  have := Int.le_ediv_of_mul_le (a := -c) (b := -n) hd (by rw [Int.neg_mul]; omega)
  unfold v_ceil; omega
/-- Ranges that contain what grows evenly are filtered to such ones,within the same bounds. -/
theorem v_fil_holds {f:List Int} {l:List (Int×Int)} (hf:v_nnf f) (hk:v_fok f) {a b K:Int} (hl:∀ k,k < l.length→(-K≤(l.getD k (0,0)).1∧(l.getD k (0,0)).2≤K)∧(l.getD k (0,0)).1≤a + (k:Int) * b∧a + (k:Int) * b≤(l.getD k (0,0)).2) {j:Nat} (hj:j < (v_fil f l).length):(-K≤((v_fil f l).getD j (0,0)).1∧((v_fil f l).getD j (0,0)).2≤K)∧((v_fil f l).getD j (0,0)).1≤a + ((j:Int) + ((f.length:Int) - 1)) * b∧a + ((j:Int) + ((f.length:Int) - 1)) * b≤((v_fil f l).getD j (0,0)).2 := by
  have h1 := hk.one
  have hp := hk.pos
  have hlen := v_fil_len2 h1 l
  rw [v_fil_nn hf h1 (fun x hx => by
    obtain ⟨k,hk,rfl⟩ := List.getElem_of_mem hx
    have := hl k hk
    rw [gd_get (0,0) hk] at this
    omega) hj]
  have hin:∀ i,0≤i→i < 0 + (2 * f.length - 1)→j + i < l.length := fun i _ hi => by omega
  have e := v_even h1 (a + (j:Int) * b) b
  have ex:a + (j:Int) * b + ((f.length:Int) - 1) * b = a + ((j:Int) + ((f.length:Int) - 1)) * b := by rw [Int.add_mul]; omega
  rw [ex] at e
  have s1:v_x1 f l j≤v_fsum f * (a + ((j:Int) + ((f.length:Int) - 1)) * b) := by
    rw [← e]
    refine v_sums_le _ _ fun i h0 hi => Int.mul_le_mul_of_nonneg_left ?_ (hf _)
    have := (hl (j + i) (hin i h0 hi)).2.1
    rw [show (((j + i:Nat):Int)) * b = (j:Int) * b + (i:Int) * b by rw [Int.natCast_add,Int.add_mul]] at this
    omega
  have s2:v_fsum f * (a + ((j:Int) + ((f.length:Int) - 1)) * b)≤v_x2 f l j := by
    rw [← e]
    refine v_sums_le _ _ fun i h0 hi => Int.mul_le_mul_of_nonneg_left ?_ (hf _)
    have := (hl (j + i) (hin i h0 hi)).2.2
    rw [show (((j + i:Nat):Int)) * b = (j:Int) * b + (i:Int) * b by rw [Int.natCast_add,Int.add_mul]] at this
    omega
  have t1 : -K * v_fsum f≤v_x1 f l j := by
    unfold v_fsum v_x1
    rw [← v_sums_mul]
    refine v_sums_le _ _ fun i h0 hi => ?_
    rw [Int.mul_comm]
    exact Int.mul_le_mul_of_nonneg_left (hl (j + i) (hin i h0 hi)).1.1 (hf _)
  have t2:v_x2 f l j≤K * v_fsum f := by
    unfold v_fsum v_x2
    rw [← v_sums_mul]
    refine v_sums_le _ _ fun i h0 hi => ?_
    rw [Int.mul_comm K]
    exact Int.mul_le_mul_of_nonneg_left (hl (j + i) (hin i h0 hi)).1.2 (hf _)
  rw [Int.mul_comm (v_fsum f)] at s1 s2
  exact ⟨⟨Int.le_ediv_of_mul_le hp t1,v_ceil_le hp t2⟩,Int.ediv_le_of_le_mul hp s1,v_ceil_ge hp s2⟩
/-- Rounding once is never wider than rounding twice. -/
theorem v_twice {n:Nat} {g X:Nat→Int} {s r:Int} (hs:0 < s) (hr:0 < r) (hg:∀ t,t < n→0≤g t):v_sums (fun t => g t * (X t / s)) 0 n / r≤v_sums (fun t => g t * X t) 0 n / (s * r) := by
  refine Int.le_ediv_of_mul_le (Int.mul_pos hs hr) ?_
  have h1 := Int.ediv_mul_le (v_sums (fun t => g t * (X t / s)) 0 n) (show r ≠ 0 by omega)
  have h2:s * v_sums (fun t => g t * (X t / s)) 0 n≤v_sums (fun t => g t * X t) 0 n := by
    rw [← v_sums_mul]
    refine v_sums_le _ _ fun t _ ht => ?_
    have := Int.mul_le_mul_of_nonneg_left (Int.ediv_mul_le (X t) (show s ≠ 0 by omega)) (hg t (by omega))
    grind
  have h3 := Int.mul_le_mul_of_nonneg_left h1 (show 0≤s by omega)
  generalize v_sums (fun t => g t * (X t / s)) 0 n / r = q at *
  have:q * (s * r) = s * (q * r) := by grind
  omega
theorem v_fil_twice {f g:List Int} {l:List (Int×Int)} (hf:v_nnf f) (hg:v_nnf g) (kf:v_fok f) (kg:v_fok g) (hl:∀ x∈l,x.1≤x.2) (ho:∀ x∈v_fil f l,x.1≤x.2) {j:Nat} (hj:j < (v_fil (v_conv f g) l).length) (hj2:j < (v_fil g (v_fil f l)).length):((v_fil g (v_fil f l)).getD j (0,0)).1≤((v_fil (v_conv f g) l).getD j (0,0)).1∧((v_fil (v_conv f g) l).getD j (0,0)).2≤((v_fil g (v_fil f l)).getD j (0,0)).2 := by
  have f1 := kf.one
  have g1 := kg.one
  have hc := v_conv_len f g
  have len2 := v_fil_len2 g1 (v_fil f l)
  rw [v_fil_nn (v_nnf_conv f1 g1 hf hg) (by omega) hl hj,v_fil_nn hg g1 ho hj2,v_fsum_conv f1 g1]
  have x1:v_x1 (v_conv f g) l j = v_sums (fun t => v_at g ((t:Int) - ((g.length:Int) - 1)) * v_x1 f l (j + t)) 0 (2 * g.length - 1) := by
    unfold v_x1
    rw [hc]
    have := v_conv_sum2 f1 g1 (fun k => (l.getD (j + k) (0,0)).1)
    rw [this]
    refine v_sums_congr _ _ fun t _ _ => ?_
    congr 1
    exact v_sums_congr _ _ fun i _ _ => by rw [Nat.add_assoc]
  have x2:v_x2 (v_conv f g) l j = v_sums (fun t => v_at g ((t:Int) - ((g.length:Int) - 1)) * v_x2 f l (j + t)) 0 (2 * g.length - 1) := by
    unfold v_x2
    rw [hc]
    have := v_conv_sum2 f1 g1 (fun k => (l.getD (j + k) (0,0)).2)
    rw [this]
    refine v_sums_congr _ _ fun t _ _ => ?_
    congr 1
    exact v_sums_congr _ _ fun i _ _ => by rw [Nat.add_assoc]
  have y1:v_x1 g (v_fil f l) j = v_sums (fun t => v_at g ((t:Int) - ((g.length:Int) - 1)) * (v_x1 f l (j + t) / v_fsum f)) 0 (2 * g.length - 1) := by
    unfold v_x1
    refine v_sums_congr _ _ fun t _ ht => ?_
    rw [v_fil_nn hf f1 hl (by omega)]; rfl
  have y2:v_x2 g (v_fil f l) j = -v_sums (fun t => v_at g ((t:Int) - ((g.length:Int) - 1)) * (-v_x2 f l (j + t) / v_fsum f)) 0 (2 * g.length - 1) := by
    rw [show ∀ x:Int,-x = -1 * x by intro x; omega,← v_sums_mul]
    unfold v_x2
    refine v_sums_congr _ _ fun t _ ht => ?_
    rw [v_fil_nn hf f1 hl (by omega)]
    unfold v_ceil v_x2
    simp only
    grind
  refine ⟨?_,?_⟩
  · simp only
    rw [y1,x1]
    exact v_twice kf.pos kg.pos (fun t _ => hg _)
  · simp only
    unfold v_ceil
    rw [y2,x2,Int.neg_neg]
    have := v_twice (n := 2 * g.length - 1) (g := fun t => v_at g ((t:Int) - ((g.length:Int) - 1))) (X := fun t => -v_x2 f l (j + t)) kf.pos kg.pos (fun t _ => hg _)
    have e:v_sums (fun t => v_at g ((t:Int) - ((g.length:Int) - 1)) * -v_x2 f l (j + t)) 0 (2 * g.length - 1) = -v_sums (fun t => v_at g ((t:Int) - ((g.length:Int) - 1)) * v_x2 f l (j + t)) 0 (2 * g.length - 1) := by
      rw [show ∀ x:Int,-x = -1 * x by intro x; omega,← v_sums_mul]
      exact v_sums_congr _ _ fun t _ _ => by grind
    rw [e] at this
    omega

theorem v_scan_all {α ρ:Type} {f:Int→α→Option ρ} {e:ρ}:∀ (l:List α) (i:Int),(∀ k,(h:k < l.length)→f (i + k) l[k] = none)→v_scan f e i l = e
  | [],_,_ => rfl
  | x :: r,i,h => by
    unfold v_scan
    have h0 := h 0 (by simp)
    simp only [Int.natCast_zero,Int.add_zero,List.getElem_cons_zero] at h0
    rw [h0]
    refine v_scan_all r (i + 1) fun k hk => ?_
    have := h (k + 1) (by simpa using hk)
    rw [List.getElem_cons_succ] at this
    rw [show i + 1 + (k:Int) = i + ((k + 1:Nat):Int) by omega]; exact this
theorem v_hok.err {p0:List (Int×Int)} (h:v_hok p0):(v_heights p0).2 = 0 := by
  have hl := h.len
  unfold v_heights
  rw [decide_eq_false (show ¬ (p0.length:Int) > 64 by omega),cond_false,v_scan_all]
  intro k hk
  have ha := h.all _ (List.getElem_mem hk)
  have:s_Zg p0[k] 1000000 = 0 := by
    unfold s_Zg s_Z9
    rw [show IntKind.i64.wrap (0 - 1000000) = -1000000 from rfl,tx_within.2 ha.1,tx_within.2 ha.2.1,decide_eq_true ha.2.2]; rfl
  rw [this]; rfl
theorem v_filerr_of {f:List Int} (h1:1≤f.length) (h9:f.length≤9) (hall:∀ x∈f,-100000≤x∧x≤100000) (hp:0 < v_fsum f):v_filerr f = 0 := by
  have:v_any_Zp f = false := by
    refine List.any_eq_false.2 fun x hx => ?_
    have := tx_sized.2 (hall x hx)
    simp [s_Zu,this]
  unfold v_filerr v_fw0
  rw [this,decide_eq_true (show (f.length:Int) > 0 by omega),decide_eq_true (show (f.length:Int)≤9 by omega),decide_eq_true (show v_fsum f > 0 from hp)]
  simp [s_Z7,v_first]
theorem v_reserr_of {R:List Int} {W:List (Int×Int)} {S:Int} (hR:∀ x∈R,-1000000≤x∧x≤1000000) (hl:R.length = W.length) (h3:3≤R.length) (hW:v_hok W) (hS:0≤S∧S≤1000):v_reserr R W S = 0 := by
  have h64 := hW.len
  have hr:s_Z19 R = 0 := by
    unfold s_Z19
    have:v_any_Zr R = false := by
      refine List.any_eq_false.2 fun x hx => ?_
      have b := hR x hx
      have:s_Z9 x 1000000 = true := by
        unfold s_Z9
        rw [show IntKind.i64.wrap (0 - 1000000) = -1000000 from rfl]
        exact tx_within.2 (by omega)
      simp [s_Zz,this]
    rw [this,decide_eq_true (show (R.length:Int)≤64 by omega)]; rfl
  unfold v_reserr
  rw [hr,show s_Za W = 0 from hW.err,tx_within.2 hS,hl,decide_eq_true (show (W.length:Int) ≥ 3 by omega)]
  simp [s_Z7,v_first]
theorem v_flerr_of {f:List Int} {l:List (Int×Int)} (h:v_filerr f = 0) (hl:v_hok l):v_flerr f l = 0 := by
  unfold v_flerr
  rw [h,show s_Za l = 0 from hl.err]; rfl
/-- A flight. -/
abbrev OF:Type := List Int×List Int×List Int×Int×Int×Int
def o_own (p:OF) (i:Nat):Int := p.2.2.2.2.1 + (i:Int) * p.2.2.2.2.2
def o_q (p:OF) (i:Nat):Int := p.1.getD (i + 1) 0 - 2 * p.1.getD i 0 + p.1.getD (i - 1) 0
def o_rd (p:OF) (i:Nat):Int := cond (cond (decide ((i:Int) > 0)) (decide ((i:Int) < (p.1.length:Int) - 1)) false) (o_own p i + p.2.2.2.1 * o_q p i) (o_own p i)
def o_R (p:OF) (j:Nat):List Int := (List.range' 0 j).map (o_rd p)
def o_T (p:OF) (j:Nat):List Int := (List.range' 1 (min j (p.1.length - 1) - 1)).map (o_own p)
def o_e (p:OF) (i:Nat):Int×Int := (p.1.getD i 0,p.1.getD i 0)
def o_w (p:OF) (i:Nat):Int×Int := (p.1.getD i 0 - p.2.1.getD i 0,p.1.getD i 0 + p.2.2.1.getD i 0)
def o_E (p:OF) (j:Nat):List (Int×Int) := (List.range' 0 j).map (o_e p)
def o_W (p:OF) (j:Nat):List (Int×Int) := (List.range' 0 j).map (o_w p)
structure v_fly (p:OF):Prop where
  n3:3≤p.1.length
  n30:p.1.length≤30
  lb:p.2.1.length = p.1.length
  la:p.2.2.1.length = p.1.length
  s:0≤p.2.2.2.1∧p.2.2.2.1≤20
  a : -1000≤p.2.2.2.2.1∧p.2.2.2.2.1≤1000
  b : -20≤p.2.2.2.2.2∧p.2.2.2.2.2≤20
structure o_ok (p:OF) (k:Nat):Prop where
  h : -1000≤p.1.getD k 0∧p.1.getD k 0≤1000
  b:0≤p.2.1.getD k 0∧p.2.1.getD k 0≤100
  a:0≤p.2.2.1.getD k 0∧p.2.2.1.getD k 0≤100
theorem o_len (p:OF) (j:Nat):(o_R p j).length = j∧(o_E p j).length = j∧(o_W p j).length = j∧(o_T p j).length = min j (p.1.length - 1) - 1 := by
  simp [o_R,o_E,o_W,o_T]
theorem o_own_in {p:OF} (h:v_fly p) {i:Nat} (hi:i≤30):(-600≤(i:Int) * p.2.2.2.2.2∧(i:Int) * p.2.2.2.2.2≤600)∧-1600≤o_own p i∧o_own p i≤1600 := by
  have hb := h.b
  have ha := h.a
  have m := mul_abs (x := (i:Int)) (y := p.2.2.2.2.2) (a := 30) (b := 20) (by omega) (by omega) (by omega) (by omega)
  unfold o_own
  omega
section
variable {p:OF} (h:v_fly p) (hk:∀ k,k < p.1.length→o_ok p k)
include h hk
theorem o_q_in {i:Nat} (h0:0 < i) (hi:i + 1 < p.1.length):(-4000≤o_q p i∧o_q p i≤4000)∧-80000≤p.2.2.2.1 * o_q p i∧p.2.2.2.1 * o_q p i≤80000 := by
  have a := (hk (i + 1) hi).h
  have b := (hk i (by omega)).h
  have c := (hk (i - 1) (by omega)).h
  have hs := h.s
  have q : -4000≤o_q p i∧o_q p i≤4000 := by unfold o_q; omega
  have m := mul_abs (x := p.2.2.2.1) (y := o_q p i) (a := 20) (b := 4000) (by omega) (by omega) (by omega) (by omega)
  omega
theorem o_R_in:∀ x∈o_R p p.1.length,-1000000≤x∧x≤1000000 := by
  intro x hx
  have n30 := h.n30
  obtain ⟨i,hi,rfl⟩ := List.mem_map.1 hx
  have hi := List.mem_range'_1.1 hi
  have ho := (o_own_in h (i := i) (by omega)).2
  unfold o_rd
  cases c:cond (decide ((i:Int) > 0)) (decide ((i:Int) < (p.1.length:Int) - 1)) false
  · rw [cond_false]; omega
  · rw [cond_true]
    have c2:0 < i∧i + 1 < p.1.length := by
      cases d:decide ((i:Int) > 0) <;> rw [d] at c
      · cases c
      · have := of_decide_eq_true d
        have := of_decide_eq_true c
        omega
    have := (o_q_in h hk c2.1 c2.2).2
    omega
theorem o_W_hok:v_hok (o_W p p.1.length) := by
  have n30 := h.n30
  refine ⟨by rw [(o_len p _).2.2.1]; omega,fun x hx => ?_⟩
  obtain ⟨i,hi,rfl⟩ := List.mem_map.1 hx
  have hi := List.mem_range'_1.1 hi
  have := hk i (by omega)
  have a := this.h
  have b := this.b
  have c := this.a
  unfold o_w
  simp only; omega
theorem o_E_hok:v_hok (o_E p p.1.length) := by
  have n30 := h.n30
  refine ⟨by rw [(o_len p _).2.1]; omega,fun x hx => ?_⟩
  obtain ⟨i,hi,rfl⟩ := List.mem_map.1 hx
  have hi := List.mem_range'_1.1 hi
  have a := (hk i (by omega)).h
  unfold o_e
  simp only; omega
theorem o_rerr:v_reserr (o_R p p.1.length) (o_W p p.1.length) p.2.2.2.1 = 0∧v_reserr (o_R p p.1.length) (o_E p p.1.length) p.2.2.2.1 = 0 := by
  have hs := h.s
  have n3 := h.n3
  obtain ⟨l1,l2,l3,_⟩ := o_len p p.1.length
  exact ⟨v_reserr_of (o_R_in h hk) (by omega) (by omega) (o_W_hok h hk) (by omega),v_reserr_of (o_R_in h hk) (by omega) (by omega) (o_E_hok h hk) (by omega)⟩
/-- What residuals are. -/
theorem o_res {V:List (Int×Int)} {v:Nat→Int×Int} (hV:V = (List.range' 0 p.1.length).map v) (hv:∀ k,k < p.1.length→(-1100≤(v k).1∧(v k).2≤1100)∧(v k).1≤p.1.getD k 0∧p.1.getD k 0≤(v k).2) {k:Nat} (hk2:k < p.1.length - 2) :
    (v_res (o_R p p.1.length) V p.2.2.2.1).getD k (0,0) = (o_own p (k + 1) - p.2.2.2.1 * ((v (k + 2)).2 - 2 * (v (k + 1)).1 + (v k).2 - o_q p (k + 1)),o_own p (k + 1) + p.2.2.2.1 * (o_q p (k + 1) - ((v (k + 2)).1 - 2 * (v (k + 1)).2 + (v k).1)))∧(0≤p.2.2.2.1 * ((v (k + 2)).2 - 2 * (v (k + 1)).1 + (v k).2 - o_q p (k + 1))∧p.2.2.2.1 * ((v (k + 2)).2 - 2 * (v (k + 1)).1 + (v k).2 - o_q p (k + 1))≤8400 * 20)∧(0≤p.2.2.2.1 * (o_q p (k + 1) - ((v (k + 2)).1 - 2 * (v (k + 1)).2 + (v k).1))∧p.2.2.2.1 * (o_q p (k + 1) - ((v (k + 2)).1 - 2 * (v (k + 1)).2 + (v k).1))≤8400 * 20) := by
  have n30 := h.n30
  have hs := h.s
  have g:∀ j,j < p.1.length→V.getD j (0,0) = v j := fun j hj => by rw [hV,gd_map_range hj,Nat.zero_add]
  have hl:V.length = p.1.length := by rw [hV]; simp
  have a0 := hv k (by omega)
  have a1 := hv (k + 1) (by omega)
  have a2 := hv (k + 2) (by omega)
  have eq:o_q p (k + 1) = p.1.getD (k + 2) 0 - 2 * p.1.getD (k + 1) 0 + p.1.getD k 0 := rfl
  have hq := o_q_in h hk (i := k + 1) (by omega) (by omega)
  have ho := (o_own_in h (i := k + 1) (by omega)).2
  have hr:(o_R p p.1.length).getD (k + 1) 0 = o_own p (k + 1) + p.2.2.2.1 * o_q p (k + 1) := by
    unfold o_R
    rw [gd_map_range (by omega),Nat.zero_add]
    unfold o_rd
    rw [decide_eq_true (show ((k + 1:Nat):Int) > 0 by omega),decide_eq_true (show ((k + 1:Nat):Int) < (p.1.length:Int) - 1 by omega)]; rfl
  unfold v_res
  rw [gd_map_range (by omega),Nat.zero_add,hr,v_acc_get (by omega),g k (by omega),g (k + 1) (by omega),g (k + 2) (by omega),v_sec_eq (by omega) (by omega) (by omega)]
  simp only
  have u:0≤(v (k + 2)).2 - 2 * (v (k + 1)).1 + (v k).2 - o_q p (k + 1)∧(v (k + 2)).2 - 2 * (v (k + 1)).1 + (v k).2 - o_q p (k + 1)≤8400 := by omega
  have w:0≤o_q p (k + 1) - ((v (k + 2)).1 - 2 * (v (k + 1)).2 + (v k).1)∧o_q p (k + 1) - ((v (k + 2)).1 - 2 * (v (k + 1)).2 + (v k).1)≤8400 := by omega
  have m1 := mul_in hs.1 hs.2 u.1 u.2
  have m2 := mul_in hs.1 hs.2 w.1 w.2
  have e1:p.2.2.2.1 * ((v (k + 2)).2 - 2 * (v (k + 1)).1 + (v k).2) = p.2.2.2.1 * ((v (k + 2)).2 - 2 * (v (k + 1)).1 + (v k).2 - o_q p (k + 1)) + p.2.2.2.1 * o_q p (k + 1) := by rw [← Int.mul_add]; congr 1; omega
  have e2:p.2.2.2.1 * ((v (k + 2)).1 - 2 * (v (k + 1)).2 + (v k).1) = p.2.2.2.1 * o_q p (k + 1) - p.2.2.2.1 * (o_q p (k + 1) - ((v (k + 2)).1 - 2 * (v (k + 1)).2 + (v k).1)) := by rw [← Int.mul_sub]; congr 1; omega
  rw [e1,e2]
  generalize p.2.2.2.1 * ((v (k + 2)).2 - 2 * (v (k + 1)).1 + (v k).2 - o_q p (k + 1)) = x at *
  generalize p.2.2.2.1 * (o_q p (k + 1) - ((v (k + 2)).1 - 2 * (v (k + 1)).2 + (v k).1)) = y at *
  generalize p.2.2.2.1 * o_q p (k + 1) = z at *
  refine ⟨?_,by omega,by omega⟩
  rw [wrap_id (n := x + z) (by omega) (by omega),wrap_id (n := z - y) (by omega) (by omega),wrap_id (by omega) (by omega),wrap_id (by omega) (by omega)]
  exact Prod.ext (by simp only; omega) (by simp only; omega)
end
/-- Ranges that contain what grows evenly. -/
def o_in (l:gC) (a b:Int):Prop := ∀ k,k < l.length→(-200000≤(l.getD k (0,0)).1∧(l.getD k (0,0)).2≤200000)∧(l.getD k (0,0)).1≤a + (k:Int) * b∧a + (k:Int) * b≤(l.getD k (0,0)).2
theorem o_in.le {l:List (Int×Int)} {a b:Int} (h:o_in l a b):∀ x∈l,x.1≤x.2 := fun x hx => by
  obtain ⟨k,hk,rfl⟩ := List.getElem_of_mem hx
  have := h k hk
  rw [gd_get (0,0) hk] at this
  omega
theorem o_in.hok {l:List (Int×Int)} {a b:Int} (h:o_in l a b) (hl:l.length≤64):v_hok l := ⟨hl,fun x hx => by
  obtain ⟨k,hk,rfl⟩ := List.getElem_of_mem hx
  have := h k hk
  rw [gd_get (0,0) hk] at this
  omega⟩
theorem o_in.fil {l:List (Int×Int)} {a b:Int} (h:o_in l a b) {f:List Int} (hf:v_nnf f) (kf:v_fok f):o_in (v_fil f l) (a + ((f.length:Int) - 1) * b) b := fun j hj => by
  have := v_fil_holds hf kf (a := a) (b := b) (K := 200000) h hj
  rw [show a + ((f.length:Int) - 1) * b + (j:Int) * b = a + ((j:Int) + ((f.length:Int) - 1)) * b by rw [Int.add_mul]; omega]
  exact this
theorem o_in.hold {p:OF} {l:List (Int×Int)} {m:Nat} (h:o_in l (p.2.2.2.2.1 + p.2.2.2.2.2 + (m:Int) * p.2.2.2.2.2) p.2.2.2.2.2) (hl:(l.length:Int) = ((o_T p p.1.length).length:Int) - 2 * (m:Int)):v_hold l (o_T p p.1.length) (m:Int) = true := by
  refine v_hold_iff.2 ⟨hl,fun i hi => ?_⟩
  have ht := (o_len p p.1.length).2.2.2
  have e:(o_T p p.1.length).getD (i + m) 0 = p.2.2.2.2.1 + p.2.2.2.2.2 + (m:Int) * p.2.2.2.2.2 + (i:Int) * p.2.2.2.2.2 := by
    unfold o_T
    rw [List.getD_eq_getElem?_getD,List.getElem?_map,List.getElem?_range' (by omega)]
    simp only [Option.map_some,Option.getD_some]
    unfold o_own
    rw [show ((1 + 1 * (i + m):Nat):Int) = 1 + ((i:Int) + (m:Int)) by omega,Int.add_mul,Int.add_mul,Int.one_mul]
    omega
  rw [e]
  exact (h i hi).2

theorem o_clo {c:Int} (h : -1600≤c∧c≤1600):t_Z5 ((c,c) :: (-c,-c) :: []) = ((0,0),(2,0)) := by
  have hk:v_hok [(c,c),(-c,-c)] := ⟨by simp,fun x hx => by
    simp only [List.mem_cons,List.not_mem_nil,or_false] at hx
    rcases hx with rfl | rfl <;> simp only <;> omega⟩
  have e:v_clerr [(c,c),(-c,-c)] = 0 := by
    unfold v_clerr
    rw [show s_Za [(c,c),(-c,-c)] = 0 from hk.err]; rfl
  have o:v_ones [(c,c),(-c,-c)] = (0,0) := by
    show (min (1 * c) (1 * c) + (min (1 * -c) (1 * -c) + 0),max (1 * c) (1 * c) + (max (1 * -c) (1 * -c) + 0)) = _
    rw [Int.min_self,Int.max_self,Int.min_self,Int.max_self,pJ]; omega
  unfold t_Z5
  rw [e,o]; rfl
def o_r (p:OF):List (Int×Int) := v_res (o_R p p.1.length) (o_W p p.1.length) p.2.2.2.1
def o_s (p:OF):List (Int×Int) := v_res (o_R p p.1.length) (o_E p p.1.length) p.2.2.2.1
structure o_all (p0:OF) (p1 p2:gF):Prop where
  h:v_fly p0
  k:∀ k,k < p0.1.length→o_ok p0 k
  e1:v_filerr p1 = 0
  e2:v_filerr p2 = 0
  n1:v_nnf p1
  n2:v_nnf p2
section
variable {p0:OF} {p1 p2:List Int} (W:o_all p0 p1 p2)
include W
theorem o_tR:t_Z2 (o_R p0 p0.1.length) (o_W p0 p0.1.length) p0.2.2.2.1 = (o_r p0,0) := by
  unfold t_Z2
  rw [(o_rerr W.h W.k).1]; rfl
theorem o_tS:t_Z2 (o_R p0 p0.1.length) (o_E p0 p0.1.length) p0.2.2.2.1 = (o_s p0,0) := by
  unfold t_Z2
  rw [(o_rerr W.h W.k).2]; rfl
omit W in
theorem o_lens (p0:OF):(o_r p0).length = p0.1.length - 2∧(o_s p0).length = p0.1.length - 2∧(o_T p0 p0.1.length).length = p0.1.length - 2 := by
  obtain ⟨_,l2,l3,l4⟩ := o_len p0 p0.1.length
  refine ⟨by simp [o_r,v_res,l3],by simp [o_s,v_res,l2],by omega⟩
omit W in
theorem o_own_at (p0:OF) (k:Nat):o_own p0 (k + 1) = p0.2.2.2.2.1 + p0.2.2.2.2.2 + (k:Int) * p0.2.2.2.2.2 := by
  unfold o_own
  rw [show ((k + 1:Nat):Int) = (k:Int) + 1 by omega,Int.add_mul,Int.one_mul]; omega
theorem o_r_in:o_in (o_r p0) (p0.2.2.2.2.1 + p0.2.2.2.2.2) p0.2.2.2.2.2 := fun k hk => by
  have hl := (o_lens p0).1
  have n30 := W.h.n30
  obtain ⟨e,x,y⟩ := o_res W.h W.k (V := o_W p0 p0.1.length) (v := o_w p0) rfl (fun j hj => by
    have a := (W.k j hj).h
    have b := (W.k j hj).b
    have c := (W.k j hj).a
    unfold o_w
    simp only; omega) (k := k) (by omega)
  have ho := (o_own_in W.h (i := k + 1) (by omega)).2
  rw [← o_own_at]
  unfold o_r
  rw [e]
  simp only; omega
theorem o_s_at {k:Nat} (hk:k < p0.1.length - 2):(o_s p0).getD k (0,0) = (o_own p0 (k + 1),o_own p0 (k + 1)) := by
  obtain ⟨e,x,y⟩ := o_res W.h W.k (V := o_E p0 p0.1.length) (v := o_e p0) rfl (fun j hj => by
    have a := (W.k j hj).h
    unfold o_e
    simp only; omega) (k := k) hk
  unfold o_s
  rw [e]
  have z1:(o_e p0 (k + 2)).2 - 2 * (o_e p0 (k + 1)).1 + (o_e p0 k).2 - o_q p0 (k + 1) = 0 := by
    show p0.1.getD (k + 2) 0 - 2 * p0.1.getD (k + 1) 0 + p0.1.getD k 0 - (p0.1.getD (k + 2) 0 - 2 * p0.1.getD (k + 1) 0 + p0.1.getD k 0) = 0
    omega
  have z2:o_q p0 (k + 1) - ((o_e p0 (k + 2)).1 - 2 * (o_e p0 (k + 1)).2 + (o_e p0 k).1) = 0 := by
    show (p0.1.getD (k + 2) 0 - 2 * p0.1.getD (k + 1) 0 + p0.1.getD k 0) - (p0.1.getD (k + 2) 0 - 2 * p0.1.getD (k + 1) 0 + p0.1.getD k 0) = 0
    omega
  rw [z1,z2,Int.mul_zero,Int.sub_zero,Int.add_zero]
theorem o_s_in:o_in (o_s p0) (p0.2.2.2.2.1 + p0.2.2.2.2.2) p0.2.2.2.2.2 := fun k hk => by
  have hl := (o_lens p0).2.1
  have n30 := W.h.n30
  have ho := (o_own_in W.h (i := k + 1) (by omega)).2
  rw [o_s_at W (by omega),← o_own_at]
  simp only; omega
theorem o_holds0:v_hold (o_r p0) (o_T p0 p0.1.length) 0 = true∧v_hold (o_s p0) (o_T p0 p0.1.length) 0 = true := by
  obtain ⟨l1,l2,l3⟩ := o_lens p0
  have z:p0.2.2.2.2.1 + p0.2.2.2.2.2 = p0.2.2.2.2.1 + p0.2.2.2.2.2 + ((0:Nat):Int) * p0.2.2.2.2.2 := by simp
  have a := o_r_in W
  have b := o_s_in W
  rw [z] at a b
  exact ⟨a.hold (m := 0) (by omega),b.hold (m := 0) (by omega)⟩
theorem o_k1:v_fok p1∧v_fok p2 := ⟨tx_fok W.e1,tx_fok W.e2⟩
def o_f (p0:OF) (p1:gF):List (Int×Int) := v_fil p1 (o_r p0)
def o_g (p0:OF) (p1 p2:gF):List (Int×Int) := v_fil p2 (o_f p0 p1)
theorem o_f_in:o_in (o_f p0 p1) (p0.2.2.2.2.1 + p0.2.2.2.2.2 + ((p1.length - 1:Nat):Int) * p0.2.2.2.2.2) p0.2.2.2.2.2 := by
  have h1 := (o_k1 W).1.one
  have := (o_r_in W).fil W.n1 (o_k1 W).1
  rw [show ((p1.length - 1:Nat):Int) = (p1.length:Int) - 1 by omega]
  exact this
theorem o_g_in:o_in (o_g p0 p1 p2) (p0.2.2.2.2.1 + p0.2.2.2.2.2 + ((p1.length + p2.length - 2:Nat):Int) * p0.2.2.2.2.2) p0.2.2.2.2.2 := by
  have h1 := (o_k1 W).1.one
  have h2 := (o_k1 W).2.one
  have := (o_f_in W).fil W.n2 (o_k1 W).2
  rw [show ((p1.length + p2.length - 2:Nat):Int) = ((p1.length - 1:Nat):Int) + ((p2.length:Int) - 1) by omega,Int.add_mul,← Int.add_assoc]
  exact this
theorem o_f_len:((o_f p0 p1).length:Int) = max 0 ((p0.1.length:Int) - 2 - 2 * ((p1.length:Int) - 1)) := by
  have n3 := W.h.n3
  have := v_fil_len2 (o_k1 W).1.one (o_r p0)
  rw [(o_lens p0).1] at this
  unfold o_f; omega
theorem o_g_len:((o_g p0 p1 p2).length:Int) = max 0 (((o_f p0 p1).length:Int) - 2 * ((p2.length:Int) - 1)) := v_fil_len2 (o_k1 W).2.one _
theorem o_tF:t_Z3 p1 (o_r p0) = (o_f p0 p1,0) := by
  have n30 := W.h.n30
  unfold t_Z3
  rw [v_flerr_of W.e1 ((o_r_in W).hok (by rw [(o_lens p0).1]; omega))]; rfl
theorem o_tG:t_Z3 p2 (o_f p0 p1) = (o_g p0 p1 p2,0) := by
  have n30 := W.h.n30
  have l := o_f_len W
  have h1 := (o_k1 W).1.one
  unfold t_Z3
  rw [v_flerr_of W.e2 ((o_f_in W).hok (by omega))]; rfl
/-- Two filters composed: too many weights,too great ones,or valid. -/
theorem o_tC:(t_Z4 p1 p2 = ([],8)) ∨ (t_Z4 p1 p2 = (v_conv p1 p2,0)∧v_filerr (v_conv p1 p2) = 0) := by
  have k1 := (o_k1 W).1
  have k2 := (o_k1 W).2
  have f1 := k1.one
  have g1 := k2.one
  have he:v_cerr p1 p2 = s_Z7 (decide ((p1.length:Int) + p2.length - 1≤9)) 8 := by
    unfold v_cerr
    rw [W.e1,W.e2]
    cases decide ((p1.length:Int) + p2.length - 1≤9) <;> rfl
  unfold t_Z4
  rw [he]
  cases c:decide ((p1.length:Int) + p2.length - 1≤9)
  · exact .inl rfl
  · have c := of_decide_eq_true c
    rw [show (s_Z7 true 8 != 0) = false from rfl,cond_false]
    cases d:v_any_Zq (v_conv p1 p2)
    · refine .inr ⟨rfl,v_filerr_of (by rw [v_conv_len]; omega) (by rw [v_conv_len]; omega) (fun x hx => ?_) (by rw [v_fsum_conv f1 g1]; exact Int.mul_pos k1.pos k2.pos)⟩
      have := List.any_eq_false.1 d x hx
      exact tx_sized.1 (by simpa [s_Zs] using this)
    · exact .inl rfl
def o_h (p0:OF) (p1 p2:gF):List (Int×Int) := v_fil (v_conv p1 p2) (o_r p0)
theorem o_h_len:(o_h p0 p1 p2).length = (o_g p0 p1 p2).length := by
  have f1 := (o_k1 W).1.one
  have g1 := (o_k1 W).2.one
  have n3 := W.h.n3
  have a := o_f_len W
  have b := o_g_len W
  have c := v_fil_len2 (f := v_conv p1 p2) (by rw [v_conv_len]; omega) (o_r p0)
  rw [(o_lens p0).1,v_conv_len] at c
  unfold o_h; omega
theorem o_h_in (hv:v_filerr (v_conv p1 p2) = 0):o_in (o_h p0 p1 p2) (p0.2.2.2.2.1 + p0.2.2.2.2.2 + ((p1.length + p2.length - 2:Nat):Int) * p0.2.2.2.2.2) p0.2.2.2.2.2 := by
  have f1 := (o_k1 W).1.one
  have g1 := (o_k1 W).2.one
  have := (o_r_in W).fil (v_nnf_conv f1 g1 W.n1 W.n2) (tx_fok hv)
  rw [v_conv_len] at this
  rw [show ((p1.length + p2.length - 2:Nat):Int) = ((p1.length + p2.length - 1:Nat):Int) - 1 by omega]
  exact this
theorem o_tH (hv:v_filerr (v_conv p1 p2) = 0):t_Z3 (v_conv p1 p2) (o_r p0) = (o_h p0 p1 p2,0) := by
  have n30 := W.h.n30
  unfold t_Z3
  rw [v_flerr_of hv ((o_r_in W).hok (by rw [(o_lens p0).1]; omega))]; rfl
omit W in
theorem o_cf (f:gF):s_Z1 f = f := rfl
def o_Y (p:OF):Int×List Int×List Int×List (Int×Int)×List (Int×Int) := ((p.1.length:Int),o_R p p.1.length,o_T p p.1.length,o_E p p.1.length,o_W p p.1.length)
theorem lp7 (hC:t_Z4 p1 p2 = (v_conv p1 p2,0)) (hv:v_filerr (v_conv p1 p2) = 0) (y1 y4 y63:Int):OkL (st_Z0_7 p0 p1 p2 y1 y4 (o_Y p0) y63) (sp_Z0_7 p0 p1 p2 y1 y4 (o_Y p0) y63) 0∧lpv (.inr (.inr (.inr (.inr false)))) (st_Z0_7 p0 p1 p2 y1 y4 (o_Y p0) y63) 0 = .inr (.inr (.inr (.inr true))) := by
  have tR := o_tR W
  have tF := o_tF W
  have tG := o_tG W
  have tH := o_tH W hv
  have n30 := W.h.n30
  have hl := o_h_len W
  have gl := o_g_len W
  have fl := o_f_len W
  have k1 := o_k1 W
  have f1 := k1.1.one
  have g1 := k1.2.one
  have tw := fun j hj hj2 => v_fil_twice W.n1 W.n2 k1.1 k1.2 (o_r_in W).le (o_f_in W).le (j := j) hj hj2
  refine @for_is Unit Int (Int ⊕ ((Int×List Int×List Int×List (Int×Int)×List (Int×Int)) ⊕ (Int ⊕ (Int ⊕ Bool)))) (.inr (.inr (.inr (.inr false)))) (st_Z0_7 p0 p1 p2 y1 y4 (o_Y p0) y63) (sp_Z0_7 p0 p1 p2 y1 y4 (o_Y p0) y63) (fun i _ => i) 0 (o_h p0 p1 p2).length (fun _ _ => True) (fun _ _ => .inr (.inr (.inr (.inr true)))) (Nat.zero_le _) (by omega) ?_ ?_ () trivial
  · rintro t _
    simp only [sp_Z0_7,st_Z0_7,fM,o_Y,o_cf,tR,tF,tG,hC,tH,decide_eq_false (Int.lt_irrefl ((o_h p0 p1 p2).length:Int)),cond_false]
    refine ⟨?_,by first | rfl | trivial⟩
    repeat' refine And.intro ?_ ?_
    all_goals first
      | (intro h; cases h; done)
      | (intro p hp; cases hp; done)
  · rintro j t _ hj _
    have hw1:IntKind.i64.wrap ((j:Int) + 1) = ((j + 1:Nat):Int) := wrap_id (by omega) (by omega)
    have hd:decide ((j:Int) < ((o_h p0 p1 p2).length:Int)) = true := decide_eq_true (by omega)
    obtain ⟨t1,t2⟩ := tw j hj (show j < (o_g p0 p1 p2).length by omega)
    have d1:decide (((o_h p0 p1 p2).getD j (0,0)).1 < ((o_g p0 p1 p2).getD j (0,0)).1) = false := decide_eq_false (by unfold o_h o_g o_f; omega)
    have d2:decide (((o_h p0 p1 p2).getD j (0,0)).2 > ((o_g p0 p1 p2).getD j (0,0)).2) = false := decide_eq_false (by unfold o_h o_g o_f; omega)
    simp only [sp_Z0_7,st_Z0_7,fM,o_Y,o_cf,tR,tF,tG,hC,tH,hd,hw1,cond_true,cond_false,Int.toNat_natCast,d1,d2]
    refine ⟨?_,.inl ⟨(),by first | rfl | trivial,trivial,by first | rfl | trivial⟩⟩
    repeat' refine And.intro ?_ ?_
    all_goals first
      | (intro p hp; cases hp; done)
      | (intros; omega)
theorem lp8 (y1 y4:Int):OkL (st_Z0_8 p0 p1 p2 y1 y4 (o_Y p0)) (sp_Z0_8 p0 p1 p2 y1 y4 (o_Y p0)) 0∧lpv (.inr (.inr (.inr false))) (st_Z0_8 p0 p1 p2 y1 y4 (o_Y p0)) 0 = .inr (.inr (.inr true)) := by
  have tR := o_tR W
  have tS := o_tS W
  have tF := o_tF W
  have tG := o_tG W
  have n3 := W.h.n3
  have n30 := W.h.n30
  obtain ⟨rl,sl,tl⟩ := o_lens p0
  have k1 := o_k1 W
  have f1 := k1.1.one
  have f9 := k1.1.nine
  have g1 := k1.2.one
  have g9 := k1.2.nine
  have fl := o_f_len W
  have gl := o_g_len W
  have hl := o_h_len W
  refine @for_is Unit Int ((Int×List Int×List Int×List (Int×Int)×List (Int×Int)) ⊕ (Int ⊕ (Int ⊕ Bool))) (.inr (.inr (.inr false))) (st_Z0_8 p0 p1 p2 y1 y4 (o_Y p0)) (sp_Z0_8 p0 p1 p2 y1 y4 (o_Y p0)) (fun i _ => i) 0 (o_s p0).length (fun _ _ => True) (fun _ _ => .inr (.inr (.inr true))) (Nat.zero_le _) (by omega) ?_ ?_ () trivial
  · rintro t _
    have w1:IntKind.i64.wrap ((p1.length:Int) - 1) = ((p1.length - 1:Nat):Int) := by rw [wrap_id (by omega) (by omega)]; omega
    have w2:IntKind.i64.wrap ((p2.length:Int) - 1) = ((p2.length - 1:Nat):Int) := by rw [wrap_id (by omega) (by omega)]; omega
    have w3:IntKind.i64.wrap ((p1.length:Int) + (p2.length:Int)) = (p1.length:Int) + (p2.length:Int) := wrap_id (by omega) (by omega)
    have w4:IntKind.i64.wrap ((p1.length:Int) + (p2.length:Int) - 2) = ((p1.length + p2.length - 2:Nat):Int) := by rw [wrap_id (by omega) (by omega)]; omega
    have w5:IntKind.i64.wrap (2 * ((p1.length - 1:Nat):Int)) = 2 * ((p1.length - 1:Nat):Int) := wrap_id (by omega) (by omega)
    have w6:IntKind.i64.wrap (2 * ((p2.length - 1:Nat):Int)) = 2 * ((p2.length - 1:Nat):Int) := wrap_id (by omega) (by omega)
    have w7:IntKind.i64.wrap (((o_T p0 p0.1.length).length:Int) - 2 * ((p1.length - 1:Nat):Int)) = ((o_T p0 p0.1.length).length:Int) - 2 * ((p1.length - 1:Nat):Int) := wrap_id (by omega) (by omega)
    have w8:IntKind.i64.wrap (((o_f p0 p1).length:Int) - 2 * ((p2.length - 1:Nat):Int)) = ((o_f p0 p1).length:Int) - 2 * ((p2.length - 1:Nat):Int) := wrap_id (by omega) (by omega)
    have c1:(((o_f p0 p1).length:Int) != max 0 (((o_T p0 p0.1.length).length:Int) - 2 * ((p1.length - 1:Nat):Int))) = false := (bne_eq_false_iff_eq ..).2 (by omega)
    have c2:(((o_g p0 p1 p2).length:Int) != max 0 (((o_f p0 p1).length:Int) - 2 * ((p2.length - 1:Nat):Int))) = false := (bne_eq_false_iff_eq ..).2 (by omega)
    have h1:cond (decide (((o_f p0 p1).length:Int) > 0)) (!v_hold (o_f p0 p1) (o_T p0 p0.1.length) ((p1.length - 1:Nat):Int)) false = false := by
      cases d:decide (((o_f p0 p1).length:Int) > 0)
      · rfl
      · have d := of_decide_eq_true d
        rw [(o_f_in W).hold (by omega)]; rfl
    have h2:cond (decide (((o_g p0 p1 p2).length:Int) > 0)) (!v_hold (o_g p0 p1 p2) (o_T p0 p0.1.length) ((p1.length + p2.length - 2:Nat):Int)) false = false := by
      cases d:decide (((o_g p0 p1 p2).length:Int) > 0)
      · rfl
      · have d := of_decide_eq_true d
        rw [(o_g_in W).hold (by omega)]; rfl
    have h3:s_Ze (o_f p0 p1) = 0 := ((o_f_in W).hok (by omega)).err
    rcases o_tC W with hC | ⟨hC,hv⟩
    · simp only [sp_Z0_8,st_Z0_8,fM,o_Y,o_cf,tR,tS,tF,tG,hC,decide_eq_false (Int.lt_irrefl ((o_s p0).length:Int)),cond_false,bne_self_eq_false,w1,w2,w3,w4,w5,w6,w7,w8,c1,c2,h1,h2,h3,show ((8:Int) != 0) = true from rfl,cond_true]
      refine ⟨?_,by first | rfl | trivial⟩
      repeat' refine And.intro ?_ ?_
      all_goals first
        | (intro h; cases h; done)
        | (intro p hp; cases hp; done)
        | (intros; omega)
        | (intros; unfold lenOk; omega)
        | (intro _ h; cases h; done)
        | (intro _ _ h; cases h; done)
        | (intro _ _ _ h; cases h; done)
        | (intro _ _ _ _ h; cases h; done)
        | (intros; simp; done)
    · have tH := o_tH W hv
      have c3:(((o_h p0 p1 p2).length:Int) != ((o_g p0 p1 p2).length:Int)) = false := (bne_eq_false_iff_eq ..).2 (by omega)
      have h4:cond (decide (((o_h p0 p1 p2).length:Int) > 0)) (!v_hold (o_h p0 p1 p2) (o_T p0 p0.1.length) ((p1.length + p2.length - 2:Nat):Int)) false = false := by
        cases d:decide (((o_h p0 p1 p2).length:Int) > 0)
        · rfl
        · have d := of_decide_eq_true d
          rw [(o_h_in W hv).hold (by omega)]; rfl
      have cl:(v_conv p1 p2).length≤18 := by rw [v_conv_len]; omega
      obtain ⟨q1,q2⟩ := lp7 W hC hv y1 y4 (o_s p0).length
      have hY:((p0.1.length:Int),o_R p0 p0.1.length,o_T p0 p0.1.length,o_E p0 p0.1.length,o_W p0 p0.1.length) = o_Y p0 := rfl
      simp only [sp_Z0_8,st_Z0_8,fM,show (o_Y p0).2.1 = o_R p0 p0.1.length from rfl,show (o_Y p0).2.2.1 = o_T p0 p0.1.length from rfl,show (o_Y p0).2.2.2.1 = o_E p0 p0.1.length from rfl,show (o_Y p0).2.2.2.2 = o_W p0 p0.1.length from rfl,o_cf,tR,tS,tF,tG,hC,tH,decide_eq_false (Int.lt_irrefl ((o_s p0).length:Int)),cond_false,bne_self_eq_false,w1,w2,w3,w4,w5,w6,w7,w8,c1,c2,c3,h1,h2,h3,h4,q2]
      refine ⟨?_,by first | rfl | trivial⟩
      repeat' refine And.intro ?_ ?_
      all_goals first
        | (intro h; cases h; done)
        | (intro p hp; cases hp; done)
        | (intros; omega)
        | (intros; unfold lenOk; omega)
        | (intros; exact q1)
        | (intro _ _ h; cases h; done)
        | (intro _ h; cases h; done)
        | (intros; simp; done)
  · rintro j t _ hj _
    have hw1:IntKind.i64.wrap ((j:Int) + 1) = ((j + 1:Nat):Int) := wrap_id (by omega) (by omega)
    have hd:decide ((j:Int) < ((o_s p0).length:Int)) = true := decide_eq_true (by omega)
    have es := o_s_at W (k := j) (by omega)
    have ho := (o_own_in W.h (i := j + 1) (by omega)).2
    have et:(o_T p0 p0.1.length).getD j 0 = o_own p0 (j + 1) := by
      unfold o_T
      rw [List.getD_eq_getElem?_getD,List.getElem?_map,List.getElem?_range' (by omega)]
      simp only [Option.map_some,Option.getD_some]
      congr 1; omega
    have wn:IntKind.i64.wrap (0 - o_own p0 (j + 1)) = -o_own p0 (j + 1) := by rw [wrap_id (by omega) (by omega)]; omega
    have cl := o_clo ho
    simp only [sp_Z0_8,st_Z0_8,fM,o_Y,tS,hd,hw1,cond_true,cond_false,Int.toNat_natCast,es,et,wn,cl,bne_self_eq_false,beq_self_eq_true,Bool.and_self,Bool.not_true]
    refine ⟨?_,.inl ⟨(),by first | rfl | trivial,trivial,by first | rfl | trivial⟩⟩
    repeat' refine And.intro ?_ ?_
    all_goals first
      | (intro p hp; cases hp; done)
      | (intro h; cases h; done)
      | (intros; omega)
end

/-- A reading as it is computed before all heights are looked at. -/
def o_rdw (p:OF) (i:Nat):Int := cond (cond (decide ((i:Int) > 0)) (decide ((i:Int) < (p.1.length:Int) - 1)) false) (IntKind.i64.wrap (o_own p i + IntKind.i64.wrap (p.2.2.2.1 * IntKind.i64.wrap (IntKind.i64.wrap (p.1.getD (i + 1) 0 - IntKind.i64.wrap (2 * p.1.getD i 0)) + p.1.getD (i - 1) 0)))) (o_own p i)
def o_Rw (p:OF) (j:Nat):List Int := (List.range' 0 j).map (o_rdw p)
structure o_pre (p0:OF) (p1 p2:gF):Prop where
  h:v_fly p0
  e1:v_filerr p1 = 0
  e2:v_filerr p2 = 0
  n1:v_nnf p1
  n2:v_nnf p2
theorem o_Rw_eq {p:OF} (h:v_fly p) (hk:∀ k,k < p.1.length→o_ok p k):o_Rw p p.1.length = o_R p p.1.length := by
  refine List.map_congr_left fun i hi => ?_
  have hi := List.mem_range'_1.1 hi
  have n30 := h.n30
  have ho := (o_own_in h (i := i) (by omega)).2
  unfold o_rdw o_rd
  cases c:cond (decide ((i:Int) > 0)) (decide ((i:Int) < (p.1.length:Int) - 1)) false
  · rfl
  · have c2:0 < i∧i + 1 < p.1.length := by
      cases d:decide ((i:Int) > 0) <;> rw [d] at c
      · cases c
      · have := of_decide_eq_true d
        have := of_decide_eq_true c
        omega
    have q := o_q_in h hk c2.1 c2.2
    have a0 := (hk (i + 1) c2.2).h
    have a1 := (hk i (by omega)).h
    have a2 := (hk (i - 1) (by omega)).h
    rw [cond_true,cond_true,wrap_id (n := 2 * p.1.getD i 0) (by omega) (by omega),wrap_id (n := p.1.getD (i + 1) 0 - 2 * p.1.getD i 0) (by omega) (by omega),wrap_id (n := p.1.getD (i + 1) 0 - 2 * p.1.getD i 0 + p.1.getD (i - 1) 0) (by omega) (by omega)]
    show IntKind.i64.wrap (o_own p i + IntKind.i64.wrap (p.2.2.2.1 * o_q p i)) = _
    rw [wrap_id (n := p.2.2.2.1 * o_q p i) (by omega) (by omega),wrap_id (by omega) (by omega)]
theorem o_T_step (p:OF) {j:Nat} (h3:3≤p.1.length) (hj:j < p.1.length):o_T p (j + 1) = cond (cond (decide ((j:Int) > 0)) (decide ((j:Int) < (p.1.length:Int) - 1)) false) (o_T p j ++ [o_own p j]) (o_T p j) := by
  unfold o_T
  cases c:cond (decide ((j:Int) > 0)) (decide ((j:Int) < (p.1.length:Int) - 1)) false
  · rw [cond_false]
    congr 2
    cases d:decide ((j:Int) > 0) <;> rw [d] at c
    · have := of_decide_eq_false d; omega
    · have := of_decide_eq_false c; omega
  · have c2:0 < j∧j + 1 < p.1.length := by
      cases d:decide ((j:Int) > 0) <;> rw [d] at c
      · cases c
      · have := of_decide_eq_true d
        have := of_decide_eq_true c
        omega
    rw [cond_true,show min (j + 1) (p.1.length - 1) - 1 = (min j (p.1.length - 1) - 1) + 1 by omega,List.range'_concat,List.map_append,show 1 + 1 * (min j (p.1.length - 1) - 1) = j by omega]
    rfl
section
variable {p0:OF} {p1 p2:List Int} (W:o_pre p0 p1 p2)
include W
theorem lp9 (y1 y4:Int):OkL (st_Z0_9 p0 p1 p2 y1 y4) (sp_Z0_9 p0 p1 p2 y1 y4) (0,[],[],[],[])∧lpv (.inr (.inr false)) (st_Z0_9 p0 p1 p2 y1 y4) (0,[],[],[],[]) = .inr (.inr true) := by
  have n3 := W.h.n3
  have n30 := W.h.n30
  have lb := W.h.lb
  have la := W.h.la
  refine @for_is (List Int×List Int×List (Int×Int)×List (Int×Int)) (Int×List Int×List Int×List (Int×Int)×List (Int×Int)) (Int ⊕ (Int ⊕ Bool)) (.inr (.inr false)) (st_Z0_9 p0 p1 p2 y1 y4) (sp_Z0_9 p0 p1 p2 y1 y4) (fun i t => (i,t)) 0 p0.1.length (fun j t => t = (o_Rw p0 j,o_T p0 j,o_E p0 j,o_W p0 j)∧∀ k,k < j→o_ok p0 k) (fun _ _ => .inr (.inr true)) (Nat.zero_le _) (by omega) ?_ ?_ ([],[],[],[]) ⟨by simp [o_Rw,o_T,o_E,o_W],fun k hk => by omega⟩
  · rintro t ⟨rfl,hk⟩
    have A:o_all p0 p1 p2 := ⟨W.h,hk,W.e1,W.e2,W.n1,W.n2⟩
    rw [o_Rw_eq W.h hk]
    have tR := o_tR A
    have tS := o_tS A
    obtain ⟨h1,h2⟩ := o_holds0 A
    obtain ⟨rl,sl,tl⟩ := o_lens p0
    have h3:s_Ze (o_r p0) = 0 := ((o_r_in A).hok (by omega)).err
    obtain ⟨q1,q2⟩ := lp8 A y1 y4
    obtain ⟨l1,l2,l3,l4⟩ := o_len p0 p0.1.length
    show (∀ p∈sp_Z0_9 p0 p1 p2 y1 y4 (o_Y p0),p)∧st_Z0_9 p0 p1 p2 y1 y4 (o_Y p0) = _
    simp only [sp_Z0_9,st_Z0_9,fM,show (o_Y p0).1 = (p0.1.length:Int) from rfl,show (o_Y p0).2.1 = o_R p0 p0.1.length from rfl,show (o_Y p0).2.2.1 = o_T p0 p0.1.length from rfl,show (o_Y p0).2.2.2.1 = o_E p0 p0.1.length from rfl,show (o_Y p0).2.2.2.2 = o_W p0 p0.1.length from rfl,tR,tS,h1,h2,h3,q2,decide_eq_false (Int.lt_irrefl (p0.1.length:Int)),cond_false,bne_self_eq_false,Bool.not_true]
    refine ⟨?_,by first | rfl | trivial⟩
    repeat' refine And.intro ?_ ?_
    all_goals first
      | (intro h; cases h; done)
      | (intro p hp; cases hp; done)
      | (intros; omega)
      | (intros; unfold lenOk; omega)
      | (intro _ h; cases h; done)
      | (intro _ _ h; cases h; done)
      | (intro _ _ _ h; cases h; done)
      | (intros; exact q1)
      | (intros; simp; done)
  · rintro j t _ hj ⟨rfl,hk⟩
    have hw1:IntKind.i64.wrap ((j:Int) + 1) = ((j + 1:Nat):Int) := wrap_id (by omega) (by omega)
    have hw2:IntKind.i64.wrap ((j:Int) - 1) = (j:Int) - 1 := wrap_id (by omega) (by omega)
    have hw3:IntKind.i64.wrap ((p0.1.length:Int) - 1) = (p0.1.length:Int) - 1 := wrap_id (by omega) (by omega)
    have n1:((j:Int) - 1).toNat = j - 1 := by omega
    have hd:decide ((j:Int) < (p0.1.length:Int)) = true := decide_eq_true (by omega)
    obtain ⟨om,oi⟩ := o_own_in W.h (i := j) (by omega)
    have ww:IntKind.i64.wrap (p0.2.2.2.2.1 + IntKind.i64.wrap ((j:Int) * p0.2.2.2.2.2)) = o_own p0 j := by
      rw [wrap_id (n := (j:Int) * p0.2.2.2.2.2) (by omega) (by omega)]
      exact wrap_id (by unfold o_own at oi; omega) (by unfold o_own at oi; omega)
    obtain ⟨l1,l2,l3,l4⟩ := o_len p0 j
    have l5:(o_Rw p0 j).length = j := by simp [o_Rw]
    have inn:cond (decide ((j:Int) > 0)) (decide ((j:Int) < (p0.1.length:Int) - 1)) false = true→0 < j∧j + 1 < p0.1.length := fun c => by
      cases d:decide ((j:Int) > 0) <;> rw [d] at c
      · cases c
      · have := of_decide_eq_true d
        have := of_decide_eq_true c
        omega
    simp only [sp_Z0_9,st_Z0_9,fM,hd,cond_true,hw1,hw2,hw3,n1,Int.toNat_natCast,ww]
    refine ⟨?_,?_⟩
    · repeat' refine And.intro ?_ ?_
      all_goals first
        | (intro h; cases h; done)
        | (intro p hp; cases hp; done)
        | (intros; omega)
        | (intro _ _ h; have := inn h; omega)
        | (intros; simp only [List.length_cons,List.length_nil]; omega)
    · cases c:cond (cond (!s_Z6 (p0.1.getD j 0) (-1000) 1000) true (!s_Z6 (p0.2.1.getD j 0) 0 100)) true (!s_Z6 (p0.2.2.1.getD j 0) 0 100)
      · have ok:o_ok p0 j := by
          cases c1:s_Z6 (p0.1.getD j 0) (-1000) 1000 <;> rw [c1] at c
          · cases c
          cases c2:s_Z6 (p0.2.1.getD j 0) 0 100 <;> rw [c2] at c
          · cases c
          cases c3:s_Z6 (p0.2.2.1.getD j 0) 0 100 <;> rw [c3] at c
          · cases c
          exact ⟨tx_within.1 c1,tx_within.1 c2,tx_within.1 c3⟩
        have oh := ok.h
        have ob := ok.b
        have oa := ok.a
        have e1:o_Rw p0 (j + 1) = o_Rw p0 j ++ [o_rdw p0 j] := by unfold o_Rw; rw [List.range'_concat,List.map_append]; simp
        have e2 := o_T_step p0 n3 hj
        have e3:o_E p0 (j + 1) = o_E p0 j ++ [o_e p0 j] := by unfold o_E; rw [List.range'_concat,List.map_append]; simp
        have e4:o_W p0 (j + 1) = o_W p0 j ++ [o_w p0 j] := by unfold o_W; rw [List.range'_concat,List.map_append]; simp
        have w5:IntKind.i64.wrap (p0.1.getD j 0 - p0.2.1.getD j 0) = p0.1.getD j 0 - p0.2.1.getD j 0 := wrap_id (by omega) (by omega)
        have w6:IntKind.i64.wrap (p0.1.getD j 0 + p0.2.2.1.getD j 0) = p0.1.getD j 0 + p0.2.2.1.getD j 0 := wrap_id (by omega) (by omega)
        simp only [cond_false,w5,w6]
        refine .inl ⟨(o_Rw p0 (j + 1),o_T p0 (j + 1),o_E p0 (j + 1),o_W p0 (j + 1)),?_,⟨rfl,fun k hk2 => ?_⟩,by first | rfl | trivial⟩
        · rw [e1,e2,e3,e4]
          unfold o_rdw o_e o_w
          cases cond (decide ((j:Int) > 0)) (decide ((j:Int) < (p0.1.length:Int) - 1)) false <;> rfl
        · rcases Nat.lt_or_ge k j with g | g
          · exact hk k g
          · obtain rfl:k = j := by omega
            exact ok
      · exact .inr (by first | rfl | trivial)
end
section
variable {p0:OF} {p1 p2:List Int} (H:v_fly p0) (E1:v_filerr p1 = 0) (E2:v_filerr p2 = 0)
include H E1 E2
theorem lp10 (N1:v_nnf p1) (y1:Int):OkL (st_Z0_10 p0 p1 p2 y1) (sp_Z0_10 p0 p1 p2 y1) 0∧lpv (.inr false) (st_Z0_10 p0 p1 p2 y1) 0 = .inr true := by
  have g9 := (tx_fok E2).nine
  refine @for_is Unit Int (Int ⊕ Bool) (.inr false) (st_Z0_10 p0 p1 p2 y1) (sp_Z0_10 p0 p1 p2 y1) (fun i _ => i) 0 p2.length (fun j _ => ∀ k,k < j→0≤p2.getD k 0) (fun _ _ => .inr true) (Nat.zero_le _) (by omega) ?_ ?_ () (fun k hk => by omega)
  · rintro t hn
    obtain ⟨q1,q2⟩ := lp9 ⟨H,E1,E2,N1,v_nnf_of hn⟩ y1 p2.length
    simp only [sp_Z0_10,st_Z0_10,fM,decide_eq_false (Int.lt_irrefl (p2.length:Int)),cond_false,q2]
    refine ⟨?_,by first | rfl | trivial⟩
    repeat' refine And.intro ?_ ?_
    all_goals first
      | (intro h; cases h; done)
      | (intro p hp; cases hp; done)
      | (intros; exact q1)
  · rintro j t _ hj hn
    have hw1:IntKind.i64.wrap ((j:Int) + 1) = ((j + 1:Nat):Int) := wrap_id (by omega) (by omega)
    have hd:decide ((j:Int) < (p2.length:Int)) = true := decide_eq_true (by omega)
    simp only [sp_Z0_10,st_Z0_10,fM,hd,cond_true,hw1,Int.toNat_natCast]
    refine ⟨?_,?_⟩
    · repeat' refine And.intro ?_ ?_
      all_goals first
        | (intro h; cases h; done)
        | (intro p hp; cases hp; done)
        | (intros; omega)
    · cases c:decide (p2.getD j 0 < 0)
      · have c := of_decide_eq_false c
        refine .inl ⟨(),by first | rfl | trivial,fun k hk => ?_,by first | rfl | trivial⟩
        rcases Nat.lt_or_ge k j with g | g
        · exact hn k g
        · obtain rfl:k = j := by omega
          omega
      · exact .inr (by first | rfl | trivial)
theorem lp11:OkL (st_Z0_11 p0 p1 p2) (sp_Z0_11 p0 p1 p2) 0∧lpv false (st_Z0_11 p0 p1 p2) 0 = true := by
  have f9 := (tx_fok E1).nine
  refine @for_is Unit Int Bool false (st_Z0_11 p0 p1 p2) (sp_Z0_11 p0 p1 p2) (fun i _ => i) 0 p1.length (fun j _ => ∀ k,k < j→0≤p1.getD k 0) (fun _ _ => true) (Nat.zero_le _) (by omega) ?_ ?_ () (fun k hk => by omega)
  · rintro t hn
    obtain ⟨q1,q2⟩ := lp10 H E1 E2 (v_nnf_of hn) p1.length
    simp only [sp_Z0_11,st_Z0_11,fM,decide_eq_false (Int.lt_irrefl (p1.length:Int)),cond_false,q2]
    refine ⟨?_,by first | rfl | trivial⟩
    repeat' refine And.intro ?_ ?_
    all_goals first
      | (intro h; cases h; done)
      | (intro p hp; cases hp; done)
      | (intros; exact q1)
  · rintro j t _ hj hn
    have hw1:IntKind.i64.wrap ((j:Int) + 1) = ((j + 1:Nat):Int) := wrap_id (by omega) (by omega)
    have hd:decide ((j:Int) < (p1.length:Int)) = true := decide_eq_true (by omega)
    simp only [sp_Z0_11,st_Z0_11,fM,hd,cond_true,hw1,Int.toNat_natCast]
    refine ⟨?_,?_⟩
    · repeat' refine And.intro ?_ ?_
      all_goals first
        | (intro h; cases h; done)
        | (intro p hp; cases hp; done)
        | (intros; omega)
    · cases c:decide (p1.getD j 0 < 0)
      · have c := of_decide_eq_false c
        refine .inl ⟨(),by first | rfl | trivial,fun k hk => ?_,by first | rfl | trivial⟩
        rcases Nat.lt_or_ge k j with g | g
        · exact hn k g
        · obtain rfl:k = j := by omega
          omega
      · exact .inr (by first | rfl | trivial)
end
/-- The plain law. -/
theorem plain_Z0 (p0:List Int×List Int×List Int×Int×Int×Int) (p1 p2:gF) (_:okPs P_Z0 (p0,p1,p2)):(∀ p∈pre_Z0 p0 p1 p2,p)∧s_Z0 p0 p1 p2 = true := by
  simp only [pre_Z0,s_Z0,fM]
  by_cases g1:(p0.1.length:Int) < 3
  · rw [decide_eq_true g1]; simp
  by_cases g2:(p0.1.length:Int) > 30
  · rw [decide_eq_true g2]; simp
  rw [decide_eq_false g1,decide_eq_false g2]
  by_cases g3:(p0.2.1.length:Int) = (p0.1.length:Int)
  rotate_left
  · rw [bne_iff_ne.2 g3]; simp
  by_cases g4:(p0.2.2.1.length:Int) = (p0.1.length:Int)
  rotate_left
  · rw [bne_iff_ne.2 g4]; simp
  rw [(bne_eq_false_iff_eq ..).2 g3,(bne_eq_false_iff_eq ..).2 g4]
  cases c1:s_Z6 p0.2.2.2.1 0 20
  · simp
  cases c2:s_Z6 p0.2.2.2.2.1 (-1000) 1000
  · simp
  cases c3:s_Z6 p0.2.2.2.2.2 (-20) 20
  · simp
  rcases int0 (v_filerr p1) with ⟨z1,e1,_⟩ | ⟨z1,e1,_⟩
  rotate_left
  · rw [e1]; simp
  rcases int0 (v_filerr p2) with ⟨z2,e2,_⟩ | ⟨z2,e2,_⟩
  rotate_left
  · rw [e2]; simp
  rw [e1,e2]
  obtain ⟨q1,q2⟩ := lp11 (p0 := p0) ⟨by omega,by omega,by omega,by omega,tx_within.1 c1,tx_within.1 c2,tx_within.1 c3⟩ z1 z2
  rw [q2]
  exact ⟨⟨fun _ => q1,fun p hp => by cases hp⟩,rfl⟩


theorem own:ownKnob Tryd.prog.godebug = none := by kernel_rfl
theorem laidOut:laidOutB Tryd.prog = true := by kernel_rfl
theorem hfn3:Tryd.prog.funcs[3]? = some (fnOf Tryd.prog 3) := by kernel_rfl
theorem hps3:(fnOf Tryd.prog 3).params.size = 3 := by kernel_rfl
theorem globs (W:World) (h:laidMetH Tryd.prog Rows.topGravityTruthRow.laid W):Glob (fun b => b < W.heap.size) W := by
  intro g cs hg
  match g,hg with
  | 0,hg =>
    have e:[.int .i64 1,.int .i64 (-2),.int .i64 1] = cs := Option.some.inj hg
    subst e
    exact glob_ints (zs := [1,-2,1]) (k := .i64) (t := 63) (e := 3) h (by kernel_rfl) (n := "cloverleaf/gravity.second") (.head _) (by kernel_rfl) (by kernel_rfl) (by kernel_rfl) (by kernel_rfl) (by kernel_rfl)
  | _ + 1,hg => cases hg
theorem lifted_TopGravityTruth (os:Os) (started:os.Started) (H:Type) (enc:TypeId×Value→H) :
    ReturnsInHanded {} Tryd.checked os 3 .any (fun w args => (Rows.topGravityTruthSpec.pre enc Tryd.prog (fnOf Tryd.prog 3) Rows.topGravityTruthRow.domain false w args∧laidMetH Tryd.prog Rows.topGravityTruthRow.laid w)∧sizedMet enc Tryd.prog (fnOf Tryd.prog 3) (OpenSpec.ofChange Rows.topGravityTruthSpec) false w args)
      (Rows.topGravityTruthSpec.post enc Tryd.prog (fnOf Tryd.prog 3) false true false false) :=
  said_of_laid (C := Tryd.checked) (laid := Rows.topGravityTruthRow.laid) (ss := P_Z0.map shP) (by kernel_rfl) own started (by kernel_rfl) hfn3
    (ChangeSpec.witness_shaped (enc := enc) (C := Tryd.checked) (os := os) (X := fun w _ => laidMetH Tryd.prog Rows.topGravityTruthRow.laid w) false (World.laidAll Tryd.prog os Rows.topGravityTruthRow.laid) (zeroArgs P_Z0) 8 (World.laidAll_os _ _ _)
      (World.shaped_of_ZipB (by kernel_rfl) (by kernel_rfl)) (by kernel_rfl) (by kernel_rfl) (by kernel_rfl)
      (by rw [MakeChecks.laidMetH_plain _ _ _ (by kernel_rfl)]; exact laidMet_laidAll _ (by kernel_rfl) (by kernel_rfl))) rfl
    (fun ds h => by
      rw [hps3] at h
      match ds,h with
      | [_,_,_],_ => rfl)
    laidOut (by kernel_rfl) (rt := (fnOf Tryd.prog 3).resultTypes.getD 0 0) (by kernel_rfl) (by kernel_rfl) (by kernel_rfl)
    (law_of ok_Z0 fun x hx => ⟨(plain_Z0 x.1 x.2.1 x.2.2 hx).1,congrArg (fun b => V.p (.bool b)) (plain_Z0 x.1 x.2.1 x.2.2 hx).2⟩) globs
theorem TopGravityTruth_holds:Rows.TopGravityTruthSaid :=
  OpenClaim.holds_of_wide 3 (fnOf Tryd.prog 3) rfl rfl rfl rfl rfl rfl rfl ⟨rfl,rfl,rfl,rfl,rfl⟩ rfl rfl rfl rfl rfl (by kernel_rfl) hfn3 (by kernel_rfl)
    (of_decide_eq_true (by kernel_rfl)) (by unfold Func.isWrapper; first | (rw [if_pos (by decide +kernel)]; kernel_rfl) | (rw [if_neg (by decide +kernel)]; exact ⟨rfl,rfl⟩))
    (fun os started H enc _ => lifted_TopGravityTruth os started H enc)
theorem TopGravityTruthCard_holds:Rows.TopGravityTruthCardSaid :=
  Claim7.holds_tied_plain_at .later [] [.widerDeep] true (true,"7ccf3f3760c9964838b68f759d3d3794a9a86fc3cf8e7e55709905eac66918cb") false TopGravityTruth_holds (fun _ h => by cases h) (by kernel_rfl) (fun _ h => by cases h) topGravityTruth_row_tie rfl ⟨rfl,rfl⟩ (by kernel_rfl) rfl
    (fun f fn hf hfn => by
      obtain rfl:f = 3 := Option.some.inj ((show Tryd.prog.funcNamed "cloverleaf/cloverleaftop.TopGravityTruth" = some 3 by kernel_rfl).symm.trans hf) |>.symm
      obtain rfl:fn = fnOf Tryd.prog 3 := (Option.some.inj (hfn3.symm.trans hfn)).symm
      exact ⟨by kernel_rfl,fun j t ht => by
        have hm:t∈(fnOf Tryd.prog 3).params.toList := by simpa using Array.mem_of_getElem? ht
        have hall:((fnOf Tryd.prog 3).params.toList.all fun u => !Tryd.prog.wantsStandIn u) = true := by kernel_rfl
        exact (show Tryd.prog.wantsStandIn t = false by simpa using List.all_eq_true.1 hall t hm)⟩)
    (by kernel_rfl)
end Go.Proofs.YtfapfcjioianbaaDoor
