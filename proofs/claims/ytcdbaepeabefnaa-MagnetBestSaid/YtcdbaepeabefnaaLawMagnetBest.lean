/- MagnetBest: the given statement is proved: at every input the law returns true, and the input reads as it did. No condition. -/
import Derived.Test.YtcdbaepeabefnaaWalkMagnetBest
import Derived.Test.YtcdbaepeabefnaaLayB
import Derived.Test.YtcdbaepeabefnaaMxU
import Derived.Test.YtcdbaepeabefnaaRows
import Derived.ProofKit
namespace Go.Proofs.Ytcdbaepeabefnaa
open Go Go.Mx
set_option maxRecDepth 100000
set_option maxHeartbeats 4000000
/-- Readings to which numbers are added. -/
def v_mv (g:Nat→Int) (l:List tQB):List tQB := (List.range' 0 l.length).map fun i => ((l.getD i (0,0,0,0,0)).1,(l.getD i (0,0,0,0,0)).2.1,(l.getD i (0,0,0,0,0)).2.2.1,(l.getD i (0,0,0,0,0)).2.2.2.1,(l.getD i (0,0,0,0,0)).2.2.2.2 + g i)
theorem jbK (g:Nat→Int) (l:List tQB):(v_mv g l).length = l.length := by unfold v_mv; simp
theorem jcl {g:Nat→Int} {l:List tQB} {i:Nat} (h:i < l.length):(v_mv g l).getD i (0,0,0,0,0) = ((l.getD i (0,0,0,0,0)).1,(l.getD i (0,0,0,0,0)).2.1,(l.getD i (0,0,0,0,0)).2.2.1,(l.getD i (0,0,0,0,0)).2.2.2.1,(l.getD i (0,0,0,0,0)).2.2.2.2 + g i) := by
 unfold v_mv
 rw [List.getD_eq_getElem?_getD,List.getElem?_map,List.getElem?_range' h]; simp
theorem jnz {g:Nat→Int} {l:List tQB} {i:Nat} (h:i < l.length):jae (v_mv g l) i = jae l i := by
 unfold jae
 rw [jcl h,jcl (show i - 1 < l.length by omega)]
/-- A term of a sample. -/
def v_tt (l:List tQB) (i t:Nat):Int := (ja7 (jae l i)).getD t 0
theorem jfW (l:List tQB) (c:gF) (k j:Nat):v_tk l c k j = v_tt l k (c.getD j 0).toNat := rfl
theorem jD4 (g:Nat→Int) (l:List tQB) (c:gF) (r s m:Nat) (hm:m≤l.length):v_gs (v_mv g l) c r s m = v_gs l c r s m := by
 unfold v_gs
 refine jcL m 0 fun k _ hk => ?_
 rw [jfW,jfW,jfW,jfW]
 unfold v_tt
 rw [jnz (by omega)]
theorem js7 (g:Nat→Int) (l:List tQB) (c:gF):v_G (v_mv g l) c = v_G l c := by
 funext r s
 unfold v_G jat
 rw [jbK,jD4 g l c r s _ (Nat.le_refl _)]
theorem js8 (g:Nat→Int) (l:List tQB) (c:gF) (r:Nat):∀ m,m≤l.length→v_rs (v_mv g l) c r m = v_rs l c r m + jaw (fun k => v_tk l c k r * g k) 0 m
 | 0,_ => rfl
 | m + 1,hm => by
  have ih := js8 g l c r m (by omega)
  have e1:∀ q,v_rs q c r (m + 1) = v_rs q c r m + v_tk q c m r * (q.getD m (0,0,0,0,0)).2.2.2.2 := fun q => by
   unfold v_rs
   rw [jcx,Nat.zero_add]
  rw [e1,e1,ih,jcx,Nat.zero_add,jcl (by omega),jfW,jfW]
  unfold v_tt
  rw [jnz (by omega)]
  grind
/-- Sums over all terms of what is 0 off the chosen ones. -/
theorem js9 {m:Int} {f:Nat→Int} (h:∀ t,v_hs m t = false→f t = 0):∀ n,jaw f 0 n = ((jaa m n).map fun x => f x.toNat).sum
 | 0 => rfl
 | n + 1 => by
  rw [jcx,js9 h n,Nat.zero_add,show jaa m (n + 1) = jaa m n ++ cond (v_hs m n) [(n:Int)] [] from rfl,List.map_append,List.sum_append]
  cases c:v_hs m n
  ·rw [h n c]; rfl
  ·simp
def v_pd (c:gF) (h:Int→Int) (j:Nat):Int := if j < c.length then h (c.getD j 0) else 0
theorem jD5 {c:List Int} (hc:c.length≤4) (h:Int→Int):(c.map h).sum = v_pd c h 0 + v_pd c h 1 + v_pd c h 2 + v_pd c h 3 := by
 match c,hc with
 | [],_ => simp [v_pd]
 | [a],_ => simp [v_pd]
 | [a,b],_ => simp [v_pd]
 | [a,b,d],_ => simp [v_pd] <;> omega
 | [a,b,d,e],_ => simp [v_pd] <;> omega
 | a :: b :: d :: e :: r :: q,hc => simp at hc
theorem jta {l:List tQB} {m:Int} {u:Nat→Int} (hu:∀ t,v_hs m t = false→u t = 0) (hn:(jaa m 8).length≤4) (k:Nat):jaw (fun t => u t * v_tt l k t) 0 8 = v_pd (jaa m 8) (fun x => u x.toNat) 0 * v_tk l (jaa m 8) k 0 + v_pd (jaa m 8) (fun x => u x.toNat) 1 * v_tk l (jaa m 8) k 1 + v_pd (jaa m 8) (fun x => u x.toNat) 2 * v_tk l (jaa m 8) k 2 + v_pd (jaa m 8) (fun x => u x.toNat) 3 * v_tk l (jaa m 8) k 3 := by
 rw [js9 (m := m) (fun t h => by rw [hu t h,Int.zero_mul]) 8,jD5 hn]
 have e:∀ j,v_pd (jaa m 8) (fun x => u x.toNat * v_tt l k x.toNat) j = v_pd (jaa m 8) (fun x => u x.toNat) j * v_tk l (jaa m 8) k j := fun j => by
  unfold v_pd
  by_cases h:j < (jaa m 8).length
  ·rw [if_pos h,if_pos h]; rfl
  ·rw [if_neg h,if_neg h,Int.zero_mul]
 rw [e,e,e,e]
theorem jnA {l:List tQB} (c:gF) (w:Nat→Int) (r:Nat):∀ m,jaw (fun k => v_tk l c k r * (w 0 * v_tk l c k 0 + w 1 * v_tk l c k 1 + w 2 * v_tk l c k 2 + w 3 * v_tk l c k 3)) 0 m = v_gs l c r 0 m * w 0 + v_gs l c r 1 m * w 1 + v_gs l c r 2 m * w 2 + v_gs l c r 3 m * w 3
 | 0 => by simp [jaw,v_gs]
 | m + 1 => by
  rw [jcx,jnA c w r m,Nat.zero_add,jgM,jgM,jgM,jgM]
  grind
theorem v_Gw {l:List tQB} {c:List Int} {w:Nat→Int} (hw:∀ j,c.length≤j→w j = 0) {r:Nat} (hr:r < c.length):jbs (v_G l c) w r = v_gs l c r 0 l.length * w 0 + v_gs l c r 1 l.length * w 1 + v_gs l c r 2 l.length * w 2 + v_gs l c r 3 l.length * w 3 := by
 have e:∀ j,v_G l c r j * w j = v_gs l c r j l.length * w j := fun j => by
  rcases Nat.lt_or_ge j c.length with h | h
  ·rw [jmh l c hr h]
  ·rw [hw j h,Int.mul_zero,Int.mul_zero]
 unfold jbs
 rw [e,e,e,e]
theorem jtb {l:List tQB} {c:List Int} {w:Nat→Int} (hw:∀ j,c.length≤j→w j = 0) {r:Nat} (hr:c.length≤r):jbs (v_G l c) w r = 0 := by
 have e:∀ j,v_G l c r j * w j = 0 := fun j => by
  rcases Nat.lt_or_ge j c.length with h | h
  ·rw [jgO l c (by omega),if_neg (by omega),Int.zero_mul]
  ·rw [hw j h,Int.mul_zero]
 unfold jbs
 rw [e,e,e,e]; rfl
theorem jD6 (g:Nat→Int) (l:List tQB) (c:gF):v_D (v_mv g l) c = v_D l c := by
 unfold v_D
 rw [js7]
theorem jD7 {c x D:Int} (h:c ∣ D):ja3 c (max x (-x) % D) = ja3 c x := by
 unfold ja3
 have e:Int.gcd c (max x (-x)) = Int.gcd c x := by
  rcases Int.le_total 0 x with g | g
  ·rw [show max x (-x) = x by omega]
  ·rw [show max x (-x) = -x by omega,Int.gcd_neg]
 rw [← e]
 have e2 := Int.emod_add_mul_ediv (max x (-x)) D
 congr 1
 conv => rhs; rw [← e2]
 rw [Int.gcd_add_right_right_of_dvd]
 exact Int.dvd_mul_of_dvd_left h
theorem jD8 {c x D w:Int} (h:c ∣ D):ja3 c (x + D * w) = ja3 c x := by
 unfold ja3
 rw [Int.gcd_add_right_right_of_dvd]
 exact Int.dvd_mul_of_dvd_left h
theorem jnB (l:List tQB) (c:gF):∀ k,v_fg l c k ∣ v_D l c
 | 0 => Int.dvd_refl _
 | k + 1 => Int.dvd_trans (jhv _ _) (jnB l c k)
theorem jnC (l:List tQB) (c:gF) (k:Nat):v_fg l c (k + 1) = ja3 (v_fg l c k) (v_P l c k) := jD7 (jnB l c k)
theorem jtc (l:List tQB) (c:gF) (k:Nat):∀ n,v_fg l c (k + n) ∣ v_fg l c k
 | 0 => Int.dvd_refl _
 | n + 1 => Int.dvd_trans (jhv _ _) (jtc l c k n)
theorem jD9 (l:List tQB) (c:gF) {k n:Nat} (h:k < n):v_fg l c n ∣ v_P l c k := by
 obtain ⟨d,rfl⟩ : ∃ d,n = k + 1 + d := ⟨n - (k + 1),by omega⟩
 refine Int.dvd_trans (jtc l c (k + 1) d) ?_
 rw [jnC]
 exact juf _ _
/-- A part is exact. -/
theorem jnD {l:List tQB} {c:List Int} {k:Nat} (hk:k < c.length):v_g l c * v_fq l c k = v_P l c k := by
 have h:v_g l c ∣ v_P l c k := jD9 l c hk
 unfold v_fq
 by_cases g:v_P l c k < 0
 ·rw [decide_eq_true g,cond_true,show max (v_P l c k) (-v_P l c k) = -v_P l c k by omega,Int.mul_neg,Int.mul_ediv_cancel' ((Int.dvd_neg).2 h),Int.neg_neg]
 ·rw [decide_eq_false g,cond_false,show max (v_P l c k) (-v_P l c k) = v_P l c k by omega,Int.mul_ediv_cancel' h]
theorem jtd (l:List tQB) (c:gF):v_g l c * (v_D l c / v_g l c) = v_D l c := Int.mul_ediv_cancel' (jnB l c _)
theorem jte {l:List tQB} {c:List Int} {t:Nat}:∀ k,(∀ j,j < k→(c.getD j 0).toNat ≠ t)→jck l c k t = 0
 | 0,_ => rfl
 | k + 1,h => by
  show jbf (jck l c k) (c.getD k 0).toNat (v_fq l c k) t = 0
  unfold jbf
  have:Nat.beq t (c.getD k 0).toNat = false := by
   cases q:Nat.beq t (c.getD k 0).toNat
   ·rfl
   ·exact absurd (Nat.eq_of_beq_eq_true q).symm (h k (by omega))
  rw [this,cond_false]
  exact jte k fun j hj => h j (by omega)
theorem jtf {c:List Int} (hc:v_ca c) {i:Nat}:∀ d,i + d + 1 < c.length→c.getD i 0 < c.getD (i + d + 1) 0
 | 0,h => hc.asc i h
 | d + 1,h => by
  have := jtf hc (i := i) d (by omega)
  have := hc.asc (i + d + 1) h
  show c.getD i 0 < c.getD (i + d + 1 + 1) 0
  omega
theorem jji {l:List tQB} {c:List Int} (hc:v_ca c) {j:Nat}:∀ k,k≤c.length→j < k→jck l c k (c.getD j 0).toNat = v_fq l c j
 | 0,_,h => absurd h (by omega)
 | k + 1,hk,h => by
  show jbf (jck l c k) (c.getD k 0).toNat (v_fq l c k) (c.getD j 0).toNat = _
  rcases Nat.lt_or_ge j k with g | g
  ·obtain ⟨d,rfl⟩ : ∃ d,k = j + d + 1 := ⟨k - j - 1,by omega⟩
   have a := jtf hc d (by omega) (i := j)
   have b := (hc.ok j (by omega)).1
   unfold jbf
   have:Nat.beq (c.getD j 0).toNat (c.getD (j + d + 1) 0).toNat = false := by
    cases q:Nat.beq (c.getD j 0).toNat (c.getD (j + d + 1) 0).toNat
    ·rfl
    ·have := Nat.eq_of_beq_eq_true q
     omega
   rw [this,cond_false]
   exact jji hc _ (by omega) g
  ·obtain rfl:j = k := by omega
   exact jrb _ _ _

theorem jEa {m:Int} (h:jaV m = 0):v_ca (jaa m 8) := jiO (jiP.1 h).2
theorem jtg {l:List tQB} {m:Int} (hs:v_smp l) (ht:jaV m = 0):jai l m = jcs l (jaa m 8) := by
 unfold jai
 rw [jed.2 hs,ht]; rfl
theorem jth (l:List tQB) (c:gF):((jcs l c).2 = 12∧v_D l c = 0) ∨ ((jcs l c).2 = 8∧v_D l c ≠ 0) ∨ ((jcs l c).2 = 0∧v_D l c ≠ 0∧jbj l c c.length = true∧(jcs l c).1 = (v_D l c / v_g l c,v_p8 (jck l c c.length))) := by
 unfold jcs
 rcases int0 (v_D l c) with ⟨h,_,e⟩ | ⟨h,_,e⟩
 ·rw [e]; exact .inl ⟨rfl,h⟩
 ·rw [e,cond_false]
  cases q:jbj l c c.length
  ·exact .inr (.inl ⟨rfl,h⟩)
  ·exact .inr (.inr ⟨rfl,h,rfl,rfl⟩)
theorem jti {l:List tQB} {c:List Int} {j:Nat}:∀ k,jbj l c k = true→j < k→max (v_P l c j) (-v_P l c j) / v_g l c≤1000000000
 | 0,_,h => absurd h (by omega)
 | k + 1,h,hj => by
  have h' : cond (jbj l c k) (decide (max (v_P l c k) (-v_P l c k) / v_g l c≤1000000000)) false = true := h
  cases q:jbj l c k
  ·rw [q] at h'; cases h'
  ·rw [q,cond_true] at h'
   rcases Nat.lt_or_ge j k with g | g
   ·exact jti k q g
   ·obtain rfl:j = k := by omega
    exact of_decide_eq_true h'
/-- A fit that was found. -/
structure v_ft (l:List tQB) (c:gF):Prop where
 s:v_smp l
 ca:v_ca c
 D:0 < v_D l c
 sm:jbj l c c.length = true
theorem jEb {l:List tQB} {c:List Int} (hs:v_smp l) (hc:v_ca c) (h:(jcs l c).2 = 0):v_ft l c∧(jcs l c).1 = (v_D l c / v_g l c,v_p8 (jck l c c.length)) := by
 have hD := jgR hs hc
 rcases jth l c with ⟨a,_⟩ | ⟨a,_⟩ | ⟨_,a,b,e⟩
 ·rw [h] at a; cases a
 ·rw [h] at a; cases a
 ·exact ⟨⟨hs,hc,by omega,b⟩,e⟩
/-- The denominator of a fit,and its parts. -/
def v_E (l:List tQB) (c:gF):Int := v_D l c / v_g l c
def v_Q (l:List tQB) (c:gF) (t:Nat):Int := jck l c c.length t
theorem jjj {l:List tQB} {c:List Int} (h:v_ft l c):0 < v_g l c∧v_g l c≤v_D l c := jgQ h.D _
theorem jtj {l:List tQB} {c:List Int} (h:v_ft l c):1≤v_E l c∧v_E l c≤1000000000 := by
 have g := jjj h
 exact ⟨(Int.le_ediv_iff_mul_le g.1).2 (by omega),jmj _ h.sm⟩
theorem jEc {l:List tQB} {c:List Int} (h:v_ft l c) {k:Nat} (hk:k < c.length) : -1000000000≤v_fq l c k∧v_fq l c k≤1000000000 := by
 have g := jjj h
 have s := jti _ h.sm hk
 have n0:0≤max (v_P l c k) (-v_P l c k) / v_g l c := Int.ediv_nonneg (by omega) (by omega)
 unfold v_fq
 cases decide (v_P l c k < 0)
 ·rw [cond_false]; omega
 ·rw [cond_true]; omega
theorem jjk {l:List tQB} {c:List Int} (hc:v_ca c) (t:Nat):(∃ k,k < c.length∧(c.getD k 0).toNat = t∧v_Q l c t = v_fq l c k) ∨ ((∀ k,k < c.length→(c.getD k 0).toNat ≠ t)∧v_Q l c t = 0) := by
 by_cases h:∃ k,k < c.length∧(c.getD k 0).toNat = t
 ·obtain ⟨k,hk,e⟩ := h
  refine .inl ⟨k,hk,e,?_⟩
  rw [← e]
  exact jji hc _ (Nat.le_refl _) hk
 ·have h' : ∀ k,k < c.length→(c.getD k 0).toNat ≠ t := fun k hk q => h ⟨k,hk,q⟩
  exact .inr ⟨h',jte _ h'⟩
theorem jdS {l:List tQB} {c:List Int} (h:v_ft l c) (t:Nat) : -1000000000≤v_Q l c t∧v_Q l c t≤1000000000 := by
 rcases jjk h.ca t with ⟨k,hk,_,e⟩ | ⟨_,e⟩
 ·rw [e]; exact jEc h hk
 ·rw [e]; omega
theorem jjl {m:Int} {t:Nat} (ht:t < 8):v_hs m t = true ↔ ∃ k,k < (jaa m 8).length∧((jaa m 8).getD k 0).toNat = t := by
 constructor
 ·intro h
  obtain ⟨k,hk,e⟩ := List.getElem_of_mem ((jgv (m := m) (x := (t:Int)) 8).2 ⟨t,ht,h,rfl⟩)
  refine ⟨k,hk,?_⟩
  rw [List.getD_eq_getElem?_getD,List.getElem?_eq_getElem hk,Option.getD_some,e]; rfl
 ·rintro ⟨k,hk,e⟩
  obtain ⟨s,hs,h,q⟩ := (jgv 8).1 (jbF 0 hk)
  rw [q] at e
  have:s = t := by omega
  rw [← this]; exact h
theorem jEd {f:Int×Int×Int×Int×Int×Int×Int×Int×Int} (h1:1≤f.1∧f.1≤1000000000) (h2:∀ x∈jas f,-1000000000≤x∧x≤1000000000):jaI f = 0 := by
 unfold jaI
 rw [jbS.2 h1,cond_true,show (jas f).all jbJ = true from List.all_eq_true.2 fun x hx => jbS.2 (h2 x hx)]; rfl
/-- The fit as numbers. -/
def v_FF (l:List tQB) (c:gF):Int×Int×Int×Int×Int×Int×Int×Int×Int := (v_E l c,v_p8 (v_Q l c))
theorem jtk (l:List tQB) (c:gF):jas (v_FF l c) = [v_Q l c 0,v_Q l c 1,v_Q l c 2,v_Q l c 3,v_Q l c 4,v_Q l c 5,v_Q l c 6,v_Q l c 7] := rfl
theorem jhj (l:List tQB) (c:gF) {t:Nat} (h:t < 8):(jas (v_FF l c)).getD t 0 = v_Q l c t := by
 rw [jtk]
 obtain rfl | rfl | rfl | rfl | rfl | rfl | rfl | rfl:t = 0 ∨ t = 1 ∨ t = 2 ∨ t = 3 ∨ t = 4 ∨ t = 5 ∨ t = 6 ∨ t = 7 := by omega
 all_goals rfl
theorem jfX {l:List tQB} {c:List Int} (h:v_ft l c):jaI (v_FF l c) = 0 := by
 refine jEd (jtj h) ?_
 rw [jtk]
 simp only [fM]
 exact ⟨jdS h 0,jdS h 1,jdS h 2,jdS h 3,jdS h 4,jdS h 5,jdS h 6,jdS h 7,fun x hx => by cases hx⟩
theorem jnE (a:Int) (ps ts:gF) (m:Nat):∀ k,jce a ps ts m k = a - jaw (fun t => ps.getD t 0 * ts.getD t 0) m k
 | 0 => by simp [jce,jaw]
 | k + 1 => by
  unfold jce
  rw [jnE a ps ts m k,jcx]; omega
theorem jEe (l:List tQB) (c:gF) (i:Nat) {m:Nat} (hm:m≤8):jaD l i m (v_FF l c) = v_E l c * (l.getD i (0,0,0,0,0)).2.2.2.2 - jaw (fun t => v_Q l c t * v_tt l i t) m (8 - m) := by
 unfold jaD
 rw [jnE]
 congr 1
 exact jcL _ _ fun t _ h2 => by rw [jhj l c (by omega)]; rfl
theorem jEf (x:Int):jam .i64 x 1 = 0 ∨ jam .i64 x 1 = 1 := by
 show IntKind.i64.wrap (((BitVec.ofInt 64 x &&& BitVec.ofInt 64 1).toNat:Nat):Int) = 0 ∨ IntKind.i64.wrap (((BitVec.ofInt 64 x &&& BitVec.ofInt 64 1).toNat:Nat):Int) = 1
 have e:(BitVec.ofInt 64 1).toNat = 1 := by decide
 rw [BitVec.toNat_and,e,Nat.and_one_is_mod]
 rcases Nat.mod_two_eq_zero_or_one (BitVec.ofInt 64 x).toNat with h | h <;> rw [h]
 ·exact .inl rfl
 ·exact .inr rfl
theorem jEg (m:Int) (t:Nat):(jam .i64 (jab .i64 m (t:Int)) 1 == 0) = !(v_hs m t) := by
 unfold v_hs
 rcases jEf (jab .i64 m (t:Int)) with h | h <;> rw [h] <;> rfl
/-- What is added of a term. -/
def v_uu (m:Int) (P:gF) (t:Nat):Int := cond (v_hs m t) (cond (s_Z5 (P.getD t 0) (-20) 20) (P.getD t 0) 0) 0
theorem jnF {m:Int} {P:List Int} (t:Nat) (h:v_hs m t = false):v_uu m P t = 0 := by unfold v_uu; rw [h]; rfl
theorem jjm (m:Int) (P:gF) (t:Nat) : -20≤v_uu m P t∧v_uu m P t≤20 := by
 unfold v_uu
 cases v_hs m t
 ·show -20≤(0:Int)∧(0:Int)≤20; omega
 ·cases h:s_Z5 (P.getD t 0) (-20) 20
  ·show -20≤(0:Int)∧(0:Int)≤20; omega
  ·exact jbS.1 h
def v_GG (l:List tQB) (u:Nat→Int) (t i:Nat):Int := jaw (fun s => u s * v_tt l i s) 0 t
theorem jtl {l:List tQB} {u:Nat→Int} (hs:v_smp l) (hu:∀ t,-20≤u t∧u t≤20) {t i:Nat} (ht:t≤8) (hi:i < l.length) : -16000≤v_GG l u t i∧v_GG l u t i≤16000 := by
 have : -((t:Int) * 2000)≤v_GG l u t i∧v_GG l u t i≤(t:Int) * 2000 := jeF t 0 fun k _ hk => by
  have a := hu k
  have b:((ja7 (jae l i)).getD k 0).natAbs≤100 := jej hs hi (by omega)
  have := jbn (x := u k) (y := v_tt l i k) (a := 20) (b := 100) a.1 a.2 (by unfold v_tt; omega) (by unfold v_tt; omega)
  omega
 omega
theorem jEh {g:Nat→Int} {l:List tQB} (h:∀ i,i < l.length→g i = 0):v_mv g l = l := by
 refine jn5 (0,0,0,0,0) (jbK g l) fun k hk => ?_
 rw [jbK] at hk
 rw [jcl hk,h k hk,Int.add_zero]
theorem jhk {g g' : Nat→Int} {l:List tQB} (h:∀ i,i < l.length→g i = g' i):v_mv g l = v_mv g' l := by
 refine jn5 (0,0,0,0,0) (by rw [jbK,jbK]) fun k hk => ?_
 rw [jbK] at hk
 rw [jcl hk,jcl hk,h k hk]
theorem jtm {g:Nat→Int} {l:List tQB} {j:Nat} (hj:j < l.length) (x:Int):(v_mv g l).set j ((l.getD j (0,0,0,0,0)).1,(l.getD j (0,0,0,0,0)).2.1,(l.getD j (0,0,0,0,0)).2.2.1,(l.getD j (0,0,0,0,0)).2.2.2.1,(l.getD j (0,0,0,0,0)).2.2.2.2 + x) = v_mv (fun i => if i = j then x else g i) l := by
 refine jn5 (0,0,0,0,0) (by rw [List.length_set,jbK,jbK]) fun k hk => ?_
 rw [List.length_set,jbK] at hk
 rw [jn4 (by rw [jbK]; exact hj),jcl hk]
 by_cases h:k = j
 ·rw [if_pos h,jcl hk,if_pos h,h]
 ·rw [if_neg h,jcl hk,if_neg h]
abbrev T8v:Type := Int×Int×Int×Int×Int×Int×Int×Int
def v_l8 (p:T8v):List Int := (p.1 :: (p.2.1 :: (p.2.2.1 :: (p.2.2.2.1 :: (p.2.2.2.2.1 :: (p.2.2.2.2.2.1 :: (p.2.2.2.2.2.2.1 :: (p.2.2.2.2.2.2.2 :: ([]:List Int)))))))))
theorem jtn {l:List tQB} {f:Int×Int×Int×Int×Int×Int×Int×Int×Int} (hs:v_smp l) (hf:jaI f = 0) (m:Int):jbc l f m = (jdh l m.toNat f,0) := by
 unfold jbc jex
 rw [jed.2 hs,hf]; rfl
theorem jEi (l:List tQB) (c:gF):((jcs l c).2 = 12∧v_D l c = 0) ∨ (v_D l c ≠ 0∧((jcs l c).2 = 8 ∨ (jcs l c).2 = 0)) := by
 rcases jth l c with h | ⟨h,g⟩ | ⟨h,g,_⟩
 ·exact .inl h
 ·exact .inr ⟨g,.inl h⟩
 ·exact .inr ⟨g,.inr h⟩

/-- The divisor is the greatest one. -/
theorem jto {l:List tQB} {c:List Int} {x:Int} (h0:x ∣ v_D l c):∀ k,(∀ j,j < k→x ∣ v_P l c j)→x ∣ v_fg l c k
 | 0,_ => h0
 | k + 1,h => by
  rw [jnC]
  exact Int.dvd_coe_gcd (jto h0 k fun j hj => h j (by omega)) (h k (by omega))
/-- A fit is in lowest terms. -/
theorem jEj {l:List tQB} {c:List Int} (h:v_ft l c):v_cg (v_FF l c) 8 = 1 := by
 have g := jjj h
 obtain ⟨d1,d2⟩ := jsb (v_FF l c) 8
 have p := (jmz (f := v_FF l c) (show 0 < v_E l c by have := jtj h; omega) 8).1
 have hP:∀ j,j < c.length→v_g l c * v_cg (v_FF l c) 8 ∣ v_P l c j := fun j hj => by
  have hc := h.ca.ok j hj
  have q := d2 (c.getD j 0).toNat (by omega)
  rw [jhj l c (by omega)] at q
  have e:v_Q l c (c.getD j 0).toNat = v_fq l c j := jji h.ca _ (Nat.le_refl _) hj
  rw [e] at q
  rw [← jnD hj]
  exact Int.mul_dvd_mul_left _ q
 have hD:v_g l c * v_cg (v_FF l c) 8 ∣ v_D l c := by
  rw [← jtd l c]
  exact Int.mul_dvd_mul_left _ d1
 have m := Int.le_of_dvd g.1 (jto hD c.length hP:v_g l c * v_cg (v_FF l c) 8 ∣ v_g l c)
 have m2:v_g l c * v_cg (v_FF l c) 8≤v_g l c * 1 := by omega
 have := Int.le_of_mul_le_mul_left m2 g.1
 omega
/-- Sums of terms and what is left. -/
def v_tl (l:List tQB) (f:Int×Int×Int×Int×Int×Int×Int×Int×Int) (t:Nat):Int := jaw (fun i => v_tt l i t * jaD l i 0 f) 0 l.length
theorem jnG (l:List tQB) (i:Nat) (f:Int×Int×Int×Int×Int×Int×Int×Int×Int):jaD l i 0 f = f.1 * (l.getD i (0,0,0,0,0)).2.2.2.2 - jaw (fun t => (jas f).getD t 0 * v_tt l i t) 0 8 := by
 unfold jaD
 rw [jnE]
 rfl
theorem jnH (f:Nat→Int) (n a:Nat):jaw (fun k => -f k) a n = -jaw f a n := by
 have := jeG (-1) f n a
 rw [show (fun k => -f k) = fun k => -1 * f k from funext fun k => by omega,this]; omega
/-- The equations hold. -/
theorem jnI {l:List tQB} {m:Int} (h:v_ft l (jaa m 8)) {r:Nat} (hr:r < (jaa m 8).length):v_tl l (v_FF l (jaa m 8)) ((jaa m 8).getD r 0).toNat = 0 := by
 have g := jjj h
 have hn := h.ca.len
 have hq:∀ t,v_hs m t = false→t < 8→v_Q l (jaa m 8) t = 0 := fun t q ht => by
  rcases jjk (l := l) h.ca t with ⟨k,hk,e,_⟩ | ⟨_,e⟩
  ·rw [(jjl ht).2 ⟨k,hk,e⟩] at q; cases q
  ·exact e
 let u:Nat→Int := fun t => if t < 8 then v_Q l (jaa m 8) t else 0
 have hu:∀ t,v_hs m t = false→u t = 0 := fun t q => by
  show (if t < 8 then v_Q l (jaa m 8) t else 0) = 0
  split
  ·exact hq t q ‹_›
  ·rfl
 let w:Nat→Int := v_pd (jaa m 8) fun x => u x.toNat
 have hw:∀ j,(jaa m 8).length≤j→w j = 0 := fun j hj => by show v_pd _ _ j = 0; unfold v_pd; rw [if_neg (by omega)]
 have e1:v_tl l (v_FF l (jaa m 8)) ((jaa m 8).getD r 0).toNat = v_E l (jaa m 8) * v_R l (jaa m 8) r - jbs (v_G l (jaa m 8)) w r := by
  rw [v_Gw hw hr]
  unfold v_tl v_R jba
  rw [if_pos hr,← jnA]
  unfold v_rs
  rw [← jeG,Int.sub_eq_add_neg,← jnH,← jdB]
  refine jcL _ 0 fun i _ _ => ?_
  rw [jnG]
  have s:jaw (fun t => (jas (v_FF l (jaa m 8))).getD t 0 * v_tt l i t) 0 8 = jaw (fun t => u t * v_tt l i t) 0 8 := jcL 8 0 fun t _ ht => by
   rw [jhj l _ (by omega)]
   show _ = (if t < 8 then v_Q l (jaa m 8) t else 0) * _
   rw [if_pos (by omega)]
  rw [s,jta hu hn i]
  show v_tk l (jaa m 8) i r * (v_E l (jaa m 8) * _ - _) = _
  grind
 rw [e1]
 have hwP:∀ k,k < 4→v_g l (jaa m 8) * w k = v_P l (jaa m 8) k := fun k hk => by
  rcases Nat.lt_or_ge k (jaa m 8).length with q | q
  ·have hc := h.ca.ok k q
   have e:w k = v_fq l (jaa m 8) k := by
    show v_pd _ _ k = _
    unfold v_pd
    rw [if_pos q]
    show (if ((jaa m 8).getD k 0).toNat < 8 then v_Q l (jaa m 8) ((jaa m 8).getD k 0).toNat else 0) = _
    rw [if_pos (by omega)]
    exact jji h.ca _ (Nat.le_refl _) q
   rw [e,jnD q]
  ·rw [hw k q,Int.mul_zero]
   -- the column is 0 in its own row
   have z:jbs (v_G l (jaa m 8)) (fun k => v_e4 (jbp (v_G l (jaa m 8)) k (v_R l (jaa m 8)))) k = v_e4 (v_G l (jaa m 8)) * v_R l (jaa m 8) k := jrN _ _ hk
   have z2:v_R l (jaa m 8) k = 0 := by unfold v_R jba; rw [if_neg (by omega)]
   have z3:∀ s,v_G l (jaa m 8) k s = if k = s then 1 else 0 := fun s => jgO l _ (by omega)
   unfold v_P
   rw [jdg]
   rw [z2,Int.mul_zero] at z
   unfold jbs at z
   rw [z3,z3,z3,z3] at z
   obtain rfl | rfl | rfl | rfl:k = 0 ∨ k = 1 ∨ k = 2 ∨ k = 3 := by omega
   ·simp at z; rw [z]
   ·simp at z; rw [z]
   ·simp at z; rw [z]
   ·simp at z; rw [z]
 have cr := jrN (v_G l (jaa m 8)) (v_R l (jaa m 8)) (show r < 4 by omega)
 have e2:v_g l (jaa m 8) * jbs (v_G l (jaa m 8)) w r = v_D l (jaa m 8) * v_R l (jaa m 8) r := by
  unfold v_D
  rw [jdg,← cr]
  have p:∀ k,k < 4→v_e4 (jbp (v_G l (jaa m 8)) k (v_R l (jaa m 8))) = v_g l (jaa m 8) * w k := fun k hk => by
   rw [hwP k hk]
   unfold v_P
   rw [jdg]
  unfold jbs
  simp only
  rw [p 0 (by omega),p 1 (by omega),p 2 (by omega),p 3 (by omega)]
  grind
 have e3 := jtd l (jaa m 8)
 have:v_g l (jaa m 8) * (v_E l (jaa m 8) * v_R l (jaa m 8) r - jbs (v_G l (jaa m 8)) w r) = 0 := by
  rw [Int.mul_sub,e2,← e3]
  unfold v_E
  grind
 exact (Int.mul_eq_zero.1 this).resolve_left (by omega)

/-- A fit whose parts have changed. -/
def ja8 (l:List tQB) (c:gF) (u:Nat→Int) (t:Nat):Nat→Int := fun s => v_Q l c s + (if s < t then u s else 0)
def v_CH (l:List tQB) (c:gF) (u:Nat→Int):Int×Int×Int×Int×Int×Int×Int×Int×Int := (v_E l c,v_p8 (ja8 l c u 8))
theorem jEk (l:List tQB) (c:gF) (u:Nat→Int) {t:Nat} (h:t < 8):(jas (v_CH l c u)).getD t 0 = v_Q l c t + u t := by
 have e:jas (v_CH l c u) = [ja8 l c u 8 0,ja8 l c u 8 1,ja8 l c u 8 2,ja8 l c u 8 3,ja8 l c u 8 4,ja8 l c u 8 5,ja8 l c u 8 6,ja8 l c u 8 7] := rfl
 have e2:(jas (v_CH l c u)).getD t 0 = ja8 l c u 8 t := by
  rw [e]
  obtain rfl | rfl | rfl | rfl | rfl | rfl | rfl | rfl:t = 0 ∨ t = 1 ∨ t = 2 ∨ t = 3 ∨ t = 4 ∨ t = 5 ∨ t = 6 ∨ t = 7 := by omega
  all_goals rfl
 rw [e2]
 unfold ja8
 rw [if_pos h]
theorem jtp (l:List tQB) (c:gF) (u:Nat→Int) (i:Nat):jaD l i 0 (v_CH l c u) = jaD l i 0 (v_FF l c) - v_GG l u 8 i := by
 rw [jnG,jnG]
 have e:jaw (fun t => (jas (v_CH l c u)).getD t 0 * v_tt l i t) 0 8 = jaw (fun t => (jas (v_FF l c)).getD t 0 * v_tt l i t) 0 8 + v_GG l u 8 i := by
  unfold v_GG
  rw [← jdB]
  refine jcL 8 0 fun t _ ht => ?_
  rw [jEk l c u (by omega),jhj l c (by omega),Int.add_mul]
 rw [e]
 show v_E l c * _ - _ = v_E l c * _ - _ - _
 omega
/-- What is added,by chosen terms. -/
def v_ww (m:Int) (u:Nat→Int):Nat→Int := v_pd (jaa m 8) fun x => u x.toNat
theorem jjn {m:Int} {u:Nat→Int} {j:Nat} (h:(jaa m 8).length≤j):v_ww m u j = 0 := by unfold v_ww v_pd; rw [if_neg (by omega)]
theorem jtq {m:Int} {u:Nat→Int} {j:Nat} (h:j < (jaa m 8).length):v_ww m u j = u ((jaa m 8).getD j 0).toNat := by unfold v_ww v_pd; rw [if_pos h]
theorem jtr {l:List tQB} {m:Int} {u:Nat→Int} (hu:∀ t,v_hs m t = false→u t = 0) (hn:(jaa m 8).length≤4) (i:Nat):v_GG l u 8 i = v_ww m u 0 * v_tk l (jaa m 8) i 0 + v_ww m u 1 * v_tk l (jaa m 8) i 1 + v_ww m u 2 * v_tk l (jaa m 8) i 2 + v_ww m u 3 * v_tk l (jaa m 8) i 3 := jta hu hn i
theorem v_tG {l:List tQB} {m:Int} {u:Nat→Int} (hu:∀ t,v_hs m t = false→u t = 0) (hn:(jaa m 8).length≤4) {r:Nat} (hr:r < (jaa m 8).length):jaw (fun i => v_tk l (jaa m 8) i r * v_GG l u 8 i) 0 l.length = jbs (v_G l (jaa m 8)) (v_ww m u) r := by
 rw [v_Gw (fun j h => jjn h) hr,← jnA]
 exact jcL _ 0 fun i _ _ => by rw [jtr hu hn]
/-- What is left is square to what is added. -/
theorem jEl {l:List tQB} {m:Int} {u:Nat→Int} (h:v_ft l (jaa m 8)) (hu:∀ t,v_hs m t = false→u t = 0):jaw (fun i => jaD l i 0 (v_FF l (jaa m 8)) * v_GG l u 8 i) 0 l.length = 0 := by
 have hn := h.ca.len
 have z:∀ k,v_ww m u k * jaw (fun i => v_tk l (jaa m 8) i k * jaD l i 0 (v_FF l (jaa m 8))) 0 l.length = 0 := fun k => by
  rcases Nat.lt_or_ge k (jaa m 8).length with q | q
  ·have e:jaw (fun i => v_tk l (jaa m 8) i k * jaD l i 0 (v_FF l (jaa m 8))) 0 l.length = v_tl l (v_FF l (jaa m 8)) ((jaa m 8).getD k 0).toNat := rfl
   rw [e,jnI h q,Int.mul_zero]
  ·rw [jjn q,Int.zero_mul]
 have e:jaw (fun i => jaD l i 0 (v_FF l (jaa m 8)) * v_GG l u 8 i) 0 l.length = v_ww m u 0 * jaw (fun i => v_tk l (jaa m 8) i 0 * jaD l i 0 (v_FF l (jaa m 8))) 0 l.length + v_ww m u 1 * jaw (fun i => v_tk l (jaa m 8) i 1 * jaD l i 0 (v_FF l (jaa m 8))) 0 l.length + v_ww m u 2 * jaw (fun i => v_tk l (jaa m 8) i 2 * jaD l i 0 (v_FF l (jaa m 8))) 0 l.length + v_ww m u 3 * jaw (fun i => v_tk l (jaa m 8) i 3 * jaD l i 0 (v_FF l (jaa m 8))) 0 l.length := by
  rw [← jeG,← jeG,← jeG,← jeG,← jdB,← jdB,← jdB]
  refine jcL _ 0 fun i _ _ => ?_
  rw [jtr hu hn]
  grind
 rw [e,z,z,z,z]; rfl
theorem jts {f:Nat→Int}:∀ (n a:Nat),(∀ k,0≤f k)→0≤jaw f a n
 | 0,_,_ => Int.le_refl _
 | n + 1,a,h => by
  have := h a
  have := jts n (a + 1) h
  show 0≤f a + jaw f (a + 1) n
  omega
/-- With other parts the squares are no smaller. -/
theorem jEm {l:List tQB} {m:Int} {u:Nat→Int} (h:v_ft l (jaa m 8)) (hu:∀ t,v_hs m t = false→u t = 0):v_sq l (v_FF l (jaa m 8)) l.length≤v_sq l (v_CH l (jaa m 8) u) l.length := by
 have z := jEl h hu
 have p := jts (f := fun i => v_GG l u 8 i * v_GG l u 8 i) l.length 0 fun k => je7 _
 have e:v_sq l (v_CH l (jaa m 8) u) l.length = v_sq l (v_FF l (jaa m 8)) l.length + (-2 * jaw (fun i => jaD l i 0 (v_FF l (jaa m 8)) * v_GG l u 8 i) 0 l.length + jaw (fun i => v_GG l u 8 i * v_GG l u 8 i) 0 l.length) := by
  unfold v_sq
  rw [← jeG,← jdB,← jdB]
  refine jcL _ 0 fun i _ _ => ?_
  rw [jtp]
  grind
 rw [e,z]
 omega
/-- The equations hold for no other parts. -/
theorem jEn {l:List tQB} {m:Int} {u:Nat→Int} (h:v_ft l (jaa m 8)) (hu:∀ t,v_hs m t = false→u t = 0) (hz:∀ r,r < (jaa m 8).length→v_tl l (v_CH l (jaa m 8) u) ((jaa m 8).getD r 0).toNat = 0):∀ t,t < 8→u t = 0 := by
 have hn := h.ca.len
 have g0:∀ r,jbs (v_G l (jaa m 8)) (v_ww m u) r = 0 := fun r => by
  rcases Nat.lt_or_ge r (jaa m 8).length with q | q
  ·have a := hz r q
   have b := jnI h q
   have e:v_tl l (v_CH l (jaa m 8) u) ((jaa m 8).getD r 0).toNat = v_tl l (v_FF l (jaa m 8)) ((jaa m 8).getD r 0).toNat - jaw (fun i => v_tk l (jaa m 8) i r * v_GG l u 8 i) 0 l.length := by
    unfold v_tl
    rw [Int.sub_eq_add_neg,← jnH,← jdB]
    refine jcL _ 0 fun i _ _ => ?_
    rw [jtp]
    show v_tk l (jaa m 8) i r * _ = v_tk l (jaa m 8) i r * _ + _
    grind
   rw [← v_tG hu hn q]
   omega
  ·exact jtb (fun j hj => jjn hj) q
 have w0:∀ k,k < 4→v_ww m u k = 0 := fun k hk => by
  have c := jrO (v_G l (jaa m 8)) (fun _ => 0) (v_ww m u) hk
  have e:(fun r => 0 + jbs (v_G l (jaa m 8)) (v_ww m u) r) = fun _ => (0:Int) := funext fun r => by rw [g0 r]; rfl
  rw [e] at c
  have hD := h.D
  unfold v_D at hD
  rw [jdg] at hD
  have z:v_e4 (v_G l (jaa m 8)) * v_ww m u k = 0 := by omega
  exact (Int.mul_eq_zero.1 z).resolve_left (by omega)
 intro t ht
 cases q:v_hs m t
 ·exact hu t q
 ·obtain ⟨k,hk,e⟩ := (jjl ht).1 q
  have := w0 k (by omega)
  rw [jtq hk,e] at this
  exact this
/-- Readings that are sums of terms. -/
def v_XX (l:List tQB) (u:Nat→Int) (t:Nat):List tQB := v_mv (fun i => -(l.getD i (0,0,0,0,0)).2.2.2.2 + v_GG l u t i) l
theorem jEo {g:Nat→Int} {l:List tQB} (h:v_smp l) (hg:∀ i,i < l.length→-100000≤(l.getD i (0,0,0,0,0)).2.2.2.2 + g i∧(l.getD i (0,0,0,0,0)).2.2.2.2 + g i≤100000):v_smp (v_mv g l) := by
 have hl := h.len
 have hne:0 < l.length := List.length_pos_iff.2 h.ne
 refine ⟨fun e => ?_,by rw [jbK]; exact hl,fun x hx => ?_,fun k h0 hk => ?_⟩
 ·have := jbK g l
  rw [e] at this
  exact h.ne (List.length_eq_zero_iff.1 this.symm)
 ·obtain ⟨i,hi,rfl⟩ := List.getElem_of_mem hx
  have hi' : i < l.length := by rw [jbK] at hi; exact hi
  have e:(v_mv g l)[i] = (v_mv g l).getD i (0,0,0,0,0) := (jf8 _ hi).symm
  rw [e,jcl hi']
  have o := h.ok _ (jbF (0,0,0,0,0) hi')
  exact ⟨o.t,o.x,o.y,o.z,hg i hi'⟩
 ·rw [jbK] at hk
  rw [jcl hk,jcl (show k - 1 < l.length by omega)]
  exact h.asc k h0 hk
theorem jEp {l:List tQB} {u:Nat→Int} (h:v_smp l) (hb:∀ t,-20≤u t∧u t≤20):v_smp (v_XX l u 8) := jEo h fun i hi => by
 have := jtl h hb (show 8≤8 by omega) hi
 omega
theorem jEq {l:List tQB} {m:Int} {u:Nat→Int} (hu:∀ t,v_hs m t = false→u t = 0) (hn:(jaa m 8).length≤4):v_R (v_XX l u 8) (jaa m 8) = fun r => 0 + jbs (v_G l (jaa m 8)) (v_ww m u) r := by
 funext r
 unfold v_R jba
 by_cases h:r < (jaa m 8).length
 ·rw [if_pos h]
  unfold v_XX
  rw [jbK,js8 _ l _ r _ (Nat.le_refl _),← v_tG hu hn h]
  have e:jaw (fun k => v_tk l (jaa m 8) k r * (-(l.getD k (0,0,0,0,0)).2.2.2.2 + v_GG l u 8 k)) 0 l.length = -v_rs l (jaa m 8) r l.length + jaw (fun i => v_tk l (jaa m 8) i r * v_GG l u 8 i) 0 l.length := by
   unfold v_rs
   rw [← jnH,← jdB]
   exact jcL _ 0 fun k _ _ => by rw [Int.mul_add,Int.mul_neg]
  rw [e]; omega
 ·rw [if_neg h,jtb (fun j hj => jjn hj) (by omega)]; rfl
theorem jEr (f:Nat→Nat→Int) {k:Nat} (hk:k < 4):v_e4 (jbp f k fun _ => 0) = 0 := by
 match k,hk with
 | 0,_ => simp [v_e4,jbp,v_e3]
 | 1,_ => simp [v_e4,jbp,v_e3]
 | 2,_ => simp [v_e4,jbp,v_e3]
 | 3,_ => simp [v_e4,jbp,v_e3]
theorem jnJ {l:List tQB} {m:Int} {u:Nat→Int} (hu:∀ t,v_hs m t = false→u t = 0) (hn:(jaa m 8).length≤4) {k:Nat} (hk:k < 4):v_P (v_XX l u 8) (jaa m 8) k = v_D l (jaa m 8) * v_ww m u k := by
 have hG:v_G (v_XX l u 8) (jaa m 8) = v_G l (jaa m 8) := js7 _ l _
 unfold v_P v_D
 rw [jdg,jdg,hG,jEq hu hn,jrO _ (fun _ => 0) _ hk,jEr _ hk,Int.zero_add]
theorem jnK (l:List tQB) (u:Nat→Int) (c:gF):v_D (v_XX l u 8) c = v_D l c := jD6 _ l c
theorem jtt {l:List tQB} {m:Int} {u:Nat→Int} (h:v_ft l (jaa m 8)) (hu:∀ t,v_hs m t = false→u t = 0):∀ k,k≤(jaa m 8).length→v_fg (v_XX l u 8) (jaa m 8) k = v_D l (jaa m 8)
 | 0,_ => jnK l u _
 | k + 1,hk => by
  have hn := h.ca.len
  rw [jnC,jtt h hu k (by omega),jnJ hu hn (by omega)]
  have e := jD8 (c := v_D l (jaa m 8)) (x := 0) (D := v_D l (jaa m 8)) (w := v_ww m u k) (Int.dvd_refl _)
  rw [Int.zero_add] at e
  rw [e]
  have hD := h.D
  unfold ja3
  rw [Int.gcd_zero_right]; omega
theorem jEs {m:Int} {u:Nat→Int} (hb:∀ t,-20≤u t∧u t≤20) (k:Nat) : -20≤v_ww m u k∧v_ww m u k≤20 := by
 unfold v_ww v_pd
 split
 ·exact hb _
 ·omega
theorem jEt {D w:Int} (hD:0 < D):max (D * w) (-(D * w)) / D = max w (-w) := by
 rcases Int.le_total 0 w with q | q
 ·have := Int.mul_nonneg (show 0≤D by omega) q
  rw [show max (D * w) (-(D * w)) = D * w by omega,Int.mul_ediv_cancel_left _ (by omega)]; omega
 ·have := Int.mul_nonneg (show 0≤D by omega) (show 0≤-w by omega)
  rw [Int.mul_neg] at this
  rw [show max (D * w) (-(D * w)) = D * -w by rw [Int.mul_neg]; omega,Int.mul_ediv_cancel_left _ (by omega)]; omega
theorem jnL {l:List tQB} {m:Int} {u:Nat→Int} (h:v_ft l (jaa m 8)) (hu:∀ t,v_hs m t = false→u t = 0) (hb:∀ t,-20≤u t∧u t≤20):v_ft (v_XX l u 8) (jaa m 8)∧v_E (v_XX l u 8) (jaa m 8) = 1∧∀ t,t < 8→v_Q (v_XX l u 8) (jaa m 8) t = u t := by
 have hn := h.ca.len
 have hD := h.D
 have eg:v_g (v_XX l u 8) (jaa m 8) = v_D l (jaa m 8) := jtt h hu _ (Nat.le_refl _)
 have e1:v_D (v_XX l u 8) (jaa m 8) / v_g (v_XX l u 8) (jaa m 8) = 1 := by rw [jnK,eg]; exact Int.ediv_self (by omega)
 have sm:∀ k,k≤(jaa m 8).length→jbj (v_XX l u 8) (jaa m 8) k = true := by
  intro k
  induction k with
  | zero =>
   intro _
   show decide (_≤_) = true
   rw [e1]; rfl
  | succ k ih =>
   intro hk
   show cond (jbj (v_XX l u 8) (jaa m 8) k) _ false = true
   rw [ih (by omega),cond_true,eg,jnJ hu hn (by omega),jEt hD]
   have := jEs (m := m) hb k
   exact decide_eq_true (by omega)
 have ft:v_ft (v_XX l u 8) (jaa m 8) := ⟨jEp h.s hb,h.ca,by rw [jnK]; exact hD,sm _ (Nat.le_refl _)⟩
 refine ⟨ft,e1,fun t ht => ?_⟩
 rcases jjk (l := v_XX l u 8) h.ca t with ⟨k,hk,q1,q2⟩ | ⟨q1,q2⟩
 ·rw [q2]
  have a := jnD (l := v_XX l u 8) hk
  rw [eg,jnJ hu hn (by omega)] at a
  have := Int.eq_of_mul_eq_mul_left (show v_D l (jaa m 8) ≠ 0 by omega) a
  rw [this,jtq hk,q1]
 ·rw [q2]
  cases q:v_hs m t
  ·exact (hu t q).symm
  ·obtain ⟨k,hk,e⟩ := (jjl ht).1 q
   exact absurd e (q1 k hk)
theorem jEu {l:List tQB} {m:Int} {u:Nat→Int} (h:v_ft l (jaa m 8)) (hu:∀ t,v_hs m t = false→u t = 0) (hb:∀ t,-20≤u t∧u t≤20) {i:Nat} (hi:i < l.length):jhd (v_XX l u 8) (v_FF (v_XX l u 8) (jaa m 8)) 0 i = (0,0) := by
 obtain ⟨_,eE,eQ⟩ := jnL h hu hb
 have z:jaD (v_XX l u 8) i 0 (v_FF (v_XX l u 8) (jaa m 8)) = 0 := by
  rw [jEe _ _ _ (by omega),eE]
  have e:jaw (fun t => v_Q (v_XX l u 8) (jaa m 8) t * v_tt (v_XX l u 8) i t) 0 (8 - 0) = v_GG l u 8 i := jcL 8 0 fun t _ ht => by
   rw [eQ t (by omega)]
   unfold v_tt v_XX
   rw [jnz hi]
  rw [e]
  unfold v_XX
  rw [jcl hi]
  simp only
  omega
 unfold jhd
 rw [z]
 show (0 / v_E (v_XX l u 8) (jaa m 8),jdF 0 (v_E (v_XX l u 8) (jaa m 8))) = _
 rw [eE]; rfl

abbrev CL:Type := Int×(Int×W8)×List tQB
abbrev DL:Type := Int×List tQB
def v_b0 (l:List tQB) (i:Nat):Int := -(l.getD i (0,0,0,0,0)).2.2.2.2
theorem jEv {p0:List tQB} {u:Nat→Int} (hs:v_smp p0) (hu:∀ t,-20≤u t∧u t≤20) {t j:Nat} (ht:t < 8) (hj:j < p0.length) (g:Nat→Int) (hg:g = fun i => v_b0 p0 i + if i < j then v_GG p0 u (t + 1) i else v_GG p0 u t i) :
  (v_mv g p0).set j (((v_mv g p0).getD j (0,0,0,0,0)).1,((v_mv g p0).getD j (0,0,0,0,0)).2.1,((v_mv g p0).getD j (0,0,0,0,0)).2.2.1,((v_mv g p0).getD j (0,0,0,0,0)).2.2.2.1,IntKind.i64.wrap (((v_mv g p0).getD j (0,0,0,0,0)).2.2.2.2 + IntKind.i64.wrap (u t * v_tt p0 j t))) = v_mv (fun i => v_b0 p0 i + if i < j + 1 then v_GG p0 u (t + 1) i else v_GG p0 u t i) p0 := by
 have a := hu t
 have b:((ja7 (jae p0 j)).getD t 0).natAbs≤100 := jej hs hj (by omega)
 have mm := jbn (x := u t) (y := v_tt p0 j t) (a := 20) (b := 100) a.1 a.2 (by unfold v_tt; omega) (by unfold v_tt; omega)
 have c := jtl hs hu (show t≤8 by omega) hj
 have e:g j = v_b0 p0 j + v_GG p0 u t j := by rw [hg]; exact congrArg (v_b0 p0 j + ·) (if_neg (Nat.lt_irrefl j))
 have f:v_GG p0 u (t + 1) j = v_GG p0 u t j + u t * v_tt p0 j t := by
  unfold v_GG
  rw [jcx,Nat.zero_add]
 have z:(p0.getD j (0,0,0,0,0)).2.2.2.2 + v_b0 p0 j = 0 := by unfold v_b0; omega
 rw [jcl hj,e]
 simp only
 rw [jar (n := u t * v_tt p0 j t) (by omega) (by omega),jar (n := (p0.getD j (0,0,0,0,0)).2.2.2.2 + (v_b0 p0 j + v_GG p0 u t j) + u t * v_tt p0 j t) (by omega) (by omega),show (p0.getD j (0,0,0,0,0)).2.2.2.2 + (v_b0 p0 j + v_GG p0 u t j) + u t * v_tt p0 j t = (p0.getD j (0,0,0,0,0)).2.2.2.2 + (v_b0 p0 j + v_GG p0 u (t + 1) j) by omega,jtm hj]
 congr 1
 funext i
 rw [hg]
 by_cases h:i = j
 ·rw [if_pos h,if_pos (by omega),h]
 ·rw [if_neg h]
  by_cases h2:i < j
  ·rw [if_pos (by omega)]; exact congrArg (v_b0 p0 i + ·) (if_pos h2)
  ·rw [if_neg (by omega)]; exact congrArg (v_b0 p0 i + ·) (if_neg h2)
theorem jEw (p0:List tQB) (p1:Int) (p2:T8v) (y3:DL) (t:Nat) (ht:t < 8) (E:Int) (q:Nat→Int) (L M:List tQB) :
  jdv p0 p1 p2 y3 ((t:Int),(E,v_p8 q),L) ((M.length:Int),M) = .inr (.inl (IntKind.i64.wrap ((t:Int) + 1),(E,v_p8 (jbf q t (IntKind.i64.wrap (q t + (v_l8 p2).getD t 0)))),M)) := by
 unfold jdv
 rw [decide_eq_false (Int.lt_irrefl (M.length:Int)),cond_false]
 obtain rfl | rfl | rfl | rfl | rfl | rfl | rfl | rfl:t = 0 ∨ t = 1 ∨ t = 2 ∨ t = 3 ∨ t = 4 ∨ t = 5 ∨ t = 6 ∨ t = 7 := by omega
 all_goals kernel_rfl
theorem jEx {l:List tQB} {c:List Int} {u:Nat→Int} (t:Nat):jbf (ja8 l c u t) t (ja8 l c u t t + u t) = ja8 l c u (t + 1) := by
 funext s
 unfold jbf ja8
 by_cases h:s = t
 ·subst h
  rw [Nat.beq_refl,cond_true,if_neg (Nat.lt_irrefl s),if_pos (by omega),Int.add_zero]
 ·have:Nat.beq s t = false := by
   cases c:Nat.beq s t
   ·rfl
   ·exact absurd (Nat.eq_of_beq_eq_true c) h
  rw [this,cond_false]
  by_cases g:s < t
  ·rw [if_pos g,if_pos (by omega)]
  ·rw [if_neg g,if_neg (by omega)]
theorem jEy {l:List tQB} {c:List Int} {u:Nat→Int} {t:Nat} (h:u t = 0):ja8 l c u t = ja8 l c u (t + 1) := by
 funext s
 unfold ja8
 by_cases g:s < t
 ·rw [if_pos g,if_pos (by omega)]
 ·rw [if_neg g]
  by_cases e:s = t
  ·rw [if_pos (by omega),e,h]
  ·rw [if_neg (by omega)]
theorem jEz {l:List tQB} {u:Nat→Int} {t:Nat} (h:u t = 0):v_XX l u t = v_XX l u (t + 1) := jhk fun i _ => by
 unfold v_GG
 rw [jcx,Nat.zero_add,h,Int.zero_mul,Int.add_zero]
theorem jeB (l:List tQB) (u:Nat→Int) (t:Nat):(v_XX l u t).length = l.length := jbK _ _
theorem jEA {p0:List tQB} {p1:Int} {p2:T8v} (h:v_ft p0 (jaa p1 8)) {t:Nat} (ht:t < 8) (hu:v_uu p1 (v_l8 p2) t = (v_l8 p2).getD t 0) (y3:DL) (d:CL ⊕ (DL ⊕ Bool)) :
  OkL (jdv p0 p1 p2 y3 ((t:Int),(v_E p0 (jaa p1 8),v_p8 (ja8 p0 (jaa p1 8) (v_uu p1 (v_l8 p2)) t)),v_XX p0 (v_uu p1 (v_l8 p2)) t)) (jhg p0 p1 p2 y3 ((t:Int),(v_E p0 (jaa p1 8),v_p8 (ja8 p0 (jaa p1 8) (v_uu p1 (v_l8 p2)) t)),v_XX p0 (v_uu p1 (v_l8 p2)) t)) (0,v_XX p0 (v_uu p1 (v_l8 p2)) t) ∧
  lpv d (jdv p0 p1 p2 y3 ((t:Int),(v_E p0 (jaa p1 8),v_p8 (ja8 p0 (jaa p1 8) (v_uu p1 (v_l8 p2)) t)),v_XX p0 (v_uu p1 (v_l8 p2)) t)) (0,v_XX p0 (v_uu p1 (v_l8 p2)) t) = .inl (((t + 1:Nat):Int),(v_E p0 (jaa p1 8),v_p8 (ja8 p0 (jaa p1 8) (v_uu p1 (v_l8 p2)) (t + 1))),v_XX p0 (v_uu p1 (v_l8 p2)) (t + 1)) := by
 have hs := h.s
 have hl := hs.len
 have hwt:IntKind.i64.wrap ((t:Int) + 1) = ((t + 1:Nat):Int) := jar (by omega) (by omega)
 have hb := jjm p1 (v_l8 p2)
 have hbt := hb t
 have hQ := jdS h t
 generalize hU:v_uu p1 (v_l8 p2) = u at *
 refine @jbN (List tQB) DL (CL ⊕ (DL ⊕ Bool)) d (jdv p0 p1 p2 y3 ((t:Int),(v_E p0 (jaa p1 8),v_p8 (ja8 p0 (jaa p1 8) u t)),v_XX p0 u t)) (jhg p0 p1 p2 y3 ((t:Int),(v_E p0 (jaa p1 8),v_p8 (ja8 p0 (jaa p1 8) u t)),v_XX p0 u t)) (fun i t => (i,t)) 0 p0.length (fun j s => s = v_mv (fun i => v_b0 p0 i + if i < j then v_GG p0 u (t + 1) i else v_GG p0 u t i) p0) (fun _ _ => .inl (((t + 1:Nat):Int),(v_E p0 (jaa p1 8),v_p8 (ja8 p0 (jaa p1 8) u (t + 1))),v_XX p0 u (t + 1))) (Nat.zero_le _) (by omega) ?_ ?_ _ ?_
 ·rintro s rfl
  have em:v_mv (fun i => v_b0 p0 i + if i < p0.length then v_GG p0 u (t + 1) i else v_GG p0 u t i) p0 = v_XX p0 u (t + 1) := jhk fun i hi => by
   show v_b0 p0 i + (if i < p0.length then _ else _) = _
   rw [if_pos hi]; rfl
  rw [em]
  have en:(p0.length:Int) = ((v_XX p0 u (t + 1)).length:Int) := by rw [jeB]
  refine ⟨?_,?_⟩
  ·simp only [jhg,fM,jeB,decide_eq_false (Int.lt_irrefl (p0.length:Int))]
   exact ⟨fun h => (by cases h),fun h => (by cases h),fun h => (by cases h),fun h => (by cases h),fun h => (by cases h),fun h => (by cases h),fun p hp => (by cases hp)⟩
  ·show jdv p0 p1 p2 y3 _ ((p0.length:Int),v_XX p0 u (t + 1)) = _
   rw [en,jEw p0 p1 p2 y3 t ht,hwt,← hu]
   have e0:ja8 p0 (jaa p1 8) u t t = v_Q p0 (jaa p1 8) t := by unfold ja8; rw [if_neg (Nat.lt_irrefl t),Int.add_zero]
   rw [jar (n := ja8 p0 (jaa p1 8) u t t + u t) (by omega) (by omega),jEx]
 ·rintro j s _ hj rfl
  have hw1:IntKind.i64.wrap ((j:Int) + 1) = ((j + 1:Nat):Int) := jar (by omega) (by omega)
  refine ⟨?_,.inl ⟨v_mv (fun i => v_b0 p0 i + if i < j + 1 then v_GG p0 u (t + 1) i else v_GG p0 u t i) p0,?_,rfl,rfl⟩⟩
  ·simp only [jhg,fM,jbK]
   exact ⟨fun _ => (by omega),fun _ => (by omega),fun _ => (by omega),fun _ => (by omega),fun _ => hs,fun _ => (by omega),fun p hp => (by cases hp)⟩
  ·have hd:decide ((j:Int) < ((v_mv (fun i => v_b0 p0 i + if i < j then v_GG p0 u (t + 1) i else v_GG p0 u t i) p0).length:Int)) = true := decide_eq_true (by rw [jbK]; omega)
   unfold jdv
   simp only
   rw [hd,cond_true,hw1,Int.toNat_natCast,Int.toNat_natCast]
   have r := jEv hs hb ht hj _ rfl
   rw [hu] at r
   exact congrArg (fun z => Sum.inl (((j + 1:Nat):Int),z)) r
 ·exact jhk fun i _ => by
   show _ = v_b0 p0 i + (if i < 0 then _ else _)
   rw [if_neg (by omega)]; rfl
theorem jtu {p0:List tQB} {p1:Int} {p2:T8v} (h:v_ft p0 (jaa p1 8)) (y3:DL) (y5:CL) (hy:y5.2.2 = v_XX p0 (v_uu p1 (v_l8 p2)) 8) (fb:(jai (v_XX p0 (v_uu p1 (v_l8 p2)) 8) p1).1 = v_FF (v_XX p0 (v_uu p1 (v_l8 p2)) 8) (jaa p1 8)) (d:CL ⊕ (DL ⊕ Bool)) :
  OkL (jdQ p0 p1 p2 y3 y5) (jhh p0 p1 p2 y3 y5) 0∧lpv d (jdQ p0 p1 p2 y3 y5) 0 = .inr (.inr true) := by
 have hl := h.s.len
 obtain ⟨ft,_,_⟩ := jnL (u := v_uu p1 (v_l8 p2)) h jnF (jjm _ _)
 have rb := jtn ft.s (jfX ft) 0
 have er:(jbc y5.2.2 (jai ([] ++ y5.2.2) p1).1 0).1 = jdh (v_XX p0 (v_uu p1 (v_l8 p2)) 8) 0 (v_FF (v_XX p0 (v_uu p1 (v_l8 p2)) 8) (jaa p1 8)) := by
  rw [List.nil_append,hy,fb,rb]; rfl
 have el:(jdh (v_XX p0 (v_uu p1 (v_l8 p2)) 8) 0 (v_FF (v_XX p0 (v_uu p1 (v_l8 p2)) 8) (jaa p1 8))).length = p0.length := by rw [jsZ,jeB]
 have ee:((jdh (v_XX p0 (v_uu p1 (v_l8 p2)) 8) 0 (v_FF (v_XX p0 (v_uu p1 (v_l8 p2)) 8) (jaa p1 8))).length:Int) = (p0.length:Int) := by rw [el]
 refine @jbN PUnit Int (CL ⊕ (DL ⊕ Bool)) d (jdQ p0 p1 p2 y3 y5) (jhh p0 p1 p2 y3 y5) (fun i _ => i) 0 p0.length (fun _ _ => True) (fun _ _ => .inr (.inr true)) (Nat.zero_le _) (by omega) ?_ ?_ ⟨⟩ trivial
 ·rintro s _
  refine ⟨?_,?_⟩
  ·simp only [jhh,fM,er,ee,decide_eq_false (Int.lt_irrefl (p0.length:Int))]
   exact ⟨fun h => (by cases h),fun h => (by cases h),fun p hp => (by cases hp)⟩
  ·unfold jdQ
   rw [er,ee,decide_eq_false (Int.lt_irrefl (p0.length:Int)),cond_false]
 ·rintro j s _ hj _
  have hw1:IntKind.i64.wrap ((j:Int) + 1) = ((j + 1:Nat):Int) := jar (by omega) (by omega)
  have hd:decide ((j:Int) < (p0.length:Int)) = true := decide_eq_true (by omega)
  refine ⟨?_,.inl ⟨⟨⟩,?_,trivial,rfl⟩⟩
  ·simp only [jhh,fM,er,ee]
   exact ⟨fun _ => (by omega),fun _ => (by omega),fun p hp => (by cases hp)⟩
  ·unfold jdQ
   rw [er,ee,hd,cond_true,Int.toNat_natCast,jDS (by rw [jeB]; exact hj),jEu h jnF (jjm _ _) hj,hw1]
   rfl
theorem jEB {p0:List tQB} {p1:Int} {p2:T8v} (h:v_ft p0 (jaa p1 8)) (y3:DL) (y5:CL) (hy:y5.2.2 = v_XX p0 (v_uu p1 (v_l8 p2)) 8) (fb:(jai (v_XX p0 (v_uu p1 (v_l8 p2)) 8) p1).1 = v_FF (v_XX p0 (v_uu p1 (v_l8 p2)) 8) (jaa p1 8)) (d:CL ⊕ (DL ⊕ Bool)) :
  OkL (jfU p0 p1 p2 y3 y5) (js6 p0 p1 p2 y3 y5) 0∧lpv d (jfU p0 p1 p2 y3 y5) 0 = .inr (.inr true) := jtu h y3 y5 hy fb d
theorem jjo {α ρ:Type} {f:Int→α→Option ρ} {e:ρ} (d:α):∀ (l:List α) (i:Int),(jaZ f e i l = e∧∀ k,k < l.length→f (i + k) (l.getD k d) = none) ∨ ∃ k v,k < l.length∧f (i + k) (l.getD k d) = some v∧jaZ f e i l = v
 | [],i => .inl ⟨rfl,fun k hk => absurd hk (Nat.not_lt_zero _)⟩
 | x :: r,i => by
  cases h:f i x with
  | some v => exact .inr ⟨0,v,Nat.succ_pos _,by show f (i + 0) x = some v; rw [Int.add_zero]; exact h,by unfold jaZ; rw [h]⟩
  | none =>
   have e1:jaZ f e i (x :: r) = jaZ f e (i + 1) r := by
    conv => lhs; unfold jaZ
    rw [h]
   rcases jjo (f := f) (e := e) d r (i + 1) with ⟨a,b⟩ | ⟨k,v,hk,a,b⟩
   ·refine .inl ⟨e1.trans a,fun k hk => ?_⟩
    cases k with
    | zero => show f (i + 0) x = none; rw [Int.add_zero]; exact h
    | succ k =>
     have := b k (Nat.lt_of_succ_lt_succ hk)
     rw [show i + 1 + (k:Int) = i + ((k + 1:Nat):Int) by omega] at this
     exact this
   ·refine .inr ⟨k + 1,v,Nat.succ_lt_succ hk,?_,e1.trans b⟩
    rw [show i + ((k + 1:Nat):Int) = i + 1 + (k:Int) by omega]
    exact a
theorem jtv {l:List tQB} {m:Int} {f:Int×Int×Int×Int×Int×Int×Int×Int×Int} (hs:v_smp l) (ht:jaV m = 0) (hf:jaI f = 0):ja6 l m f = jen l m f := by
 unfold ja6
 rw [jed.2 hs,ht,hf]; rfl
theorem jtw (l:List tQB) (m:Int) (f:Int×Int×Int×Int×Int×Int×Int×Int×Int):(jc3 l m f = (0,0)∧∀ k,k < (jaa m 8).length→v_tl l f ((jaa m 8).getD k 0).toNat = 0) ∨ ((jc3 l m f).2 = 19∧∃ k,k < (jaa m 8).length∧v_tl l f ((jaa m 8).getD k 0).toNat ≠ 0) := by
 rcases jjo (f := fun _ (t:Int) => cond (jbz l f t.toNat l.length != 0) (some (t,(19:Int))) none) (e := ((0,0):Int×Int)) 0 (jaa m 8) 0 with ⟨a,b⟩ | ⟨k,v,hk,a,b⟩
 ·refine .inl ⟨a,fun k hk => ?_⟩
  have := b k hk
  rcases int0 (jbz l f ((jaa m 8).getD k 0).toNat l.length) with ⟨z,_,_⟩ | ⟨_,z,_⟩
  ·exact z
  ·rw [z] at this; cases this
 ·rcases int0 (jbz l f ((jaa m 8).getD k 0).toNat l.length) with ⟨_,z,_⟩ | ⟨q,z,_⟩
  ·rw [z] at a; cases a
  ·rw [z] at a
   have:((jaa m 8).getD k 0,(19:Int)) = v := Option.some.inj a
   exact .inr ⟨by unfold jc3; rw [b,← this],k,hk,q⟩
theorem jEC (l:List tQB) (m:Int) (f:Int×Int×Int×Int×Int×Int×Int×Int×Int):((jen l m f).2 = 3) ∨ (jen l m f = jc3 l m f) := by
 rcases jjo (f := fun t (n:Int) => cond (cond (n != 0) (!(v_hs m t.toNat)) false) (some (t,(3:Int))) none) (e := cond (v_cg f 8 != 1) (0,3) (jc3 l m f)) 0 (jas f) 0 with ⟨a,b⟩ | ⟨k,v,hk,a,b⟩
 ·unfold jen
  rw [a]
  cases v_cg f 8 != 1
  ·exact .inr rfl
  ·exact .inl rfl
 ·left
  unfold jen
  rw [b]
  cases q:cond ((jas f).getD k 0 != 0) (!(v_hs m (0 + (k:Int)).toNat)) false
  ·simp only [q] at a; cases a
  ·simp only [q] at a
   have:((0:Int) + k,(3:Int)) = v := Option.some.inj a
   rw [← this]
/-- The fit is accepted. -/
theorem jED {l:List tQB} {m:Int} (h:v_ft l (jaa m 8)) (ht:jaV m = 0):ja6 l m (v_FF l (jaa m 8)) = (0,0) := by
 rw [jtv h.s ht (jfX h)]
 have hc:jc3 l m (v_FF l (jaa m 8)) = (0,0) := by
  rcases jtw l m (v_FF l (jaa m 8)) with ⟨a,_⟩ | ⟨_,k,hk,q⟩
  ·exact a
  ·exact absurd (jnI h hk) q
 rcases jjo (f := fun t (n:Int) => cond (cond (n != 0) (!(v_hs m t.toNat)) false) (some (t,(3:Int))) none) (e := cond (v_cg (v_FF l (jaa m 8)) 8 != 1) (0,3) (jc3 l m (v_FF l (jaa m 8)))) 0 (jas (v_FF l (jaa m 8))) 0 with ⟨a,b⟩ | ⟨k,v,hk,a,b⟩
 ·unfold jen
  rw [a,jEj h,hc]; rfl
 ·have hk8:k < 8 := hk
  rw [jhj l _ hk8,Int.zero_add,Int.toNat_natCast] at a
  rcases int0 (v_Q l (jaa m 8) k) with ⟨_,z,_⟩ | ⟨q,z,_⟩
  ·rw [z] at a; cases a
  ·have:v_hs m k = true := by
    rcases jjk (l := l) h.ca k with ⟨j,hj,e,_⟩ | ⟨_,e⟩
    ·exact (jjl hk8).2 ⟨j,hj,e⟩
    ·exact absurd e q
   rw [z,this] at a; cases a
/-- No other one is. -/
theorem jEE {l:List tQB} {m:Int} {u:Nat→Int} (h:v_ft l (jaa m 8)) (ht:jaV m = 0) (hu:∀ t,v_hs m t = false→u t = 0) (hf:jaI (v_CH l (jaa m 8) u) = 0) (hn:¬ ∀ t,t < 8→u t = 0):cond ((ja6 l m (v_CH l (jaa m 8) u)).2 != 3) ((ja6 l m (v_CH l (jaa m 8) u)).2 != 19) false = false := by
 rw [jtv h.s ht hf]
 rcases jEC l m (v_CH l (jaa m 8) u) with e | e
 ·rw [e]; rfl
 ·rw [e]
  rcases jtw l m (v_CH l (jaa m 8) u) with ⟨_,b⟩ | ⟨b,_⟩
  ·exact absurd (jEn h hu b) hn
  ·rw [b]; rfl
abbrev F9v:Type := Int×Int×Int×Int×Int×Int×Int×Int×Int
def jjp (f g:F9v):Bool := !(f.1 == g.1 && (f.2.1 == g.2.1 && (f.2.2.1 == g.2.2.1 && (f.2.2.2.1 == g.2.2.2.1 && (f.2.2.2.2.1 == g.2.2.2.2.1 && (f.2.2.2.2.2.1 == g.2.2.2.2.2.1 && (f.2.2.2.2.2.2.1 == g.2.2.2.2.2.2.1 && (f.2.2.2.2.2.2.2.1 == g.2.2.2.2.2.2.2.1 && (f.2.2.2.2.2.2.2.2 == g.2.2.2.2.2.2.2.2 && true)))))))))
theorem jEF (f:F9v):jjp f f = false := by unfold jjp; simp
theorem jEG (p0:List tQB) (p1:Int) (p2:T8v) (y3:DL) (f:F9v) (L:List tQB):jdR p0 p1 p2 y3 (8,f,L) =
 cond (cond (jjp f (jai ([] ++ p0) p1).1) (jaI f == 0) false)
  (cond (cond ((ja6 ([] ++ p0) p1 f).2 != 3) ((ja6 ([] ++ p0) p1 f).2 != 19) false) (.inr (.inr false))
   (cond (decide (jaF (jaH (jap (v_sq p0 (jai ([] ++ p0) p1).1 p0.length))) (jaH (jap (v_sq p0 f p0.length))) > 0)) (.inr (.inr false))
    (cond (cond ((jai ([] ++ L) p1).2 != 0) true (jaI (jai ([] ++ L) p1).1 != 0)) (.inr (.inr false))
     (cond (cond ((jbc L (jai ([] ++ L) p1).1 0).2 != 0) true (((jbc L (jai ([] ++ L) p1).1 0).1.length:Int) != (p0.length:Int))) (.inr (.inr false)) (lpv (.inr (.inr false)) (jdQ p0 p1 p2 y3 (8,f,L)) 0)))))
  (cond (cond ((jai ([] ++ L) p1).2 != 0) true (jaI (jai ([] ++ L) p1).1 != 0)) (.inr (.inr false))
   (cond (cond ((jbc L (jai ([] ++ L) p1).1 0).2 != 0) true (((jbc L (jai ([] ++ L) p1).1 0).1.length:Int) != (p0.length:Int))) (.inr (.inr false)) (lpv (.inr (.inr false)) (jfU p0 p1 p2 y3 (8,f,L)) 0))) := by kernel_rfl
theorem jtx {a b:Bool} (h:cond a b false = true):a = true∧b = true := by cases a <;> cases b <;> first | exact ⟨rfl,rfl⟩ | cases h
theorem jEH {a b:Int} (h:a≤b):decide (jaF a b > 0) = false := by
 unfold jaF
 rw [decide_eq_false (show ¬ a > b by omega)]
 cases decide (a < b) <;> rfl
theorem jEI {p0:List tQB} {p1:Int} {p2:T8v} (h:v_ft p0 (jaa p1 8)) (ht:jaV p1 = 0) (fa:(jai p0 p1).1 = v_FF p0 (jaa p1 8)) (y3:DL) (d:DL ⊕ Bool) :
  OkL (jdR p0 p1 p2 y3) (jfV p0 p1 p2 y3) (0,v_FF p0 (jaa p1 8),v_XX p0 (v_uu p1 (v_l8 p2)) 0)∧lpv d (jdR p0 p1 p2 y3) (0,v_FF p0 (jaa p1 8),v_XX p0 (v_uu p1 (v_l8 p2)) 0) = .inr true := by
 have hl := h.s.len
 have hu0:∀ t,v_hs p1 t = false→v_uu p1 (v_l8 p2) t = 0 := jnF
 have hb := jjm p1 (v_l8 p2)
 obtain ⟨ft,eE,eQ⟩ := jnL h hu0 hb
 have fx:jai (v_XX p0 (v_uu p1 (v_l8 p2)) 8) p1 = (v_FF (v_XX p0 (v_uu p1 (v_l8 p2)) 8) (jaa p1 8),0) := by
  rw [jtg ft.s ht]
  unfold jcs
  rw [ft.sm]
  rcases int0 (v_D (v_XX p0 (v_uu p1 (v_l8 p2)) 8) (jaa p1 8)) with ⟨z,_,_⟩ | ⟨_,_,z⟩
  ·have := ft.D; omega
  ·rw [z]; rfl
 have rb := jtn ft.s (jfX ft) 0
 have el:((jdh (v_XX p0 (v_uu p1 (v_l8 p2)) 8) 0 (v_FF (v_XX p0 (v_uu p1 (v_l8 p2)) 8) (jaa p1 8))).length:Int) = (p0.length:Int) := by rw [jsZ,jeB]
 refine @jbN (F9v×List tQB) CL (DL ⊕ Bool) d (jdR p0 p1 p2 y3) (jfV p0 p1 p2 y3) (fun i s => (i,s)) 0 8 (fun t s => s = ((v_E p0 (jaa p1 8),v_p8 (ja8 p0 (jaa p1 8) (v_uu p1 (v_l8 p2)) t)),v_XX p0 (v_uu p1 (v_l8 p2)) t)) (fun _ _ => .inr true) (by omega) (by omega) ?_ ?_ _ ?_
 ·rintro s rfl
  show (∀ p∈jfV p0 p1 p2 y3 (8,v_CH p0 (jaa p1 8) (v_uu p1 (v_l8 p2)),v_XX p0 (v_uu p1 (v_l8 p2)) 8),p)∧jdR p0 p1 p2 y3 (8,v_CH p0 (jaa p1 8) (v_uu p1 (v_l8 p2)),v_XX p0 (v_uu p1 (v_l8 p2)) 8) = _
  have l1 := jtu (p2 := p2) h y3 (8,v_CH p0 (jaa p1 8) (v_uu p1 (v_l8 p2)),v_XX p0 (v_uu p1 (v_l8 p2)) 8) rfl (by rw [fx]) (.inr (.inr false))
  have l2 := jEB (p2 := p2) h y3 (8,v_CH p0 (jaa p1 8) (v_uu p1 (v_l8 p2)),v_XX p0 (v_uu p1 (v_l8 p2)) 8) rfl (by rw [fx]) (.inr (.inr false))
  have hsz:(0 + p0.length) * 40≤140737488355328 := by omega
  have hsx:(0 + (v_XX p0 (v_uu p1 (v_l8 p2)) 8).length) * 40≤140737488355328 := by rw [jeB]; omega
  have hfF := jgS (jfX h)
  have hw:∀ f,v_fok f→v_wok (jap (v_sq p0 f p0.length)) := fun f hf => jg5 (by have := jng h.s hf p0.length (Nat.le_refl _); omega)
  refine ⟨?_,?_⟩
  ·have hA:∀ {b},cond b ((jaI (v_CH p0 (jaa p1 8) (v_uu p1 (v_l8 p2)))) == 0) false = true→v_fok (v_CH p0 (jaa p1 8) (v_uu p1 (v_l8 p2))) := fun q => jgS (by have := (jtx q).2; simpa using this)
   simp only [jfV,fM,List.nil_append,List.length_nil,show decide ((8:Int) < 8) = false from rfl,fa]
   exact ⟨fun h => (by cases h),fun h => (by cases h),fun h => (by cases h),fun h => (by cases h),fun h => (by cases h),fun h => (by cases h),fun _ _ => hsz,fun _ _ _ => h.s,fun _ _ _ => hfF,fun _ q _ => hA q,fun _ _ _ => hw _ hfF,fun _ q _ => hw _ (hA q),fun _ _ _ _ => hsx,fun _ _ _ _ _ _ => l1.1,fun _ _ => hsx,fun _ _ _ _ => l2.1,fun p hp => (by cases hp)⟩
  ·rw [jEG]
   simp only [List.nil_append,fx,fa,rb,el,jfX ft,l1.2,l2.2]
   by_cases hz:∀ t,t < 8→v_uu p1 (v_l8 p2) t = 0
   ·have e:v_CH p0 (jaa p1 8) (v_uu p1 (v_l8 p2)) = v_FF p0 (jaa p1 8) := by
     have q:∀ t,t < 8→ja8 p0 (jaa p1 8) (v_uu p1 (v_l8 p2)) 8 t = v_Q p0 (jaa p1 8) t := fun t ht => by
      unfold ja8
      rw [if_pos ht,hz t ht,Int.add_zero]
     unfold v_CH v_FF v_p8
     rw [q 0 (by omega),q 1 (by omega),q 2 (by omega),q 3 (by omega),q 4 (by omega),q 5 (by omega),q 6 (by omega),q 7 (by omega)]
    rw [e,jEF]
    simp [el]
   ·cases q:cond (jjp (v_CH p0 (jaa p1 8) (v_uu p1 (v_l8 p2))) (v_FF p0 (jaa p1 8))) (jaI (v_CH p0 (jaa p1 8) (v_uu p1 (v_l8 p2))) == 0) false
    ·simp [el]
    ·have qf:jaI (v_CH p0 (jaa p1 8) (v_uu p1 (v_l8 p2))) = 0 := by have := (jtx q).2; simpa using this
     rw [jEE h ht hu0 qf hz,jc5,jc5,jEH (jEm h hu0)]
     simp [el]
 ·rintro t s _ ht8 rfl
  have hw1:IntKind.i64.wrap ((t:Int) + 1) = ((t + 1:Nat):Int) := jar (by omega) (by omega)
  have hd:decide ((t:Int) < 8) = true := decide_eq_true (by omega)
  have hcnd:(cond (jam .i64 (jab .i64 p1 (t:Int)) 1 == 0) true (!(s_Z5 ((v_l8 p2).getD t 0) (-20) 20)) = true∧v_uu p1 (v_l8 p2) t = 0) ∨ (cond (jam .i64 (jab .i64 p1 (t:Int)) 1 == 0) true (!(s_Z5 ((v_l8 p2).getD t 0) (-20) 20)) = false∧v_uu p1 (v_l8 p2) t = (v_l8 p2).getD t 0) := by
   rw [jEg]
   unfold v_uu
   cases v_hs p1 t
   ·exact .inl ⟨rfl,rfl⟩
   ·cases s_Z5 ((v_l8 p2).getD t 0) (-20) 20
    ·exact .inl ⟨rfl,rfl⟩
    ·exact .inr ⟨rfl,rfl⟩
  have hlist:List.getD (p2.1 :: (p2.2.1 :: (p2.2.2.1 :: (p2.2.2.2.1 :: (p2.2.2.2.2.1 :: (p2.2.2.2.2.2.1 :: (p2.2.2.2.2.2.2.1 :: (p2.2.2.2.2.2.2.2 :: ([]:List Int))))))))) t 0 = (v_l8 p2).getD t 0 := rfl
  have l0 := fun q => @jEA p0 p1 p2 h t ht8 q y3 (.inr (.inr false))
  refine ⟨?_,.inl ⟨((v_E p0 (jaa p1 8),v_p8 (ja8 p0 (jaa p1 8) (v_uu p1 (v_l8 p2)) (t + 1))),v_XX p0 (v_uu p1 (v_l8 p2)) (t + 1)),?_,rfl,rfl⟩⟩
  ·simp only [jfV,fM,hd,Int.toNat_natCast,hlist]
   rcases hcnd with ⟨c1,c2⟩ | ⟨c1,c2⟩
   ·rw [c1]
    exact ⟨fun _ => (by omega),fun _ _ => (by omega),fun _ _ => (by omega),fun _ h => (by cases h),fun _ h => (by cases h),fun _ h => (by cases h),fun h => (by cases h),fun h => (by cases h),fun h => (by cases h),fun h => (by cases h),fun h => (by cases h),fun h => (by cases h),fun h => (by cases h),fun h => (by cases h),fun h => (by cases h),fun h => (by cases h),fun p hp => (by cases hp)⟩
   ·exact ⟨fun _ => (by omega),fun _ _ => (by omega),fun _ _ => (by omega),fun _ _ => (by omega),fun _ _ => (by omega),fun _ _ => (l0 c2).1,fun h => (by cases h),fun h => (by cases h),fun h => (by cases h),fun h => (by cases h),fun h => (by cases h),fun h => (by cases h),fun h => (by cases h),fun h => (by cases h),fun h => (by cases h),fun h => (by cases h),fun p hp => (by cases hp)⟩
  ·unfold jdR
   rw [hd,cond_true]
   simp only [Int.toNat_natCast,hlist]
   rcases hcnd with ⟨c1,c2⟩ | ⟨c1,c2⟩
   ·rw [c1,cond_true,hw1,jEy c2,jEz c2]
   ·rw [c1,cond_false]
    exact (l0 c2).2
 ·have e:ja8 p0 (jaa p1 8) (v_uu p1 (v_l8 p2)) 0 = v_Q p0 (jaa p1 8) := by
   funext s
   unfold ja8
   rw [if_neg (Nat.not_lt_zero _),Int.add_zero]
  rw [e]; rfl
theorem jEJ {p0:List tQB} {p1:Int} {p2:T8v} (h:v_ft p0 (jaa p1 8)) (ht:jaV p1 = 0) (fa:(jai p0 p1).1 = v_FF p0 (jaa p1 8)) :
  OkL (jeA p0 p1 p2) (jhi p0 p1 p2) (0,p0)∧lpv false (jeA p0 p1 p2) (0,p0) = true := by
 have hl := h.s.len
 refine @jbN (List tQB) DL Bool false (jeA p0 p1 p2) (jhi p0 p1 p2) (fun i s => (i,s)) 0 p0.length (fun j s => s = v_mv (fun i => if i < j then v_b0 p0 i else 0) p0) (fun _ _ => true) (by omega) (by omega) ?_ ?_ p0 ?_
 ·rintro s rfl
  have em:v_mv (fun i => if i < p0.length then v_b0 p0 i else 0) p0 = v_XX p0 (v_uu p1 (v_l8 p2)) 0 := jhk fun i hi => by
   show (if i < p0.length then _ else _) = v_b0 p0 i + v_GG p0 _ 0 i
   rw [if_pos hi]
   show _ = v_b0 p0 i + 0
   rw [Int.add_zero]
  have l3 := jEI (p2 := p2) h ht fa ((p0.length:Int),v_XX p0 (v_uu p1 (v_l8 p2)) 0) (.inr false)
  rw [em]
  refine ⟨?_,?_⟩
  ·simp only [jhi,fM,jeB,decide_eq_false (Int.lt_irrefl (p0.length:Int)),List.nil_append,fa]
   exact ⟨fun h => (by cases h),fun h => (by cases h),fun _ => l3.1,fun p hp => (by cases hp)⟩
  ·unfold jeA
   simp only [jeB,decide_eq_false (Int.lt_irrefl (p0.length:Int)),List.nil_append,fa,cond_false]
   exact l3.2
 ·rintro j s _ hj rfl
  have hw1:IntKind.i64.wrap ((j:Int) + 1) = ((j + 1:Nat):Int) := jar (by omega) (by omega)
  have hd:decide ((j:Int) < (p0.length:Int)) = true := decide_eq_true (by omega)
  have e:(v_mv (fun i => if i < j then v_b0 p0 i else 0) p0).set j ((p0.getD j (0,0,0,0,0)).1,(p0.getD j (0,0,0,0,0)).2.1,(p0.getD j (0,0,0,0,0)).2.2.1,(p0.getD j (0,0,0,0,0)).2.2.2.1,0) = v_mv (fun i => if i < j + 1 then v_b0 p0 i else 0) p0 := by
   have z:(0:Int) = (p0.getD j (0,0,0,0,0)).2.2.2.2 + v_b0 p0 j := by unfold v_b0; omega
   conv => lhs; rw [show ((p0.getD j (0,0,0,0,0)).1,(p0.getD j (0,0,0,0,0)).2.1,(p0.getD j (0,0,0,0,0)).2.2.1,(p0.getD j (0,0,0,0,0)).2.2.2.1,(0:Int)) = ((p0.getD j (0,0,0,0,0)).1,(p0.getD j (0,0,0,0,0)).2.1,(p0.getD j (0,0,0,0,0)).2.2.1,(p0.getD j (0,0,0,0,0)).2.2.2.1,(p0.getD j (0,0,0,0,0)).2.2.2.2 + v_b0 p0 j) by rw [← z],jtm hj]
   refine jhk fun i _ => ?_
   by_cases q:i = j
   ·rw [if_pos q,if_pos (by omega),q]
   ·rw [if_neg q]
    by_cases q2:i < j
    ·rw [if_pos q2,if_pos (by omega)]
    ·rw [if_neg q2,if_neg (by omega)]
  refine ⟨?_,.inl ⟨v_mv (fun i => if i < j + 1 then v_b0 p0 i else 0) p0,?_,rfl,rfl⟩⟩
  ·simp only [jhi,fM,jbK,hd]
   exact ⟨fun _ => (by omega),fun _ => (by omega),fun h => (by cases h),fun p hp => (by cases hp)⟩
  ·unfold jeA
   simp only [jbK,hd,cond_true,hw1,Int.toNat_natCast]
   rw [jcl hj]
   exact congrArg (fun z => Sum.inl (((j + 1:Nat):Int),z)) e
 ·exact (jEh fun i _ => if_neg (Nat.not_lt_zero _)).symm
theorem jty (p0:List tQB) (p1:Int) (p2:Int×Int×Int×Int×Int×Int×Int×Int) (_:okPs P_Z1 (p0,p1,p2)):(∀ p∈jjh p0 p1 p2,p)∧s_Z1 p0 p1 p2 = true := by
 have key:cond (!(decide ((p0.length:Int)≤22))) true (jcr p0 p1 != 0) = false→v_smp p0∧jaV p1 = 0 := by
  intro h
  cases c:decide ((p0.length:Int)≤22) <;> rw [c] at h
  ·cases h
  ·have h2:(jcr p0 p1 != 0) = false := h
   have z := jf7 h2
   unfold jcr at z
   cases r:((v_cs p0).2 != 0) <;> rw [r] at z
   ·exact ⟨jed.1 (jf7 r),z⟩
   ·rw [cond_true] at z; rw [z] at r; cases r
 unfold jjh s_Z1
 simp only [fM,List.nil_append,List.length_nil]
 cases h:cond (!(decide ((p0.length:Int)≤22))) true (jcr p0 p1 != 0)
 ·obtain ⟨hs,ht⟩ := key h
  have hl := hs.len
  have hF := jtg hs ht
  have hsz:(0 + p0.length) * 40≤140737488355328 := by omega
  rcases jEi p0 (jaa p1 8) with ⟨a,_⟩ | ⟨_,a | a⟩
  ·rw [← hF] at a
   rw [a]
   exact ⟨⟨fun _ => hsz,fun _ h => (by cases h),fun _ h => (by cases h),fun _ h => (by cases h),fun p hp => (by cases hp)⟩,rfl⟩
  ·rw [← hF] at a
   rw [a]
   exact ⟨⟨fun _ => hsz,fun _ h => (by cases h),fun _ h => (by cases h),fun _ h => (by cases h),fun p hp => (by cases hp)⟩,rfl⟩
  ·obtain ⟨ft,ef⟩ := jEb hs (jEa ht) a
   rw [← hF] at a ef
   have fa:(jai p0 p1).1 = v_FF p0 (jaa p1 8) := ef
   have l4 := jEJ (p2 := p2) ft ht fa
   rw [a,fa,jED ft ht,jfX ft]
   exact ⟨⟨fun _ => hsz,fun _ _ => hsz,fun _ _ _ => hsz,fun _ _ _ => l4.1,fun p hp => (by cases hp)⟩,l4.2⟩
 ·exact ⟨⟨fun h => (by cases h),fun h => (by cases h),fun h => (by cases h),fun h => (by cases h),fun p hp => (by cases hp)⟩,rfl⟩

theorem own:ownKnob Try.prog.godebug = none := by kernel_rfl
theorem jEK:laidOutB Try.prog = true := by kernel_rfl
theorem hfn3:Try.prog.funcs[3]? = some (fnOf Try.prog 3) := by kernel_rfl
theorem hps3:(fnOf Try.prog 3).params.size = 3 := by kernel_rfl
theorem jEL (os:Os) (started:os.Started) (H:Type) (enc:TypeId×Value→H) :
  ReturnsInHanded {} Try.checked os 3 .any (Rows.magnetBestSpec.pre6 enc Try.prog (fnOf Try.prog 3) [] false) (Rows.magnetBestSpec.post enc Try.prog (fnOf Try.prog 3) false true false false) :=
 jGt (C := Try.checked) (ss := P_Z1.map shP) own started (by kernel_rfl) hfn3
  (ChangeSpec.witness6 (enc := enc) (C := Try.checked) false ⟨#[],jFB P_Z1,[]⟩ 8 (by kernel_rfl) (by kernel_rfl) (by kernel_rfl) (by kernel_rfl)) rfl
  (fun ds h => by
   rw [hps3] at h
   match ds,h with
   | [_,_,_],_ => rfl)
  jEK (by kernel_rfl) (rt := (fnOf Try.prog 3).resultTypes.getD 0 0) (by kernel_rfl) (by kernel_rfl) (by kernel_rfl)
  (jFC jD3 fun x hx => ⟨(jty x.1 x.2.1 x.2.2 hx).1,congrArg (fun b => V.p (.bool b)) (jty x.1 x.2.1 x.2.2 hx).2⟩) (fun _ => rfl)
theorem MagnetBest_holds:Rows.MagnetBestSaid :=
 OpenClaim.holds_of_wide 3 (fnOf Try.prog 3) rfl rfl rfl rfl rfl rfl rfl ⟨rfl,rfl,rfl,rfl,rfl⟩ rfl rfl rfl rfl rfl (by kernel_rfl) hfn3 (by kernel_rfl)
  (of_decide_eq_true (by kernel_rfl)) (by unfold Func.isWrapper; first | (rw [if_pos (by decide +kernel)]; kernel_rfl) | (rw [if_neg (by decide +kernel)]; exact ⟨rfl,rfl⟩))
  (fun os started H enc _ => jEL os started H enc)
end Go.Proofs.Ytcdbaepeabefnaa
