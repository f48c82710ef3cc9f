/- MagnetInvariant: the given statement is proved: at every input the law returns true, and the input reads as it did. No condition. -/
import Derived.Test.YtdkhhafmidokmaaWalkMagnetInvariant
import Derived.Test.YtdkhhafmidokmaaLayB
import Derived.Test.YtdkhhafmidokmaaMxU
import Derived.Test.YtdkhhafmidokmaaRows
import Derived.ProofKit
namespace Go.Proofs.Ytdkhhafmidokmaa
open Go Go.Mx
set_option maxRecDepth 100000
set_option maxHeartbeats 4000000
/-- Readings to which numbers are added. -/
def v_mv (g:Nat→Int) (l:List (Int×Int×Int×Int×Int)):List (Int×Int×Int×Int×Int) := (List.range' 0 l.length).map fun i => ((l.getD i (0,0,0,0,0)).1,(l.getD i (0,0,0,0,0)).2.1,(l.getD i (0,0,0,0,0)).2.2.1,(l.getD i (0,0,0,0,0)).2.2.2.1,(l.getD i (0,0,0,0,0)).2.2.2.2 + g i)
theorem v_mv_len (g:Nat→Int) (l:List (Int×Int×Int×Int×Int)):(v_mv g l).length = l.length := by unfold v_mv; simp
theorem v_mv_get {g:Nat→Int} {l:List (Int×Int×Int×Int×Int)} {i:Nat} (h:i < l.length):(v_mv g l).getD i (0,0,0,0,0) = ((l.getD i (0,0,0,0,0)).1,(l.getD i (0,0,0,0,0)).2.1,(l.getD i (0,0,0,0,0)).2.2.1,(l.getD i (0,0,0,0,0)).2.2.2.1,(l.getD i (0,0,0,0,0)).2.2.2.2 + g i) := by
  unfold v_mv
  rw [List.getD_eq_getElem?_getD,List.getElem?_map,List.getElem?_range' h]; simp
theorem v_mv_tms {g:Nat→Int} {l:List (Int×Int×Int×Int×Int)} {i:Nat} (h:i < l.length):v_tms (v_mv g l) i = v_tms l i := by
  unfold v_tms
  rw [v_mv_get h,v_mv_get (show i - 1 < l.length by omega)]
/-- A term of a sample. -/
def v_tt (l:List (Int×Int×Int×Int×Int)) (i t:Nat):Int := (v_tml (v_tms l i)).getD t 0
theorem v_tk_tt (l:List (Int×Int×Int×Int×Int)) (c:gF) (k j:Nat):v_tk l c k j = v_tt l k (c.getD j 0).toNat := rfl
theorem v_mv_gs (g:Nat→Int) (l:List (Int×Int×Int×Int×Int)) (c:gF) (r s m:Nat) (hm:m≤l.length):v_gs (v_mv g l) c r s m = v_gs l c r s m := by
  unfold v_gs
  refine v_sums_congr m 0 fun k _ hk => ?_
  rw [v_tk_tt,v_tk_tt,v_tk_tt,v_tk_tt]
  unfold v_tt
  rw [v_mv_tms (by omega)]
theorem v_mv_G (g:Nat→Int) (l:List (Int×Int×Int×Int×Int)) (c:gF):v_G (v_mv g l) c = v_G l c := by
  funext r s
  unfold v_G v_gmi
  rw [v_mv_len,v_mv_gs g l c r s _ (Nat.le_refl _)]
theorem v_mv_rs (g:Nat→Int) (l:List (Int×Int×Int×Int×Int)) (c:gF) (r:Nat):∀ m,m≤l.length→v_rs (v_mv g l) c r m = v_rs l c r m + v_sums (fun k => v_tk l c k r * g k) 0 m
  | 0,_ => rfl
  | m + 1,hm => by
    have ih := v_mv_rs g l c r m (by omega)
    have e1:∀ q,v_rs q c r (m + 1) = v_rs q c r m + v_tk q c m r * (q.getD m (0,0,0,0,0)).2.2.2.2 := fun q => by
      unfold v_rs
      rw [v_sums_last,Nat.zero_add]
    rw [e1,e1,ih,v_sums_last,Nat.zero_add,v_mv_get (by omega),v_tk_tt,v_tk_tt]
    unfold v_tt
    rw [v_mv_tms (by omega)]
    grind
/-- Sums over all terms of what is 0 off the chosen ones. -/
theorem v_cho_sum {m:Int} {f:Nat→Int} (h:∀ t,v_hs m t = false→f t = 0):∀ n,v_sums f 0 n = ((v_cho m n).map fun x => f x.toNat).sum
  | 0 => rfl
  | n + 1 => by
    rw [v_sums_last,v_cho_sum h n,Nat.zero_add,show v_cho m (n + 1) = v_cho m n ++ cond (v_hs m n) [(n:Int)] [] from rfl,List.map_append,List.sum_append]
    cases c:v_hs m n
    · rw [h n c]; rfl
    · simp
def v_pd (c:gF) (h:Int→Int) (j:Nat):Int := if j < c.length then h (c.getD j 0) else 0
theorem v_sum4 {c:List Int} (hc:c.length≤4) (h:Int→Int):(c.map h).sum = v_pd c h 0 + v_pd c h 1 + v_pd c h 2 + v_pd c h 3 := by
  match c,hc with
  | [],_ => simp [v_pd]
  | [a],_ => simp [v_pd]
  | [a,b],_ => simp [v_pd]
  | [a,b,d],_ => simp [v_pd] <;> omega
  | [a,b,d,e],_ => simp [v_pd] <;> omega
  | a :: b :: d :: e :: r :: q,hc => simp at hc
theorem v_gr_sum {l:List (Int×Int×Int×Int×Int)} {m:Int} {u:Nat→Int} (hu:∀ t,v_hs m t = false→u t = 0) (hn:(v_cho m 8).length≤4) (k:Nat):v_sums (fun t => u t * v_tt l k t) 0 8 = v_pd (v_cho m 8) (fun x => u x.toNat) 0 * v_tk l (v_cho m 8) k 0 + v_pd (v_cho m 8) (fun x => u x.toNat) 1 * v_tk l (v_cho m 8) k 1 + v_pd (v_cho m 8) (fun x => u x.toNat) 2 * v_tk l (v_cho m 8) k 2 + v_pd (v_cho m 8) (fun x => u x.toNat) 3 * v_tk l (v_cho m 8) k 3 := by
  rw [v_cho_sum (m := m) (fun t h => by rw [hu t h,Int.zero_mul]) 8,v_sum4 hn]
  have e:∀ j,v_pd (v_cho m 8) (fun x => u x.toNat * v_tt l k x.toNat) j = v_pd (v_cho m 8) (fun x => u x.toNat) j * v_tk l (v_cho m 8) k j := fun j => by
    unfold v_pd
    by_cases h:j < (v_cho m 8).length
    · rw [if_pos h,if_pos h]; rfl
    · rw [if_neg h,if_neg h,Int.zero_mul]
  rw [e,e,e,e]
theorem v_tg_sum {l:List (Int×Int×Int×Int×Int)} (c:gF) (w:Nat→Int) (r:Nat):∀ m,v_sums (fun k => v_tk l c k r * (w 0 * v_tk l c k 0 + w 1 * v_tk l c k 1 + w 2 * v_tk l c k 2 + w 3 * v_tk l c k 3)) 0 m = v_gs l c r 0 m * w 0 + v_gs l c r 1 m * w 1 + v_gs l c r 2 m * w 2 + v_gs l c r 3 m * w 3
  | 0 => by simp [v_sums,v_gs]
  | m + 1 => by
    rw [v_sums_last,v_tg_sum c w r m,Nat.zero_add,v_gs_last,v_gs_last,v_gs_last,v_gs_last]
    grind
theorem v_Gw {l:List (Int×Int×Int×Int×Int)} {c:List Int} {w:Nat→Int} (hw:∀ j,c.length≤j→w j = 0) {r:Nat} (hr:r < c.length):v_up4s (v_G l c) w r = v_gs l c r 0 l.length * w 0 + v_gs l c r 1 l.length * w 1 + v_gs l c r 2 l.length * w 2 + v_gs l c r 3 l.length * w 3 := by
  have e:∀ j,v_G l c r j * w j = v_gs l c r j l.length * w j := fun j => by
    rcases Nat.lt_or_ge j c.length with h | h
    · rw [v_G_in l c hr h]
    · rw [hw j h,Int.mul_zero,Int.mul_zero]
  unfold v_up4s
  rw [e,e,e,e]
theorem v_Gw_out {l:List (Int×Int×Int×Int×Int)} {c:List Int} {w:Nat→Int} (hw:∀ j,c.length≤j→w j = 0) {r:Nat} (hr:c.length≤r):v_up4s (v_G l c) w r = 0 := by
  have e:∀ j,v_G l c r j * w j = 0 := fun j => by
    rcases Nat.lt_or_ge j c.length with h | h
    · rw [v_G_out l c (by omega),if_neg (by omega),Int.zero_mul]
    · rw [hw j h,Int.mul_zero]
  unfold v_up4s
  rw [e,e,e,e]; rfl
/-- What a moved right side is. -/
theorem v_mv_R {l:List (Int×Int×Int×Int×Int)} {m:Int} {u:Nat→Int} (hu:∀ t,v_hs m t = false→u t = 0) (hn:(v_cho m 8).length≤4):v_R (v_mv (fun i => v_sums (fun t => u t * v_tt l i t) 0 8) l) (v_cho m 8) = fun r => v_R l (v_cho m 8) r + v_up4s (v_G l (v_cho m 8)) (v_pd (v_cho m 8) fun x => u x.toNat) r := by
  have hw:∀ j,(v_cho m 8).length≤j→v_pd (v_cho m 8) (fun x => u x.toNat) j = 0 := fun j h => by unfold v_pd; rw [if_neg (by omega)]
  funext r
  unfold v_R v_gri
  by_cases h:r < (v_cho m 8).length
  · rw [if_pos h,if_pos h,v_mv_len,v_mv_rs _ l _ r _ (Nat.le_refl _),v_Gw hw h]
    congr 1
    rw [← v_tg_sum]
    exact v_sums_congr _ 0 fun k _ _ => by rw [v_gr_sum hu hn]
  · rw [if_neg h,if_neg h,v_Gw_out hw (by omega)]; rfl
theorem v_mv_D (g:Nat→Int) (l:List (Int×Int×Int×Int×Int)) (c:gF):v_D (v_mv g l) c = v_D l c := by
  unfold v_D
  rw [v_mv_G]
theorem v_mv_P {l:List (Int×Int×Int×Int×Int)} {m:Int} {u:Nat→Int} (hu:∀ t,v_hs m t = false→u t = 0) (hn:(v_cho m 8).length≤4) {k:Nat} (hk:k < 4):v_P (v_mv (fun i => v_sums (fun t => u t * v_tt l i t) 0 8) l) (v_cho m 8) k = v_P l (v_cho m 8) k + v_D l (v_cho m 8) * v_pd (v_cho m 8) (fun x => u x.toNat) k := by
  unfold v_P v_D
  rw [v_det_e4,v_det_e4,v_det_e4,v_mv_G,v_mv_R hu hn,v_crap _ _ _ hk]
theorem v_gcd_mod {c x D:Int} (h:c ∣ D):v_gcd c (max x (-x) % D) = v_gcd c x := by
  unfold v_gcd
  have e:Int.gcd c (max x (-x)) = Int.gcd c x := by
    rcases Int.le_total 0 x with g | g
    · rw [show max x (-x) = x by omega]
    · rw [show max x (-x) = -x by omega,Int.gcd_neg]
  rw [← e]
  have e2 := Int.emod_add_mul_ediv (max x (-x)) D
  congr 1
  conv => rhs; rw [← e2]
  rw [Int.gcd_add_right_right_of_dvd]
  exact Int.dvd_mul_of_dvd_left h
theorem v_gcd_add {c x D w:Int} (h:c ∣ D):v_gcd c (x + D * w) = v_gcd c x := by
  unfold v_gcd
  rw [Int.gcd_add_right_right_of_dvd]
  exact Int.dvd_mul_of_dvd_left h
theorem v_fg_dvd (l:List (Int×Int×Int×Int×Int)) (c:gF):∀ k,v_fg l c k ∣ v_D l c
  | 0 => Int.dvd_refl _
  | k + 1 => Int.dvd_trans (v_gcd_dvd_left _ _) (v_fg_dvd l c k)
theorem v_fg_step (l:List (Int×Int×Int×Int×Int)) (c:gF) (k:Nat):v_fg l c (k + 1) = v_gcd (v_fg l c k) (v_P l c k) := v_gcd_mod (v_fg_dvd l c k)
theorem v_fg_le (l:List (Int×Int×Int×Int×Int)) (c:gF) (k:Nat):∀ n,v_fg l c (k + n) ∣ v_fg l c k
  | 0 => Int.dvd_refl _
  | n + 1 => Int.dvd_trans (v_gcd_dvd_left _ _) (v_fg_le l c k n)
theorem v_fg_P (l:List (Int×Int×Int×Int×Int)) (c:gF) {k n:Nat} (h:k < n):v_fg l c n ∣ v_P l c k := by
  obtain ⟨d,rfl⟩ : ∃ d,n = k + 1 + d := ⟨n - (k + 1),by omega⟩
  refine Int.dvd_trans (v_fg_le l c (k + 1) d) ?_
  rw [v_fg_step]
  exact v_gcd_dvd_right _ _
/-- A part is exact. -/
theorem v_fq_mul {l:List (Int×Int×Int×Int×Int)} {c:List Int} {k:Nat} (hk:k < c.length):v_g l c * v_fq l c k = v_P l c k := by
  have h:v_g l c ∣ v_P l c k := v_fg_P l c hk
  unfold v_fq
  by_cases g:v_P l c k < 0
  · rw [decide_eq_true g,cond_true,show max (v_P l c k) (-v_P l c k) = -v_P l c k by omega,Int.mul_neg,Int.mul_ediv_cancel' ((Int.dvd_neg).2 h),Int.neg_neg]
  · rw [decide_eq_false g,cond_false,show max (v_P l c k) (-v_P l c k) = v_P l c k by omega,Int.mul_ediv_cancel' h]
theorem v_den_mul (l:List (Int×Int×Int×Int×Int)) (c:gF):v_g l c * (v_D l c / v_g l c) = v_D l c := Int.mul_ediv_cancel' (v_fg_dvd l c _)
theorem v_fpp_out {l:List (Int×Int×Int×Int×Int)} {c:List Int} {t:Nat}:∀ k,(∀ j,j < k→(c.getD j 0).toNat ≠ t)→v_fpp l c k t = 0
  | 0,_ => rfl
  | k + 1,h => by
    show v_up4 (v_fpp l c k) (c.getD k 0).toNat (v_fq l c k) t = 0
    unfold v_up4
    have:Nat.beq t (c.getD k 0).toNat = false := by
      cases q:Nat.beq t (c.getD k 0).toNat
      · rfl
      · exact absurd (Nat.eq_of_beq_eq_true q).symm (h k (by omega))
    rw [this,cond_false]
    exact v_fpp_out k fun j hj => h j (by omega)
theorem v_ca_lt {c:List Int} (hc:v_ca c) {i:Nat}:∀ d,i + d + 1 < c.length→c.getD i 0 < c.getD (i + d + 1) 0
  | 0,h => hc.asc i h
  | d + 1,h => by
    have := v_ca_lt hc (i := i) d (by omega)
    have := hc.asc (i + d + 1) h
    show c.getD i 0 < c.getD (i + d + 1 + 1) 0
    omega
theorem v_fpp_at {l:List (Int×Int×Int×Int×Int)} {c:List Int} (hc:v_ca c) {j:Nat}:∀ k,k≤c.length→j < k→v_fpp l c k (c.getD j 0).toNat = v_fq l c j
  | 0,_,h => absurd h (by omega)
  | k + 1,hk,h => by
    show v_up4 (v_fpp l c k) (c.getD k 0).toNat (v_fq l c k) (c.getD j 0).toNat = _
    rcases Nat.lt_or_ge j k with g | g
    · obtain ⟨d,rfl⟩ : ∃ d,k = j + d + 1 := ⟨k - j - 1,by omega⟩
      have a := v_ca_lt hc d (by omega) (i := j)
      have b := (hc.ok j (by omega)).1
      unfold v_up4
      have:Nat.beq (c.getD j 0).toNat (c.getD (j + d + 1) 0).toNat = false := by
        cases q:Nat.beq (c.getD j 0).toNat (c.getD (j + d + 1) 0).toNat
        · rfl
        · have := Nat.eq_of_beq_eq_true q
          omega
      rw [this,cond_false]
      exact v_fpp_at hc _ (by omega) g
    · obtain rfl:j = k := by omega
      exact v_up4_at _ _ _

theorem v_terr_ok {m:Int} (h:v_terr m = 0):v_ca (v_cho m 8) := v_cho_ca (v_terr_0.1 h).2
theorem v_fto_of {l:List (Int×Int×Int×Int×Int)} {m:Int} (hs:v_smp l) (ht:v_terr m = 0):v_fto l m = v_fitx l (v_cho m 8) := by
  unfold v_fto
  rw [v_cs_iff.2 hs,ht]; rfl
theorem v_fitx_2 (l:List (Int×Int×Int×Int×Int)) (c:gF):((v_fitx l c).2 = 12∧v_D l c = 0) ∨ ((v_fitx l c).2 = 8∧v_D l c ≠ 0) ∨ ((v_fitx l c).2 = 0∧v_D l c ≠ 0∧v_sml l c c.length = true∧(v_fitx l c).1 = (v_D l c / v_g l c,v_p8 (v_fpp l c c.length))) := by
  unfold v_fitx
  rcases int0 (v_D l c) with ⟨h,_,e⟩ | ⟨h,_,e⟩
  · rw [e]; exact .inl ⟨rfl,h⟩
  · rw [e,cond_false]
    cases q:v_sml l c c.length
    · exact .inr (.inl ⟨rfl,h⟩)
    · exact .inr (.inr ⟨rfl,h,rfl,rfl⟩)
theorem v_sml_k {l:List (Int×Int×Int×Int×Int)} {c:List Int} {j:Nat}:∀ k,v_sml l c k = true→j < k→max (v_P l c j) (-v_P l c j) / v_g l c≤1000000000
  | 0,_,h => absurd h (by omega)
  | k + 1,h,hj => by
    have h' : cond (v_sml l c k) (decide (max (v_P l c k) (-v_P l c k) / v_g l c≤1000000000)) false = true := h
    cases q:v_sml l c k
    · rw [q] at h'; cases h'
    · rw [q,cond_true] at h'
      rcases Nat.lt_or_ge j k with g | g
      · exact v_sml_k k q g
      · obtain rfl:j = k := by omega
        exact of_decide_eq_true h'
/-- A fit that was found. -/
structure v_ft (l:List (Int×Int×Int×Int×Int)) (c:gF):Prop where
  s:v_smp l
  ca:v_ca c
  D:0 < v_D l c
  sm:v_sml l c c.length = true
theorem v_ft_of {l:List (Int×Int×Int×Int×Int)} {c:List Int} (hs:v_smp l) (hc:v_ca c) (h:(v_fitx l c).2 = 0):v_ft l c∧(v_fitx l c).1 = (v_D l c / v_g l c,v_p8 (v_fpp l c c.length)) := by
  have hD := v_D_in hs hc
  rcases v_fitx_2 l c with ⟨a,_⟩ | ⟨a,_⟩ | ⟨_,a,b,e⟩
  · rw [h] at a; cases a
  · rw [h] at a; cases a
  · exact ⟨⟨hs,hc,by omega,b⟩,e⟩
/-- The denominator of a fit,and its parts. -/
def v_E (l:List (Int×Int×Int×Int×Int)) (c:gF):Int := v_D l c / v_g l c
def v_Q (l:List (Int×Int×Int×Int×Int)) (c:gF) (t:Nat):Int := v_fpp l c c.length t
theorem v_ft_g {l:List (Int×Int×Int×Int×Int)} {c:List Int} (h:v_ft l c):0 < v_g l c∧v_g l c≤v_D l c := v_fg_pos h.D _
theorem v_ft_E {l:List (Int×Int×Int×Int×Int)} {c:List Int} (h:v_ft l c):1≤v_E l c∧v_E l c≤1000000000 := by
  have g := v_ft_g h
  exact ⟨(Int.le_ediv_iff_mul_le g.1).2 (by omega),v_sml_0 _ h.sm⟩
theorem v_fq_b {l:List (Int×Int×Int×Int×Int)} {c:List Int} (h:v_ft l c) {k:Nat} (hk:k < c.length) : -1000000000≤v_fq l c k∧v_fq l c k≤1000000000 := by
  have g := v_ft_g h
  have s := v_sml_k _ h.sm hk
  have n0:0≤max (v_P l c k) (-v_P l c k) / v_g l c := Int.ediv_nonneg (by omega) (by omega)
  unfold v_fq
  cases decide (v_P l c k < 0)
  · rw [cond_false]; omega
  · rw [cond_true]; omega
theorem v_Q_or {l:List (Int×Int×Int×Int×Int)} {c:List Int} (hc:v_ca c) (t:Nat):(∃ k,k < c.length∧(c.getD k 0).toNat = t∧v_Q l c t = v_fq l c k) ∨ ((∀ k,k < c.length→(c.getD k 0).toNat ≠ t)∧v_Q l c t = 0) := by
  by_cases h:∃ k,k < c.length∧(c.getD k 0).toNat = t
  · obtain ⟨k,hk,e⟩ := h
    refine .inl ⟨k,hk,e,?_⟩
    rw [← e]
    exact v_fpp_at hc _ (Nat.le_refl _) hk
  · have h' : ∀ k,k < c.length→(c.getD k 0).toNat ≠ t := fun k hk q => h ⟨k,hk,q⟩
    exact .inr ⟨h',v_fpp_out _ h'⟩
theorem v_Q_b {l:List (Int×Int×Int×Int×Int)} {c:List Int} (h:v_ft l c) (t:Nat) : -1000000000≤v_Q l c t∧v_Q l c t≤1000000000 := by
  rcases v_Q_or h.ca t with ⟨k,hk,_,e⟩ | ⟨_,e⟩
  · rw [e]; exact v_fq_b h hk
  · rw [e]; omega
theorem v_hs_mem {m:Int} {t:Nat} (ht:t < 8):v_hs m t = true ↔ ∃ k,k < (v_cho m 8).length∧((v_cho m 8).getD k 0).toNat = t := by
  constructor
  · intro h
    obtain ⟨k,hk,e⟩ := List.getElem_of_mem ((v_cho_mem (m := m) (x := (t:Int)) 8).2 ⟨t,ht,h,rfl⟩)
    refine ⟨k,hk,?_⟩
    rw [List.getD_eq_getElem?_getD,List.getElem?_eq_getElem hk,Option.getD_some,e]; rfl
  · rintro ⟨k,hk,e⟩
    obtain ⟨s,hs,h,q⟩ := (v_cho_mem 8).1 (getD_mem' 0 hk)
    rw [q] at e
    have:s = t := by omega
    rw [← this]; exact h
theorem v_ferr_of {f:Int×Int×Int×Int×Int×Int×Int×Int×Int} (h1:1≤f.1∧f.1≤1000000000) (h2:∀ x∈v_parts f,-1000000000≤x∧x≤1000000000):v_ferr f = 0 := by
  unfold v_ferr
  rw [tx_within.2 h1,cond_true,show (v_parts f).all v_prt = true from List.all_eq_true.2 fun x hx => tx_within.2 (h2 x hx)]; rfl
/-- The fit as numbers. -/
def v_FF (l:List (Int×Int×Int×Int×Int)) (c:gF):Int×Int×Int×Int×Int×Int×Int×Int×Int := (v_E l c,v_p8 (v_Q l c))
theorem v_FF_parts (l:List (Int×Int×Int×Int×Int)) (c:gF):v_parts (v_FF l c) = [v_Q l c 0,v_Q l c 1,v_Q l c 2,v_Q l c 3,v_Q l c 4,v_Q l c 5,v_Q l c 6,v_Q l c 7] := rfl
theorem v_FF_get (l:List (Int×Int×Int×Int×Int)) (c:gF) {t:Nat} (h:t < 8):(v_parts (v_FF l c)).getD t 0 = v_Q l c t := by
  rw [v_FF_parts]
  obtain rfl | rfl | rfl | rfl | rfl | rfl | rfl | rfl:t = 0 ∨ t = 1 ∨ t = 2 ∨ t = 3 ∨ t = 4 ∨ t = 5 ∨ t = 6 ∨ t = 7 := by omega
  all_goals rfl
theorem v_FF_err {l:List (Int×Int×Int×Int×Int)} {c:List Int} (h:v_ft l c):v_ferr (v_FF l c) = 0 := by
  refine v_ferr_of (v_ft_E h) ?_
  rw [v_FF_parts]
  simp only [fM]
  exact ⟨v_Q_b h 0,v_Q_b h 1,v_Q_b h 2,v_Q_b h 3,v_Q_b h 4,v_Q_b h 5,v_Q_b h 6,v_Q_b h 7,fun x hx => by cases hx⟩
theorem v_subs_sums (a:Int) (ps ts:gF) (m:Nat):∀ k,v_subs a ps ts m k = a - v_sums (fun t => ps.getD t 0 * ts.getD t 0) m k
  | 0 => by simp [v_subs,v_sums]
  | k + 1 => by
    unfold v_subs
    rw [v_subs_sums a ps ts m k,v_sums_last]; omega
theorem v_left_eq (l:List (Int×Int×Int×Int×Int)) (c:gF) (i:Nat) {m:Nat} (hm:m≤8):v_left l i m (v_FF l c) = v_E l c * (l.getD i (0,0,0,0,0)).2.2.2.2 - v_sums (fun t => v_Q l c t * v_tt l i t) m (8 - m) := by
  unfold v_left
  rw [v_subs_sums]
  congr 1
  exact v_sums_congr _ _ fun t _ h2 => by rw [v_FF_get l c (by omega)]; rfl
theorem v_mvh_fg {l:List (Int×Int×Int×Int×Int)} {m:Int} {u:Nat→Int} (hu:∀ t,v_hs m t = false→u t = 0) (hn:(v_cho m 8).length≤4):∀ k,k≤(v_cho m 8).length→v_fg (v_mv (fun i => v_sums (fun t => u t * v_tt l i t) 0 8) l) (v_cho m 8) k = v_fg l (v_cho m 8) k
  | 0,_ => v_mv_D _ l _
  | k + 1,hk => by
    rw [v_fg_step,v_fg_step,v_mvh_fg hu hn k (by omega),v_mv_P hu hn (by omega),v_gcd_add (v_fg_dvd l _ k)]
theorem v_mvh_E {l:List (Int×Int×Int×Int×Int)} {m:Int} {u:Nat→Int} (hu:∀ t,v_hs m t = false→u t = 0) (hn:(v_cho m 8).length≤4):v_E (v_mv (fun i => v_sums (fun t => u t * v_tt l i t) 0 8) l) (v_cho m 8) = v_E l (v_cho m 8) := by
  unfold v_E v_g
  rw [v_mvh_fg hu hn _ (Nat.le_refl _),v_mv_D]
theorem v_mvh_fq {l:List (Int×Int×Int×Int×Int)} {m:Int} {u:Nat→Int} (hu:∀ t,v_hs m t = false→u t = 0) (hn:(v_cho m 8).length≤4) (hg:0 < v_g l (v_cho m 8)) {k:Nat} (hk:k < (v_cho m 8).length):v_fq (v_mv (fun i => v_sums (fun t => u t * v_tt l i t) 0 8) l) (v_cho m 8) k = v_fq l (v_cho m 8) k + v_E l (v_cho m 8) * u ((v_cho m 8).getD k 0).toNat := by
  have h1 := v_fq_mul (l := v_mv (fun i => v_sums (fun t => u t * v_tt l i t) 0 8) l) hk
  have h2 := v_fq_mul (l := l) hk
  have h3 := v_den_mul l (v_cho m 8)
  have e:v_g (v_mv (fun i => v_sums (fun t => u t * v_tt l i t) 0 8) l) (v_cho m 8) = v_g l (v_cho m 8) := v_mvh_fg hu hn _ (Nat.le_refl _)
  rw [e,v_mv_P hu hn (by omega),← h2,← h3] at h1
  have hw:v_pd (v_cho m 8) (fun x => u x.toNat) k = u ((v_cho m 8).getD k 0).toNat := by unfold v_pd; rw [if_pos hk]
  rw [hw] at h1
  refine Int.eq_of_mul_eq_mul_left (show v_g l (v_cho m 8) ≠ 0 by omega) ?_
  rw [h1]
  unfold v_E
  grind
theorem v_mvh_Q {l:List (Int×Int×Int×Int×Int)} {m:Int} {u:Nat→Int} (hu:∀ t,v_hs m t = false→u t = 0) (hc:v_ca (v_cho m 8)) (hg:0 < v_g l (v_cho m 8)) {t:Nat} (ht:t < 8):v_Q (v_mv (fun i => v_sums (fun t => u t * v_tt l i t) 0 8) l) (v_cho m 8) t = v_Q l (v_cho m 8) t + v_E l (v_cho m 8) * u t := by
  rcases v_Q_or (l := l) hc t with ⟨k,hk,e1,e2⟩ | ⟨h,e2⟩
  · have a:v_Q (v_mv (fun i => v_sums (fun t => u t * v_tt l i t) 0 8) l) (v_cho m 8) t = v_fq (v_mv (fun i => v_sums (fun t => u t * v_tt l i t) 0 8) l) (v_cho m 8) k := by
      rw [← e1]; exact v_fpp_at hc _ (Nat.le_refl _) hk
    rw [a,e2,v_mvh_fq hu hc.len hg hk,e1]
  · have a:v_Q (v_mv (fun i => v_sums (fun t => u t * v_tt l i t) 0 8) l) (v_cho m 8) t = 0 := v_fpp_out _ h
    have:v_hs m t = false := by
      cases q:v_hs m t
      · rfl
      · obtain ⟨k,hk,e⟩ := (v_hs_mem ht).1 q
        exact absurd e (h k hk)
    rw [a,e2,hu t this,Int.mul_zero]; rfl
theorem v_mvh_left {l:List (Int×Int×Int×Int×Int)} {m:Int} {u:Nat→Int} (hu:∀ t,v_hs m t = false→u t = 0) (hc:v_ca (v_cho m 8)) (hg:0 < v_g l (v_cho m 8)) {i:Nat} (hi:i < l.length) {s:Nat} (hs:s≤8):v_left (v_mv (fun i => v_sums (fun t => u t * v_tt l i t) 0 8) l) i s (v_FF (v_mv (fun i => v_sums (fun t => u t * v_tt l i t) 0 8) l) (v_cho m 8)) = v_left l i s (v_FF l (v_cho m 8)) + v_E l (v_cho m 8) * v_sums (fun t => u t * v_tt l i t) 0 s := by
  rw [v_left_eq _ _ _ hs,v_left_eq _ _ _ hs,v_mvh_E hu hc.len,v_mv_get hi]
  have e:v_sums (fun t => v_Q (v_mv (fun i => v_sums (fun t => u t * v_tt l i t) 0 8) l) (v_cho m 8) t * v_tt (v_mv (fun i => v_sums (fun t => u t * v_tt l i t) 0 8) l) i t) s (8 - s) = v_sums (fun t => v_Q l (v_cho m 8) t * v_tt l i t) s (8 - s) + v_E l (v_cho m 8) * v_sums (fun t => u t * v_tt l i t) s (8 - s) := by
    rw [← v_sums_mul,← v_sums_add]
    refine v_sums_congr _ _ fun t _ h2 => ?_
    rw [v_mvh_Q hu hc hg (by omega)]
    unfold v_tt
    rw [v_mv_tms hi]
    grind
  have e2:v_sums (fun t => u t * v_tt l i t) 0 8 = v_sums (fun t => u t * v_tt l i t) 0 s + v_sums (fun t => u t * v_tt l i t) s (8 - s) := by
    rw [show v_sums (fun t => u t * v_tt l i t) 0 8 = v_sums (fun t => u t * v_tt l i t) 0 (s + (8 - s)) by rw [show s + (8 - s) = 8 by omega],v_sums_app,Nat.zero_add]
  rw [e]
  simp only
  rw [e2]
  grind
theorem v_tt_0 (l:List (Int×Int×Int×Int×Int)) (i:Nat):v_tt l i 0 = 1 := rfl
theorem v_ceil_add {a b:Int} (c:Int) (hb:b ≠ 0):v_ceil (a + b * c) b = v_ceil a b + c := by
  unfold v_ceil
  rw [show -(a + b * c) = -a + b * (-c) by grind,Int.add_mul_ediv_left _ _ hb]
  omega
theorem v_ceil_ge {a b:Int} (hb:0 < b):a / b≤v_ceil a b∧a≤b * v_ceil a b∧b * v_ceil a b < a + b := by
  unfold v_ceil
  have h1 := Int.mul_ediv_add_emod a b
  have h2 := Int.emod_nonneg a (show b ≠ 0 by omega)
  have h3 := Int.mul_ediv_add_emod (-a) b
  have h4 := Int.emod_nonneg (-a) (show b ≠ 0 by omega)
  have h5 := Int.emod_lt_of_pos (-a) hb
  have e:b * -(-a / b) = -(b * (-a / b)) := Int.mul_neg _ _
  refine ⟨?_,by omega,by omega⟩
  refine Int.le_of_mul_le_mul_left (a := b) ?_ hb
  omega
theorem v_two_floors {a c b:Int} (hb:0 < b):a / b + c / b≤(a + c) / b∧v_ceil (a + c) b≤v_ceil a b + v_ceil c b := by
  have key:∀ a c:Int,a / b + c / b≤(a + c) / b := fun a c => by
    refine (Int.le_ediv_iff_mul_le hb).2 ?_
    have h1 := Int.ediv_mul_le a (show b ≠ 0 by omega)
    have h2 := Int.ediv_mul_le c (show b ≠ 0 by omega)
    rw [Int.add_mul]; omega
  refine ⟨key a c,?_⟩
  unfold v_ceil
  have := key (-a) (-c)
  rw [show -(a + c) = -a + -c by omega]
  omega

theorem v_and1 (x:Int):v_and .i64 x 1 = 0 ∨ v_and .i64 x 1 = 1 := by
  show IntKind.i64.wrap (((BitVec.ofInt 64 x &&& BitVec.ofInt 64 1).toNat:Nat):Int) = 0 ∨ IntKind.i64.wrap (((BitVec.ofInt 64 x &&& BitVec.ofInt 64 1).toNat:Nat):Int) = 1
  have e:(BitVec.ofInt 64 1).toNat = 1 := by decide
  rw [BitVec.toNat_and,e,Nat.and_one_is_mod]
  rcases Nat.mod_two_eq_zero_or_one (BitVec.ofInt 64 x).toNat with h | h <;> rw [h]
  · exact .inl rfl
  · exact .inr rfl
theorem v_hs_0 (m:Int) (t:Nat):(v_and .i64 (v_shr .i64 m (t:Int)) 1 == 0) = !(v_hs m t) := by
  unfold v_hs
  rcases v_and1 (v_shr .i64 m (t:Int)) with h | h <;> rw [h] <;> rfl
/-- What is added of a term. -/
def v_uu (m:Int) (P:gF) (t:Nat):Int := cond (v_hs m t) (cond (s_Z3 (P.getD t 0) (-20) 20) (P.getD t 0) 0) 0
theorem v_uu_0 {m:Int} {P:List Int} (t:Nat) (h:v_hs m t = false):v_uu m P t = 0 := by unfold v_uu; rw [h]; rfl
theorem v_uu_b (m:Int) (P:gF) (t:Nat) : -20≤v_uu m P t∧v_uu m P t≤20 := by
  unfold v_uu
  cases v_hs m t
  · show -20≤(0:Int)∧(0:Int)≤20; omega
  · cases h:s_Z3 (P.getD t 0) (-20) 20
    · show -20≤(0:Int)∧(0:Int)≤20; omega
    · exact tx_within.1 h
def v_GG (l:List (Int×Int×Int×Int×Int)) (u:Nat→Int) (t i:Nat):Int := v_sums (fun s => u s * v_tt l i s) 0 t
theorem v_GG_b {l:List (Int×Int×Int×Int×Int)} {u:Nat→Int} (hs:v_smp l) (hu:∀ t,-20≤u t∧u t≤20) {t i:Nat} (ht:t≤8) (hi:i < l.length) : -16000≤v_GG l u t i∧v_GG l u t i≤16000 := by
  have : -((t:Int) * 2000)≤v_GG l u t i∧v_GG l u t i≤(t:Int) * 2000 := v_sums_in t 0 fun k _ hk => by
    have a := hu k
    have b:((v_tml (v_tms l i)).getD k 0).natAbs≤100 := v_tml_le hs hi (by omega)
    have := mul_abs (x := u k) (y := v_tt l i k) (a := 20) (b := 100) a.1 a.2 (by unfold v_tt; omega) (by unfold v_tt; omega)
    omega
  omega
theorem v_mv_0 {g:Nat→Int} {l:List (Int×Int×Int×Int×Int)} (h:∀ i,i < l.length→g i = 0):v_mv g l = l := by
  refine gd_ext (0,0,0,0,0) (v_mv_len g l) fun k hk => ?_
  rw [v_mv_len] at hk
  rw [v_mv_get hk,h k hk,Int.add_zero]
theorem v_mv_congr {g g' : Nat→Int} {l:List (Int×Int×Int×Int×Int)} (h:∀ i,i < l.length→g i = g' i):v_mv g l = v_mv g' l := by
  refine gd_ext (0,0,0,0,0) (by rw [v_mv_len,v_mv_len]) fun k hk => ?_
  rw [v_mv_len] at hk
  rw [v_mv_get hk,v_mv_get hk,h k hk]
theorem v_mv_set {g:Nat→Int} {l:List (Int×Int×Int×Int×Int)} {j:Nat} (hj:j < l.length) (x:Int):(v_mv g l).set j ((l.getD j (0,0,0,0,0)).1,(l.getD j (0,0,0,0,0)).2.1,(l.getD j (0,0,0,0,0)).2.2.1,(l.getD j (0,0,0,0,0)).2.2.2.1,(l.getD j (0,0,0,0,0)).2.2.2.2 + x) = v_mv (fun i => if i = j then x else g i) l := by
  refine gd_ext (0,0,0,0,0) (by rw [List.length_set,v_mv_len,v_mv_len]) fun k hk => ?_
  rw [List.length_set,v_mv_len] at hk
  rw [gd_set (by rw [v_mv_len]; exact hj),v_mv_get hk]
  by_cases h:k = j
  · rw [if_pos h,v_mv_get hk,if_pos h,h]
  · rw [if_neg h,v_mv_get hk,if_neg h]
abbrev T8v:Type := Int×Int×Int×Int×Int×Int×Int×Int
def v_l8 (p:T8v):List Int := (p.1 :: (p.2.1 :: (p.2.2.1 :: (p.2.2.2.1 :: (p.2.2.2.2.1 :: (p.2.2.2.2.2.1 :: (p.2.2.2.2.2.2.1 :: (p.2.2.2.2.2.2.2 :: ([]:List Int)))))))))
/-- One round of a term. -/
theorem inv_round {p0:List (Int×Int×Int×Int×Int)} {u:Nat→Int} (hs:v_smp p0) (hu:∀ t,-20≤u t∧u t≤20) {t j:Nat} (ht:t < 8) (hj:j < p0.length) (g:Nat→Int) (hg:g = fun i => if i < j then v_GG p0 u (t + 1) i else v_GG p0 u t i) :
    (v_mv g p0).set j (((v_mv g p0).getD j (0,0,0,0,0)).1,((v_mv g p0).getD j (0,0,0,0,0)).2.1,((v_mv g p0).getD j (0,0,0,0,0)).2.2.1,((v_mv g p0).getD j (0,0,0,0,0)).2.2.2.1,IntKind.i64.wrap (((v_mv g p0).getD j (0,0,0,0,0)).2.2.2.2 + IntKind.i64.wrap (u t * v_tt p0 j t))) = v_mv (fun i => if i < j + 1 then v_GG p0 u (t + 1) i else v_GG p0 u t i) p0 := by
  have a := hu t
  have b:((v_tml (v_tms p0 j)).getD t 0).natAbs≤100 := v_tml_le hs hj (by omega)
  have mm := mul_abs (x := u t) (y := v_tt p0 j t) (a := 20) (b := 100) a.1 a.2 (by unfold v_tt; omega) (by unfold v_tt; omega)
  have c := v_GG_b hs hu (show t≤8 by omega) hj
  have d := (hs.ok _ (getD_mem' (0,0,0,0,0) hj)).v
  have e:g j = v_GG p0 u t j := by rw [hg]; exact if_neg (Nat.lt_irrefl j)
  have f:v_GG p0 u (t + 1) j = v_GG p0 u t j + u t * v_tt p0 j t := by
    unfold v_GG
    rw [v_sums_last,Nat.zero_add]
  rw [v_mv_get hj,e]
  simp only
  rw [wrap_id (n := u t * v_tt p0 j t) (by omega) (by omega),wrap_id (n := (p0.getD j (0,0,0,0,0)).2.2.2.2 + v_GG p0 u t j + u t * v_tt p0 j t) (by omega) (by omega),show (p0.getD j (0,0,0,0,0)).2.2.2.2 + v_GG p0 u t j + u t * v_tt p0 j t = (p0.getD j (0,0,0,0,0)).2.2.2.2 + v_GG p0 u (t + 1) j by omega,v_mv_set hj]
  congr 1
  funext i
  rw [hg]
  by_cases h:i = j
  · rw [if_pos h,if_pos (by omega),h]
  · rw [if_neg h]
    by_cases h2:i < j
    · rw [if_pos (by omega)]; exact if_pos h2
    · rw [if_neg (by omega)]; exact if_neg h2
theorem inv_l0 {p0:List (Int×Int×Int×Int×Int)} {p1:Int} {p2:T8v} (hs:v_smp p0) {t:Nat} (ht:t < 8) (hu:v_uu p1 (v_l8 p2) t = (v_l8 p2).getD t 0) (c:Int) (q:List (Int×Int×Int×Int×Int)) (d:(Int×Int×List (Int×Int×Int×Int×Int)) ⊕ Bool) :
    OkL (st_Z0_0 p0 p1 p2 ((t:Int),c,q)) (sp_Z0_0 p0 p1 p2 ((t:Int),c,q)) (0,v_mv (v_GG p0 (v_uu p1 (v_l8 p2)) t) p0) ∧
    lpv d (st_Z0_0 p0 p1 p2 ((t:Int),c,q)) (0,v_mv (v_GG p0 (v_uu p1 (v_l8 p2)) t) p0) = .inl (((t + 1:Nat):Int),v_uu p1 (v_l8 p2) t,v_mv (v_GG p0 (v_uu p1 (v_l8 p2)) (t + 1)) p0) := by
  have hl := hs.len
  have hwt:IntKind.i64.wrap ((t:Int) + 1) = ((t + 1:Nat):Int) := wrap_id (by omega) (by omega)
  refine @for_is (List (Int×Int×Int×Int×Int)) (Int×List (Int×Int×Int×Int×Int)) ((Int×Int×List (Int×Int×Int×Int×Int)) ⊕ Bool) d (st_Z0_0 p0 p1 p2 ((t:Int),c,q)) (sp_Z0_0 p0 p1 p2 ((t:Int),c,q)) (fun i t => (i,t)) 0 p0.length (fun j s => s = v_mv (fun i => if i < j then v_GG p0 (v_uu p1 (v_l8 p2)) (t + 1) i else v_GG p0 (v_uu p1 (v_l8 p2)) t i) p0) (fun _ _ => .inl (((t + 1:Nat):Int),v_uu p1 (v_l8 p2) t,v_mv (v_GG p0 (v_uu p1 (v_l8 p2)) (t + 1)) p0)) (Nat.zero_le _) (by omega) ?_ ?_ _ ?_
  · rintro s rfl
    refine ⟨?_,?_⟩
    · simp only [sp_Z0_0,fM,decide_eq_false (Int.lt_irrefl (p0.length:Int))]
      exact ⟨fun h => (by cases h),fun h => (by cases h),fun h => (by cases h),fun h => (by cases h),fun h => (by cases h),fun h => (by cases h),fun p hp => (by cases hp)⟩
    · unfold st_Z0_0
      rw [decide_eq_false (Int.lt_irrefl (p0.length:Int)),cond_false]
      simp only
      rw [hwt,Int.toNat_natCast,v_mv_congr (g' := v_GG p0 (v_uu p1 (v_l8 p2)) (t + 1)) (fun i hi => if_pos hi)]
      show Sum.inr (Sum.inl (_,(v_l8 p2).getD t 0,_)) = _
      rw [← hu]
  · rintro j s _ hj rfl
    have hw1:IntKind.i64.wrap ((j:Int) + 1) = ((j + 1:Nat):Int) := wrap_id (by omega) (by omega)
    have hd:decide ((j:Int) < (p0.length:Int)) = true := decide_eq_true (by omega)
    refine ⟨?_,.inl ⟨v_mv (fun i => if i < j + 1 then v_GG p0 (v_uu p1 (v_l8 p2)) (t + 1) i else v_GG p0 (v_uu p1 (v_l8 p2)) t i) p0,?_,rfl,rfl⟩⟩
    · simp only [sp_Z0_0,fM,v_mv_len]
      exact ⟨fun _ => (by omega),fun _ => (by omega),fun _ => (by omega),fun _ => (by omega),fun _ => hs,fun _ => (by omega),fun p hp => (by cases hp)⟩
    · unfold st_Z0_0
      rw [hd,cond_true]
      simp only
      rw [hw1,Int.toNat_natCast,Int.toNat_natCast]
      have r := inv_round hs (v_uu_b p1 (v_l8 p2)) ht hj _ rfl
      rw [hu] at r
      exact congrArg (fun z => Sum.inl (((j + 1:Nat):Int),z)) r
  · exact v_mv_congr fun i _ => (if_neg (by omega)).symm
theorem inv_l1 {p0:List (Int×Int×Int×Int×Int)} {p1:Int} {p2:T8v} (hs:v_smp p0) {t:Nat} (ht:t < 8) (hu:v_uu p1 (v_l8 p2) t = (v_l8 p2).getD t 0) (c:Int) (q:List (Int×Int×Int×Int×Int)) (d:(Int×Int×List (Int×Int×Int×Int×Int)) ⊕ Bool) :
    OkL (st_Z0_1 p0 p1 p2 ((t:Int),c,q)) (sp_Z0_1 p0 p1 p2 ((t:Int),c,q)) (0,v_mv (v_GG p0 (v_uu p1 (v_l8 p2)) t) p0) ∧
    lpv d (st_Z0_1 p0 p1 p2 ((t:Int),c,q)) (0,v_mv (v_GG p0 (v_uu p1 (v_l8 p2)) t) p0) = .inl (((t + 1:Nat):Int),c,v_mv (v_GG p0 (v_uu p1 (v_l8 p2)) (t + 1)) p0) := by
  have hl := hs.len
  have hwt:IntKind.i64.wrap ((t:Int) + 1) = ((t + 1:Nat):Int) := wrap_id (by omega) (by omega)
  refine @for_is (List (Int×Int×Int×Int×Int)) (Int×List (Int×Int×Int×Int×Int)) ((Int×Int×List (Int×Int×Int×Int×Int)) ⊕ Bool) d (st_Z0_1 p0 p1 p2 ((t:Int),c,q)) (sp_Z0_1 p0 p1 p2 ((t:Int),c,q)) (fun i t => (i,t)) 0 p0.length (fun j s => s = v_mv (fun i => if i < j then v_GG p0 (v_uu p1 (v_l8 p2)) (t + 1) i else v_GG p0 (v_uu p1 (v_l8 p2)) t i) p0) (fun _ _ => .inl (((t + 1:Nat):Int),c,v_mv (v_GG p0 (v_uu p1 (v_l8 p2)) (t + 1)) p0)) (Nat.zero_le _) (by omega) ?_ ?_ _ ?_
  · rintro s rfl
    refine ⟨?_,?_⟩
    · simp only [sp_Z0_1,fM,decide_eq_false (Int.lt_irrefl (p0.length:Int))]
      exact ⟨fun h => (by cases h),fun h => (by cases h),fun h => (by cases h),fun h => (by cases h),fun h => (by cases h),fun h => (by cases h),fun p hp => (by cases hp)⟩
    · unfold st_Z0_1
      rw [decide_eq_false (Int.lt_irrefl (p0.length:Int)),cond_false]
      simp only
      rw [hwt,v_mv_congr (g' := v_GG p0 (v_uu p1 (v_l8 p2)) (t + 1)) (fun i hi => if_pos hi)]
  · rintro j s _ hj rfl
    have hw1:IntKind.i64.wrap ((j:Int) + 1) = ((j + 1:Nat):Int) := wrap_id (by omega) (by omega)
    have hd:decide ((j:Int) < (p0.length:Int)) = true := decide_eq_true (by omega)
    refine ⟨?_,.inl ⟨v_mv (fun i => if i < j + 1 then v_GG p0 (v_uu p1 (v_l8 p2)) (t + 1) i else v_GG p0 (v_uu p1 (v_l8 p2)) t i) p0,?_,rfl,rfl⟩⟩
    · simp only [sp_Z0_1,fM,v_mv_len]
      exact ⟨fun _ => (by omega),fun _ => (by omega),fun _ => (by omega),fun _ => (by omega),fun _ => hs,fun _ => (by omega),fun p hp => (by cases hp)⟩
    · unfold st_Z0_1
      rw [hd,cond_true]
      simp only
      rw [hw1,Int.toNat_natCast,Int.toNat_natCast]
      have r := inv_round hs (v_uu_b p1 (v_l8 p2)) ht hj _ rfl
      rw [hu] at r
      exact congrArg (fun z => Sum.inl (((j + 1:Nat):Int),z)) r
  · exact v_mv_congr fun i _ => (if_neg (by omega)).symm
/-- What is looked at of a sample. -/
structure v_ivf (a c d:gG) (k q E:Int):Prop where
  c1:s_Z3 c.1 (-1125899906842624) 1125899906842624 = true
  c2:s_Z3 c.2 c.1 1125899906842624 = true
  d1:d.1 = IntKind.i64.wrap (c.1 + k)
  d2:d.2 = IntKind.i64.wrap (c.2 + k)
  a1:s_Z3 a.1 (-1125899906842624) 1125899906842624 = true
  a2:s_Z3 a.2 a.1 1125899906842624 = true
  l1:decide (c.1 < IntKind.i64.wrap (a.1 + q / E)) = false
  l2:decide (c.2 > IntKind.i64.wrap (a.2 + v_ceil q E)) = false
theorem v_div_in {a b:Int} {n:Nat} (hb:1≤b) (h:a.natAbs≤n) : -(n:Int)≤a / b∧a / b≤n∧-(n:Int)≤v_ceil a b∧v_ceil a b≤n∧a / b≤v_ceil a b := by
  have h1:(a / b).natAbs≤a.natAbs := Int.natAbs_ediv_le_natAbs _ _
  have h2:(-a / b).natAbs≤(-a).natAbs := Int.natAbs_ediv_le_natAbs _ _
  have h3 := (v_ceil_ge (a := a) (show 0 < b by omega)).1
  refine ⟨by omega,by omega,?_,?_,h3⟩
  · unfold v_ceil; omega
  · unfold v_ceil; omega
theorem inv_fact {l:List (Int×Int×Int×Int×Int)} {m:Int} {u:Nat→Int} (hu:∀ t,v_hs m t = false→u t = 0) (hb:∀ t,-20≤u t∧u t≤20) (ha:v_ft l (v_cho m 8)) (_hm:v_ft (v_mv (v_GG l u 8) l) (v_cho m 8)) {j:Nat} (hj:j < l.length) :
    v_ivf (v_rnd l (v_FF l (v_cho m 8)) 0 j) (v_rnd l (v_FF l (v_cho m 8)) 1 j) (v_rnd (v_mv (v_GG l u 8) l) (v_FF (v_mv (v_GG l u 8) l) (v_cho m 8)) 1 j) (u 0) (v_Q l (v_cho m 8) 0) (v_E l (v_cho m 8)) ∧
    v_rnd (v_mv (v_GG l u 8) l) (v_FF (v_mv (v_GG l u 8) l) (v_cho m 8)) 0 j = v_rnd l (v_FF l (v_cho m 8)) 0 j := by
  have hE := v_ft_E ha
  have hg := (v_ft_g ha).1
  have ok := v_ferr_ok (v_FF_err ha)
  have b0 := v_left_le ha.s hj ok (m := 0) (by omega)
  have b1 := v_left_le ha.s hj ok (m := 1) (by omega)
  have e0 := v_mvh_left hu ha.ca hg hj (s := 0) (by omega)
  have e1 := v_mvh_left hu ha.ca hg hj (s := 1) (by omega)
  have eE:v_E (v_mv (v_GG l u 8) l) (v_cho m 8) = v_E l (v_cho m 8) := v_mvh_E hu ha.ca.len
  have s1:v_sums (fun t => u t * v_tt l j t) 0 1 = u 0 := by
    show u 0 * v_tt l j 0 + 0 = u 0
    rw [v_tt_0]; omega
  rw [s1] at e1
  have r1:v_left l j 1 (v_FF l (v_cho m 8)) = v_left l j 0 (v_FF l (v_cho m 8)) + v_Q l (v_cho m 8) 0 := by
    rw [v_left_eq _ _ _ (by omega),v_left_eq _ _ _ (by omega)]
    have:v_sums (fun t => v_Q l (v_cho m 8) t * v_tt l j t) 0 (8 - 0) = v_Q l (v_cho m 8) 0 * v_tt l j 0 + v_sums (fun t => v_Q l (v_cho m 8) t * v_tt l j t) 1 (8 - 1) := rfl
    rw [this,v_tt_0]; omega
  have hk := hb 0
  have d0 := v_div_in hE.1 b0
  have d1 := v_div_in hE.1 b1
  have qb := v_Q_b ha 0
  have dq := v_div_in (a := v_Q l (v_cho m 8) 0) (n := 1000000000) hE.1 (by omega)
  have tf := v_two_floors (a := v_left l j 0 (v_FF l (v_cho m 8))) (c := v_Q l (v_cho m 8) 0) (show 0 < v_E l (v_cho m 8) by omega)
  rw [← r1] at tf
  have f1:(v_left l j 1 (v_FF l (v_cho m 8)) + v_E l (v_cho m 8) * u 0) / v_E l (v_cho m 8) = v_left l j 1 (v_FF l (v_cho m 8)) / v_E l (v_cho m 8) + u 0 := Int.add_mul_ediv_left _ _ (by omega)
  have f2 := v_ceil_add (a := v_left l j 1 (v_FF l (v_cho m 8))) (b := v_E l (v_cho m 8)) (u 0) (by omega)
  have g1:v_rnd (v_mv (v_GG l u 8) l) (v_FF (v_mv (v_GG l u 8) l) (v_cho m 8)) 1 j = (v_left l j 1 (v_FF l (v_cho m 8)) / v_E l (v_cho m 8) + u 0,v_ceil (v_left l j 1 (v_FF l (v_cho m 8))) (v_E l (v_cho m 8)) + u 0) := by
    rw [← f1,← f2,← e1]
    show (_ / v_E (v_mv (v_GG l u 8) l) (v_cho m 8),v_ceil _ (v_E (v_mv (v_GG l u 8) l) (v_cho m 8))) = _
    rw [eE]; rfl
  refine ⟨⟨tx_within.2 ?_,tx_within.2 ?_,?_,?_,tx_within.2 ?_,tx_within.2 ?_,decide_eq_false ?_,decide_eq_false ?_⟩,?_⟩
  · show _≤v_left l j 1 (v_FF l (v_cho m 8)) / v_E l (v_cho m 8)∧v_left l j 1 (v_FF l (v_cho m 8)) / v_E l (v_cho m 8)≤_
    omega
  · show v_left l j 1 (v_FF l (v_cho m 8)) / v_E l (v_cho m 8)≤v_ceil (v_left l j 1 (v_FF l (v_cho m 8))) (v_E l (v_cho m 8))∧v_ceil (v_left l j 1 (v_FF l (v_cho m 8))) (v_E l (v_cho m 8))≤_
    omega
  · rw [g1]
    show _ = IntKind.i64.wrap (v_left l j 1 (v_FF l (v_cho m 8)) / v_E l (v_cho m 8) + u 0)
    rw [wrap_id (by omega) (by omega)]
  · rw [g1]
    show _ = IntKind.i64.wrap (v_ceil (v_left l j 1 (v_FF l (v_cho m 8))) (v_E l (v_cho m 8)) + u 0)
    rw [wrap_id (by omega) (by omega)]
  · show _≤v_left l j 0 (v_FF l (v_cho m 8)) / v_E l (v_cho m 8)∧v_left l j 0 (v_FF l (v_cho m 8)) / v_E l (v_cho m 8)≤_
    omega
  · show v_left l j 0 (v_FF l (v_cho m 8)) / v_E l (v_cho m 8)≤v_ceil (v_left l j 0 (v_FF l (v_cho m 8))) (v_E l (v_cho m 8))∧v_ceil (v_left l j 0 (v_FF l (v_cho m 8))) (v_E l (v_cho m 8))≤_
    omega
  · show ¬ v_left l j 1 (v_FF l (v_cho m 8)) / v_E l (v_cho m 8) < IntKind.i64.wrap (v_left l j 0 (v_FF l (v_cho m 8)) / v_E l (v_cho m 8) + v_Q l (v_cho m 8) 0 / v_E l (v_cho m 8))
    rw [wrap_id (by omega) (by omega)]; omega
  · show ¬ v_ceil (v_left l j 1 (v_FF l (v_cho m 8))) (v_E l (v_cho m 8)) > IntKind.i64.wrap (v_ceil (v_left l j 0 (v_FF l (v_cho m 8))) (v_E l (v_cho m 8)) + v_ceil (v_Q l (v_cho m 8) 0) (v_E l (v_cho m 8)))
    rw [wrap_id (by omega) (by omega)]; omega
  · rw [show v_sums (fun t => u t * v_tt l j t) 0 0 = 0 from rfl,Int.mul_zero,Int.add_zero] at e0
    show (_ / v_E (v_mv (v_GG l u 8) l) (v_cho m 8),v_ceil _ (v_E (v_mv (v_GG l u 8) l) (v_cho m 8))) = _
    rw [eE]
    exact Prod.ext (congrArg (fun z => z / v_E l (v_cho m 8)) e0) (congrArg (fun z => v_ceil z (v_E l (v_cho m 8))) e0)
theorem v_rmx_ok {l:List (Int×Int×Int×Int×Int)} {f:Int×Int×Int×Int×Int×Int×Int×Int×Int} (hs:v_smp l) (hf:v_ferr f = 0) (m:Int):v_rmx l f m = (v_rem l m.toNat f,0) := by
  unfold v_rmx v_rerr
  rw [v_cs_iff.2 hs,hf]; rfl
theorem inv_l2 {p0:List (Int×Int×Int×Int×Int)} {p1:Int} {p2:T8v} (ha:v_ft p0 (v_cho p1 8)) (hm:v_ft (v_mv (v_GG p0 (v_uu p1 (v_l8 p2)) 8) p0) (v_cho p1 8)) (fa:(v_fto p0 p1).1 = v_FF p0 (v_cho p1 8)) (fb:(v_fto (v_mv (v_GG p0 (v_uu p1 (v_l8 p2)) 8) p0) p1).1 = v_FF (v_mv (v_GG p0 (v_uu p1 (v_l8 p2)) 8) p0) (v_cho p1 8)) (t:Int) (d:(Int×Int×List (Int×Int×Int×Int×Int)) ⊕ Bool) :
    OkL (st_Z0_2 p0 p1 p2 (t,v_uu p1 (v_l8 p2) 0,v_mv (v_GG p0 (v_uu p1 (v_l8 p2)) 8) p0)) (sp_Z0_2 p0 p1 p2 (t,v_uu p1 (v_l8 p2) 0,v_mv (v_GG p0 (v_uu p1 (v_l8 p2)) 8) p0)) 0 ∧
    lpv d (st_Z0_2 p0 p1 p2 (t,v_uu p1 (v_l8 p2) 0,v_mv (v_GG p0 (v_uu p1 (v_l8 p2)) 8) p0)) 0 = .inr true := by
  have hl := ha.s.len
  have ra := v_rmx_ok ha.s (v_FF_err ha)
  have rb := v_rmx_ok hm.s (v_FF_err hm)
  have hu:∀ t,v_hs p1 t = false→v_uu p1 (v_l8 p2) t = 0 := v_uu_0
  have hb := v_uu_b p1 (v_l8 p2)
  generalize hU:v_uu p1 (v_l8 p2) = u at *
  generalize hM:v_mv (v_GG p0 u 8) p0 = l' at *
  have hlm:l'.length = p0.length := by rw [← hM,v_mv_len]
  refine @for_is PUnit Int ((Int×Int×List (Int×Int×Int×Int×Int)) ⊕ Bool) d (st_Z0_2 p0 p1 p2 (t,u 0,l')) (sp_Z0_2 p0 p1 p2 (t,u 0,l')) (fun i _ => i) 0 p0.length (fun _ _ => True) (fun _ _ => .inr true) (Nat.zero_le _) (by omega) ?_ ?_ ⟨⟩ trivial
  · rintro s _
    refine ⟨?_,?_⟩
    · simp only [sp_Z0_2,fM,decide_eq_false (Int.lt_irrefl (p0.length:Int))]
      repeat' refine And.intro ?_ ?_
      all_goals first
        | (intro h; cases h; done)
        | (intro p hp; cases hp; done)
    · unfold st_Z0_2
      rw [decide_eq_false (Int.lt_irrefl (p0.length:Int)),cond_false]
  · rintro j s _ hj _
    have hw1:IntKind.i64.wrap ((j:Int) + 1) = ((j + 1:Nat):Int) := wrap_id (by omega) (by omega)
    have hd:decide ((j:Int) < (p0.length:Int)) = true := decide_eq_true (by omega)
    have fact := (inv_fact hu hb ha (by rw [hM]; exact hm) hj).1
    rw [hM] at fact
    have ec:(v_rmx ([] ++ p0) (v_fto ([] ++ p0) p1).1 1).1.getD (j:Int).toNat (0,0) = v_rnd p0 (v_FF p0 (v_cho p1 8)) 1 j := by
      rw [List.nil_append,fa,ra]; exact v_rem_get hj
    have ea:(v_rmx ([] ++ p0) (v_fto ([] ++ p0) p1).1 0).1.getD (j:Int).toNat (0,0) = v_rnd p0 (v_FF p0 (v_cho p1 8)) 0 j := by
      rw [List.nil_append,fa,ra]; exact v_rem_get hj
    have ed:(v_rmx ([] ++ l') (v_fto ([] ++ l') p1).1 1).1.getD (j:Int).toNat (0,0) = v_rnd l' (v_FF l' (v_cho p1 8)) 1 j := by
      rw [List.nil_append,fb,rb]; exact v_rem_get (by omega)
    have lc:(((v_rmx ([] ++ p0) (v_fto ([] ++ p0) p1).1 1).1.length:Nat):Int) = p0.length := by
      rw [List.nil_append,fa,ra]; exact congrArg _ (v_rem_len _ _ _)
    have la:(((v_rmx ([] ++ p0) (v_fto ([] ++ p0) p1).1 0).1.length:Nat):Int) = p0.length := by
      rw [List.nil_append,fa,ra]; exact congrArg _ (v_rem_len _ _ _)
    have ld:(((v_rmx ([] ++ l') (v_fto ([] ++ l') p1).1 1).1.length:Nat):Int) = p0.length := by
      rw [List.nil_append,fb,rb]; exact (congrArg _ (v_rem_len _ _ _)).trans (by omega)
    have q1:(v_fto ([] ++ p0) p1).1.1 = v_E p0 (v_cho p1 8) := by rw [List.nil_append,fa]; rfl
    have q2:(v_fto ([] ++ p0) p1).1.2.1 = v_Q p0 (v_cho p1 8) 0 := by rw [List.nil_append,fa]; rfl
    have hE := v_ft_E ha
    have hQ := v_Q_b ha 0
    have n1:(v_rmx ([] ++ l') (v_fto ([] ++ l') p1).1 1).1.getD (j:Int).toNat (0,0) = (IntKind.i64.wrap ((v_rnd p0 (v_FF p0 (v_cho p1 8)) 1 j).1 + u 0),IntKind.i64.wrap ((v_rnd p0 (v_FF p0 (v_cho p1 8)) 1 j).2 + u 0)) := by
      rw [ed]; exact Prod.ext fact.d1 fact.d2
    refine ⟨?_,.inl ⟨⟨⟩,?_,trivial,rfl⟩⟩
    · simp only [sp_Z0_2,fM]
      rw [lc,la,ld,q1,q2]
      repeat' refine And.intro ?_ ?_
      all_goals first
        | (intro p hp; cases hp; done)
        | (intros; omega)
        | (intros; unfold v_fit; omega)
    · unfold st_Z0_2
      rw [hd,cond_true]
      simp only
      rw [ec,ea,n1,q1,q2,fact.c1,fact.c2,fact.a1,fact.a2,fact.l1,fact.l2,hw1]
      simp
theorem v_fitx_c (l:List (Int×Int×Int×Int×Int)) (c:gF):((v_fitx l c).2 = 12∧v_D l c = 0) ∨ (v_D l c ≠ 0∧((v_fitx l c).2 = 8 ∨ (v_fitx l c).2 = 0)) := by
  rcases v_fitx_2 l c with h | ⟨h,g⟩ | ⟨h,g,_⟩
  · exact .inl h
  · exact .inr ⟨g,.inl h⟩
  · exact .inr ⟨g,.inr h⟩
theorem inv_codes {a b x y:Int} (h1:(a = 12∧x = 0) ∨ (x ≠ 0∧(a = 8 ∨ a = 0))) (h2:(b = 12∧y = 0) ∨ (y ≠ 0∧(b = 8 ∨ b = 0))) (e:y = x):cond (cond ((a == 12) == (b == 12)) (cond (cond (a == 0) true (a == 12)) true (a == 8)) false) (cond (cond (b == 0) true (b == 12)) true (b == 8)) false = true := by
  subst e
  rcases h1 with ⟨rfl,z⟩ | ⟨z,rfl | rfl⟩ <;> rcases h2 with ⟨rfl,w⟩ | ⟨w,rfl | rfl⟩ <;> first | rfl | exact absurd z w | exact absurd w z
theorem inv_l3 {p0:List (Int×Int×Int×Int×Int)} {p1:Int} {p2:T8v} (hs:v_smp p0) (ht:v_terr p1 = 0) :
    OkL (st_Z0_3 p0 p1 p2) (sp_Z0_3 p0 p1 p2) (0,0,p0)∧lpv false (st_Z0_3 p0 p1 p2) (0,0,p0) = true := by
  have hl := hs.len
  have hc := v_terr_ok ht
  have hu0:∀ t,v_hs p1 t = false→v_uu p1 (v_l8 p2) t = 0 := v_uu_0
  have hb := v_uu_b p1 (v_l8 p2)
  refine @for_is (Int×List (Int×Int×Int×Int×Int)) (Int×Int×List (Int×Int×Int×Int×Int)) Bool false (st_Z0_3 p0 p1 p2) (sp_Z0_3 p0 p1 p2) (fun i s => (i,s)) 0 8 (fun t s => s = (if t = 0 then 0 else v_uu p1 (v_l8 p2) 0,v_mv (v_GG p0 (v_uu p1 (v_l8 p2)) t) p0)) (fun _ _ => true) (by omega) (by omega) ?_ ?_ (0,p0) ?_
  · rintro s rfl
    rw [if_neg (by omega)]
    have hmD := v_mv_D (v_GG p0 (v_uu p1 (v_l8 p2)) 8) p0 (v_cho p1 8)
    have hmF:v_smp (v_mv (v_GG p0 (v_uu p1 (v_l8 p2)) 8) p0)→v_fto (v_mv (v_GG p0 (v_uu p1 (v_l8 p2)) 8) p0) p1 = v_fitx (v_mv (v_GG p0 (v_uu p1 (v_l8 p2)) 8) p0) (v_cho p1 8) := fun h => v_fto_of h ht
    have hF := v_fto_of hs ht
    have hmlen := v_mv_len (v_GG p0 (v_uu p1 (v_l8 p2)) 8) p0
    have main:v_smp (v_mv (v_GG p0 (v_uu p1 (v_l8 p2)) 8) p0)→(v_fto p0 p1).2 = 0→(v_fto (v_mv (v_GG p0 (v_uu p1 (v_l8 p2)) 8) p0) p1).2 = 0→∃ A B,(v_fto p0 p1).1 = A∧(v_fto (v_mv (v_GG p0 (v_uu p1 (v_l8 p2)) 8) p0) p1).1 = B∧v_ferr A = 0∧v_ferr B = 0∧v_rmx p0 A 0 = (v_rem p0 0 A,0)∧v_rmx p0 A 1 = (v_rem p0 1 A,0)∧v_rmx (v_mv (v_GG p0 (v_uu p1 (v_l8 p2)) 8) p0) B 0 = (v_rem p0 0 A,0)∧v_rmx (v_mv (v_GG p0 (v_uu p1 (v_l8 p2)) 8) p0) B 1 = (v_rem (v_mv (v_GG p0 (v_uu p1 (v_l8 p2)) 8) p0) 1 B,0) ∧
        OkL (st_Z0_2 p0 p1 p2 (8,v_uu p1 (v_l8 p2) 0,v_mv (v_GG p0 (v_uu p1 (v_l8 p2)) 8) p0)) (sp_Z0_2 p0 p1 p2 (8,v_uu p1 (v_l8 p2) 0,v_mv (v_GG p0 (v_uu p1 (v_l8 p2)) 8) p0)) 0∧lpv (.inr false) (st_Z0_2 p0 p1 p2 (8,v_uu p1 (v_l8 p2) 0,v_mv (v_GG p0 (v_uu p1 (v_l8 p2)) 8) p0)) 0 = .inr true := by
      intro hm a0 b0
      rw [hF] at a0
      rw [hmF hm] at b0
      obtain ⟨ha,ea⟩ := v_ft_of hs hc a0
      obtain ⟨hb',eb⟩ := v_ft_of hm hc b0
      have l2 := @inv_l2 p0 p1 p2 ha hb' (by rw [hF]; exact ea) (by rw [hmF hm]; exact eb) 8 (.inr false)
      refine ⟨v_FF p0 (v_cho p1 8),v_FF (v_mv (v_GG p0 (v_uu p1 (v_l8 p2)) 8) p0) (v_cho p1 8),by rw [hF]; exact ea,by rw [hmF hm]; exact eb,v_FF_err ha,v_FF_err hb',v_rmx_ok hs (v_FF_err ha) 0,v_rmx_ok hs (v_FF_err ha) 1,?_,v_rmx_ok hm (v_FF_err hb') 1,l2.1,l2.2⟩
      rw [v_rmx_ok hm (v_FF_err hb') 0]
      refine Prod.ext ?_ rfl
      show v_rem _ 0 _ = v_rem _ 0 _
      refine gd_ext (0,0) (by rw [v_rem_len,v_rem_len,hmlen]) fun k hk => ?_
      rw [v_rem_len,hmlen] at hk
      rw [v_rem_get (by rw [hmlen]; exact hk),v_rem_get hk]
      exact (inv_fact hu0 hb ha hb' hk).2
    have cases3:(v_cs (v_mv (v_GG p0 (v_uu p1 (v_l8 p2)) 8) p0)).2 = 0→cond (cond (((v_fto p0 p1).2 == 12) == ((v_fto (v_mv (v_GG p0 (v_uu p1 (v_l8 p2)) 8) p0) p1).2 == 12)) (cond (cond ((v_fto p0 p1).2 == 0) true ((v_fto p0 p1).2 == 12)) true ((v_fto p0 p1).2 == 8)) false) (cond (cond ((v_fto (v_mv (v_GG p0 (v_uu p1 (v_l8 p2)) 8) p0) p1).2 == 0) true ((v_fto (v_mv (v_GG p0 (v_uu p1 (v_l8 p2)) 8) p0) p1).2 == 12)) true ((v_fto (v_mv (v_GG p0 (v_uu p1 (v_l8 p2)) 8) p0) p1).2 == 8)) false = true := by
      intro h
      rw [hF,hmF (v_cs_iff.1 h)]
      exact inv_codes (v_fitx_c _ _) (v_fitx_c _ _) hmD
    generalize v_mv (v_GG p0 (v_uu p1 (v_l8 p2)) 8) p0 = l' at *
    refine ⟨?_,?_⟩
    · simp only [sp_Z0_3,fM,List.nil_append,show decide (((8:Nat):Int) < 8) = false from rfl]
      refine ⟨fun h => (by cases h),fun h => (by cases h),fun h => (by cases h),fun h => (by cases h),fun h => (by cases h),fun h => (by cases h),fun h => (by cases h),fun _ _ => ?_,fun _ _ => ?_,fun _ _ _ h => ?_,fun _ _ _ h => ?_,fun _ _ _ h => ?_,fun _ _ _ h => ?_,fun _ _ _ _ => ?_,fun _ _ _ _ => ?_,fun _ h1 h2 _ _ => ?_,fun _ h1 h2 _ _ => ?_,fun p hp => (by cases hp)⟩
      · simp only [List.length_nil]; omega
      · simp only [List.length_nil]; omega
      · rw [h]; rfl
      · rw [h]; rfl
      · rw [h]; rfl
      · rw [h]; rfl
      · simp only [List.length_nil]; omega
      · simp only [List.length_nil]; omega
      · have z1:(v_fto p0 p1).2 = 0 := by
          cases q:((v_fto p0 p1).2 != 0)
          · exact bne0' q
          · rw [q] at h2; cases h2
        have z2:(v_fto l' p1).2 = 0 := by
          rw [z1] at h2; exact bne0' h2
        obtain ⟨A,B,e1,e2,f1,f2,r1,r2,r3,r4,k1,k2⟩ := main (v_cs_iff.1 (bne0' h1)) z1 z2
        rw [e1,r1]
        exact lenOk_le (show (v_rem p0 0 A).length≤20 by rw [v_rem_len]; exact hl) (by decide)
      · have z1:(v_fto p0 p1).2 = 0 := by
          cases q:((v_fto p0 p1).2 != 0)
          · exact bne0' q
          · rw [q] at h2; cases h2
        have z2:(v_fto l' p1).2 = 0 := by
          rw [z1] at h2; exact bne0' h2
        obtain ⟨A,B,e1,e2,f1,f2,r1,r2,r3,r4,k1,k2⟩ := main (v_cs_iff.1 (bne0' h1)) z1 z2
        exact k1
    · unfold st_Z0_3
      simp only [List.nil_append,show decide (((8:Nat):Int) < 8) = false from rfl,cond_false]
      cases h1:((v_cs l').2 != 0)
      · rw [cond_false]
        cases q1:((v_fto p0 p1).2 != 0)
        · cases q2:((v_fto l' p1).2 != 0)
          · obtain ⟨A,B,e1,e2,f1,f2,r1,r2,r3,r4,k1,k2⟩ := main (v_cs_iff.1 (bne0' h1)) (bne0' q1) (bne0' q2)
            simp only [e1,e2,f1,f2,r1,r2,r3,r4]
            simp [v_rem_len,hmlen]
            exact k2
          · simp only [cond_true,cond_false]
            rw [cases3 (bne0' h1)]
        · simp only [cond_true]
          rw [cases3 (bne0' h1)]
      · rfl
  · rintro t s _ ht8 rfl
    have hw1:IntKind.i64.wrap ((t:Int) + 1) = ((t + 1:Nat):Int) := wrap_id (by omega) (by omega)
    have hd:decide ((t:Int) < 8) = true := decide_eq_true (by omega)
    have step:∀ s,v_uu p1 (v_l8 p2) t = 0→s = (if t = 0 then 0 else v_uu p1 (v_l8 p2) 0,v_mv (v_GG p0 (v_uu p1 (v_l8 p2)) t) p0)→s = (if t + 1 = 0 then 0 else v_uu p1 (v_l8 p2) 0,v_mv (v_GG p0 (v_uu p1 (v_l8 p2)) (t + 1)) p0) := by
      rintro s z rfl
      refine Prod.ext ?_ (v_mv_congr fun i _ => ?_)
      · show (if t = 0 then 0 else _) = if t + 1 = 0 then 0 else _
        rw [if_neg (show ¬ t + 1 = 0 by omega)]
        by_cases h:t = 0
        · subst h; rw [if_pos rfl,z]; rfl
        · rw [if_neg h]; rfl
      · unfold v_GG
        rw [v_sums_last,Nat.zero_add,z,Int.zero_mul,Int.add_zero]
    have hcnd:(cond (v_and .i64 (v_shr .i64 p1 (t:Int)) 1 == 0) true (!(s_Z3 ((v_l8 p2).getD t 0) (-20) 20)) = true∧v_uu p1 (v_l8 p2) t = 0) ∨ (cond (v_and .i64 (v_shr .i64 p1 (t:Int)) 1 == 0) true (!(s_Z3 ((v_l8 p2).getD t 0) (-20) 20)) = false∧v_uu p1 (v_l8 p2) t = (v_l8 p2).getD t 0) := by
      rw [v_hs_0]
      unfold v_uu
      cases v_hs p1 t
      · exact .inl ⟨rfl,rfl⟩
      · cases s_Z3 ((v_l8 p2).getD t 0) (-20) 20
        · exact .inl ⟨rfl,rfl⟩
        · exact .inr ⟨rfl,rfl⟩
    have hlist:List.getD (p2.1 :: (p2.2.1 :: (p2.2.2.1 :: (p2.2.2.2.1 :: (p2.2.2.2.2.1 :: (p2.2.2.2.2.2.1 :: (p2.2.2.2.2.2.2.1 :: (p2.2.2.2.2.2.2.2 :: ([]:List Int))))))))) t 0 = (v_l8 p2).getD t 0 := rfl
    have l0 := fun h => @inv_l0 p0 p1 p2 hs t ht8 h (if t = 0 then 0 else v_uu p1 (v_l8 p2) 0) (v_mv (v_GG p0 (v_uu p1 (v_l8 p2)) t) p0) (.inr false)
    have l1 := fun h => @inv_l1 p0 p1 p2 hs t ht8 h (if t = 0 then 0 else v_uu p1 (v_l8 p2) 0) (v_mv (v_GG p0 (v_uu p1 (v_l8 p2)) t) p0) (.inr false)
    refine ⟨?_,.inl ⟨(if t + 1 = 0 then 0 else v_uu p1 (v_l8 p2) 0,v_mv (v_GG p0 (v_uu p1 (v_l8 p2)) (t + 1)) p0),?_,rfl,rfl⟩⟩
    · simp only [sp_Z0_3,fM,hd,Int.toNat_natCast,hlist]
      rcases hcnd with ⟨c1,c2⟩ | ⟨c1,c2⟩
      · rw [c1]
        exact ⟨fun _ => (by omega),fun _ _ => (by omega),fun _ _ => (by omega),fun _ h => (by cases h),fun _ h => (by cases h),fun _ h => (by cases h),fun _ h => (by cases h),fun h => (by cases h),fun h => (by cases h),fun h => (by cases h),fun h => (by cases h),fun h => (by cases h),fun h => (by cases h),fun h => (by cases h),fun h => (by cases h),fun h => (by cases h),fun h => (by cases h),fun p hp => (by cases hp)⟩
      · exact ⟨fun _ => (by omega),fun _ _ => (by omega),fun _ _ => (by omega),fun _ _ _ => (by omega),fun _ _ _ => (by omega),fun _ _ _ => (l0 c2).1,fun _ _ _ => (l1 c2).1,fun h => (by cases h),fun h => (by cases h),fun h => (by cases h),fun h => (by cases h),fun h => (by cases h),fun h => (by cases h),fun h => (by cases h),fun h => (by cases h),fun h => (by cases h),fun h => (by cases h),fun p hp => (by cases hp)⟩
    · unfold st_Z0_3
      rw [hd,cond_true]
      simp only [Int.toNat_natCast,hlist]
      rcases hcnd with ⟨c1,c2⟩ | ⟨c1,c2⟩
      · rw [c1,cond_true,hw1]
        exact congrArg (fun z => Sum.inl (((t + 1:Nat):Int),z)) (step _ c2 rfl)
      · rw [c1,cond_false]
        rcases int0 (t:Int) with ⟨z,_,e⟩ | ⟨z,_,e⟩
        · rw [e,cond_true,(l0 c2).2,if_neg (by omega),show t = 0 by omega]
        · rw [e,cond_false,(l1 c2).2,if_neg (by omega),if_neg (by omega)]
  · refine Prod.ext rfl (v_mv_0 fun i _ => ?_).symm
    rfl
theorem plain_Z0 (p0:List (Int×Int×Int×Int×Int)) (p1:Int) (p2:Int×Int×Int×Int×Int×Int×Int×Int) (_:okPs P_Z0 (p0,p1,p2)):(∀ p∈pre_Z0 p0 p1 p2,p)∧s_Z0 p0 p1 p2 = true := by
  have key:cond (cond (!(decide ((p0.length:Int)≤22))) true (s_Z10 p0 p1 != 0)) true false = false→v_smp p0∧v_terr p1 = 0 := by
    intro h
    cases c:decide ((p0.length:Int)≤22) <;> rw [c] at h
    · cases h
    · have h2:cond (s_Z10 p0 p1 != 0) true false = false := h
      cases q:(s_Z10 p0 p1 != 0)
      · have z := bne0' q
        unfold s_Z10 at z
        cases r:((v_cs p0).2 != 0) <;> rw [r] at z
        · exact ⟨v_cs_iff.1 (bne0' r),z⟩
        · rw [cond_true] at z; rw [z] at r; cases r
      · rw [q] at h2; cases h2
  unfold pre_Z0 s_Z0
  simp only [fM,List.nil_append]
  cases h:cond (!(decide ((p0.length:Int)≤22))) true (s_Z10 p0 p1 != 0)
  · obtain ⟨hs,ht⟩ := key (by rw [h]; rfl)
    have hl := hs.len
    have l := @inv_l3 p0 p1 p2 hs ht
    exact ⟨⟨fun _ => (by simp only [List.length_nil]; omega),fun _ => l.1,fun p hp => (by cases hp)⟩,l.2⟩
  · exact ⟨⟨fun h => (by cases h),fun h => (by cases h),fun p hp => (by cases hp)⟩,rfl⟩

theorem own:ownKnob Try.prog.godebug = none := by kernel_rfl
theorem laidOut:laidOutB Try.prog = true := by kernel_rfl
theorem hfn4:Try.prog.funcs[4]? = some (fnOf Try.prog 4) := by kernel_rfl
theorem hps4:(fnOf Try.prog 4).params.size = 3 := by kernel_rfl
theorem lifted_MagnetInvariant (os:Os) (started:os.Started) (H:Type) (enc:TypeId×Value→H) :
    ReturnsInHanded {} Try.checked os 4 .any (Rows.magnetInvariantSpec.pre6 enc Try.prog (fnOf Try.prog 4) [] false) (Rows.magnetInvariantSpec.post enc Try.prog (fnOf Try.prog 4) false true false false) :=
  said_of (C := Try.checked) (ss := P_Z0.map shP) own started (by kernel_rfl) hfn4
    (ChangeSpec.witness6 (enc := enc) (C := Try.checked) false ⟨#[],zeroArgs P_Z0,[]⟩ 8 (by kernel_rfl) (by kernel_rfl) (by kernel_rfl) (by kernel_rfl)) rfl
    (fun ds h => by
      rw [hps4] at h
      match ds,h with
      | [_,_,_],_ => rfl)
    laidOut (by kernel_rfl) (rt := (fnOf Try.prog 4).resultTypes.getD 0 0) (by kernel_rfl) (by kernel_rfl) (by kernel_rfl)
    (law_of ok_Z0 fun x hx => ⟨(plain_Z0 x.1 x.2.1 x.2.2 hx).1,congrArg (fun b => V.p (.bool b)) (plain_Z0 x.1 x.2.1 x.2.2 hx).2⟩) (fun _ => rfl)
theorem MagnetInvariant_holds:Rows.MagnetInvariantSaid :=
  OpenClaim.holds_of_wide 4 (fnOf Try.prog 4) rfl rfl rfl rfl rfl rfl rfl ⟨rfl,rfl,rfl,rfl,rfl⟩ rfl rfl rfl rfl rfl (by kernel_rfl) hfn4 (by kernel_rfl)
    (of_decide_eq_true (by kernel_rfl)) (by unfold Func.isWrapper; first | (rw [if_pos (by decide +kernel)]; kernel_rfl) | (rw [if_neg (by decide +kernel)]; exact ⟨rfl,rfl⟩))
    (fun os started H enc _ => lifted_MagnetInvariant os started H enc)
end Go.Proofs.Ytdkhhafmidokmaa
