/- What the functions that GroundContained reaches compute: contracts, each function once. No condition. -/
import Derived.Test.YtehblgccaiiikaaLayB
import Derived.Test.YtehblgccaiiikaaAwGrGroundContained
import Derived.KernelRfl
namespace Go.Proofs.Ytehblgccaiiikaa
open Go Go.Mx
set_option maxRecDepth 100000
abbrev wi (n:Int):Int := IntKind.i64.wrap n
abbrev zz0:Int := 0
abbrev zz1:Int := 1
abbrev zz2:Int := 2
abbrev zz3:Int := 3
theorem od {p:Prop} [Decidable p] (h:decide p = true):p := of_decide_eq_true h
theorem nof {p:Prop} (h:false = true):p := Bool.noConfusion h
theorem rf {p:Prop} {α:Sort _} {a:α} (_:p):a = a := rfl
/- ground_divisor -/
def C_ground_divisor:Cons := []
theorem hC_ground_divisor:ConsOk Try.prog C_ground_divisor := ConsOk.nil
def w_ground_divisor (p0:Int) (p1:Int) (K:Int→Prop):Prop :=
  (∃ n0,(loopP (fun (y1:(Int×Int)) k2 =>
  ((((y1.1 != 0)=true) →
  ((y1.1 ≠ (0:Int)) ∧
   (k2 ((Int.tmod y1.2 y1.1),y1.1)))) ∧
  (((y1.1 != 0)=false) →
  (K (max y1.2 (1:Int)))))) n0 (p1,p0)))
set_option maxHeartbeats 4000000 in
theorem w_ground_divisor_eq (p0:Int) (p1:Int) (K:Int→Prop):tfn F_ground_divisor A_ground_divisor C_ground_divisor P_ground_divisor R_ground_divisor (p0,p1) K = w_ground_divisor p0 p1 K := by kernel_rfl
def st_ground_divisor_0 (_p0:Int) (_p1:Int) (y0:(Int×Int)):(Int×Int) ⊕ Int :=
 (cond (y0.1 != 0) (Sum.inl ((Int.tmod y0.2 y0.1),y0.1))
  (Sum.inr (max y0.2 (1:Int))))
abbrev sp_ground_divisor_0 (_p0:Int) (_p1:Int) (y0:(Int×Int)):List Prop := [(((y0.1 != 0)=true)→(y0.1 ≠ (0:Int)))]
def s_ground_divisor (p0:Int) (p1:Int):Int :=
 (lpv (0:Int) (st_ground_divisor_0 p0 p1) (p1,p0))
abbrev pre_ground_divisor (p0:Int) (p1:Int):List Prop := [(OkL (st_ground_divisor_0 p0 p1) (sp_ground_divisor_0 p0 p1) (p1,p0))]
set_option maxHeartbeats 4000000 in
theorem d_ground_divisor (p0:Int) (p1:Int) (K:Int→Prop) (hp:∀ p∈pre_ground_divisor p0 p1,p) (h:K (s_ground_divisor p0 p1)):w_ground_divisor p0 p1 K := by
 unfold w_ground_divisor
 unfold s_ground_divisor at h
 obtain ⟨hp0,_⟩ := conj_of hp
 exact (loop_gen (hp0) h (fun y0 k0 hp h => by
 unfold st_ground_divisor_0 at h; obtain ⟨hp0,_⟩ := conj_of hp
 exact (br' h (fun e1 h => ⟨(hp0 e1),h⟩)
  (fun e1 h => h))))
/-- A rational number as a pair,in lowest terms. -/
def v_frac (q:Rat):Int×Int := (q.num,(q.den:Int))
theorem v_frac_pos (q:Rat):0 < (v_frac q).2 := by have := q.den_pos; unfold v_frac; simp only; omega
theorem v_low_frac {n d:Int} (hd:0 < d):v_low (n,d)=v_frac ((n:Rat) / (d:Rat)) := by
 unfold v_low v_frac v_gcd
 rw [← Rat.divInt_eq_div,Rat.num_divInt,Rat.den_divInt,if_neg (by omega),Int.sign_eq_one_of_pos hd,Int.one_mul]
 simp only
 rw [Int.gcd_comm d n]
 congr 1
 rw [Int.natCast_ediv]
 congr 1
 omega
/-- The rational number of a pair. -/
def v_rq (x:Int×Int):Rat := (x.1:Rat) / (x.2:Rat)
theorem v_rq_frac (q:Rat):v_rq (v_frac q)=q := by
 unfold v_rq v_frac
 simp only
 rw [← Rat.divInt_eq_div,Rat.num_divInt_den]
theorem v_rcast {a b:Int}:(a:Rat)≤(b:Rat) ↔ a≤b := Rat.intCast_le_intCast
theorem v_rpos {a:Int} (h:0 < a):(0:Rat) < (a:Rat) := Rat.intCast_pos.2 h
theorem v_rnn {a:Int} (h:0≤a):(0:Rat)≤(a:Rat) := Rat.intCast_nonneg.2 h
theorem v_rle_frac {p q:Rat}:p≤q ↔ (v_frac p).1 * (v_frac q).2≤(v_frac q).1 * (v_frac p).2 := Rat.le_iff p q
/-- A quotient of two whole numbers. -/
theorem v_rdiv_le {a b:Rat} {c:Rat} (hb:0 < b):a / b≤c ↔ a≤c * b := by
 rw [← Rat.not_lt,← Rat.not_lt,Rat.lt_div_iff hb]
theorem v_rle_div {a b:Rat} {c:Rat} (hb:0 < b):c≤a / b ↔ c * b≤a := by
 rw [← Rat.not_lt,← Rat.not_lt,Rat.div_lt_iff hb]
/-- Of equal numbers the lowest terms are the smallest. -/
theorem v_frac_le {n d:Int} (hn:0≤n) (hd:0 < d):0≤(v_frac ((n:Rat) / (d:Rat))).1∧(v_frac ((n:Rat) / (d:Rat))).1≤n∧(v_frac ((n:Rat) / (d:Rat))).2≤d := by
 rw [← v_low_frac hd]
 have hg:0 < v_gcd n d := v_gcd_pos (by omega)
 unfold v_low
 simp only
 exact ⟨Int.ediv_nonneg hn (by omega),Int.ediv_le_self _ hn,Int.ediv_le_self _ (by omega)⟩
/-- One layer above what lies below. -/
def v_step (s:Int) (x:Int×Int) (r:Rat):Rat := (x.1:Rat) * (r * ((x.2 + s:Int):Rat) + (x.1:Rat) * (x.2:Rat)) / ((x.1:Rat) * ((x.2 + s:Int):Rat) + r * (x.2:Rat))
/-- The response of layers at a scale. -/
def v_resp (s:Int):List (Int×Int)→Rat
 | [] => 0
 | x :: r => match r with
  | [] => (x.1:Rat)
  | _ :: _ => v_step s x (v_resp s r)
theorem v_resp_c (s:Int) (x:Int×Int) {r:List (Int×Int)} (h:r ≠ []):v_resp s (x :: r)=v_step s x (v_resp s r) := by
 cases r with
 | nil => exact absurd rfl h
 | cons y r => rfl
theorem v_step_den {s:Int} {x:Int×Int} {r:Rat} (hs:0 < s) (hc:0 < x.1) (ht:0≤x.2) (hr:0≤r):(0:Rat) < (x.1:Rat) * ((x.2 + s:Int):Rat) + r * (x.2:Rat) := by
 have h1:(0:Rat) < (x.1:Rat) * ((x.2 + s:Int):Rat) := Rat.mul_pos (v_rpos hc) (v_rpos (by omega))
 have h2:(0:Rat)≤r * (x.2:Rat) := Rat.mul_nonneg hr (v_rnn ht)
 grind
/-- Between bounds of the conductivity and of what lies below. -/
theorem v_step_lo {s:Int} {x:Int×Int} {r lo:Rat} (hs:0 < s) (hc:0 < x.1) (ht:0≤x.2) (hl:0 < lo) (h1:lo≤(x.1:Rat)) (h2:lo≤r):lo≤v_step s x r := by
 have hd := v_step_den (s := s) (x := x) (r := r) hs hc ht (by grind)
 unfold v_step
 rw [v_rle_div hd]
 have hS:((x.2 + s:Int):Rat)=(x.2:Rat) + (s:Rat) := Rat.intCast_add _ _
 have ps := v_rpos hs
 have pt := v_rnn ht
 rw [hS]
 generalize (x.1:Rat)=c at *
 generalize (x.2:Rat)=t at *
 generalize (s:Rat)=S at *
 -- c (r (t+S) + c t) - lo (c (t+S) + r t)=c (r - lo) (t+S) + t (c c - lo r)
 have e1:0≤c * (r - lo) * S := Rat.mul_nonneg (Rat.mul_nonneg (by grind) (by grind)) (by grind)
 have e2:0≤t * (c * (c - lo)) := Rat.mul_nonneg pt (Rat.mul_nonneg (by grind) (by grind))
 have e3:0≤t * (r * (c - lo)) := Rat.mul_nonneg pt (Rat.mul_nonneg (by grind) (by grind))
 grind
theorem v_step_hi {s:Int} {x:Int×Int} {r hi:Rat} (hs:0 < s) (hc:0 < x.1) (ht:0≤x.2) (hr:0 < r) (h1:(x.1:Rat)≤hi) (h2:r≤hi):v_step s x r≤hi := by
 have hd := v_step_den (s := s) (x := x) (r := r) hs hc ht (by grind)
 have hc' := v_rpos hc
 unfold v_step
 rw [v_rdiv_le hd]
 have hS:((x.2 + s:Int):Rat)=(x.2:Rat) + (s:Rat) := Rat.intCast_add _ _
 have ps := v_rpos hs
 have pt := v_rnn ht
 rw [hS]
 generalize (x.1:Rat)=c at *
 generalize (x.2:Rat)=t at *
 generalize (s:Rat)=S at *
 have e1:0≤c * (hi - r) * S := Rat.mul_nonneg (Rat.mul_nonneg (by grind) (by grind)) (by grind)
 have e2:0≤t * (c * (hi - c)) := Rat.mul_nonneg pt (Rat.mul_nonneg (by grind) (by grind))
 have e3:0≤t * (r * (hi - c)) := Rat.mul_nonneg pt (Rat.mul_nonneg (by grind) (by grind))
 grind
/-- Whether a layer,layers,are valid. -/
structure v_lok (x:Int×Int):Prop where
 c:1≤x.1∧x.1≤20
 t:0≤x.2∧x.2≤10
theorem v_resp_lo {s:Int} {lo:Rat} (hs:0 < s) (hl:0 < lo):∀ {l:List (Int×Int)},l ≠ []→(∀ x∈l,v_lok x)→(∀ x∈l,lo≤(x.1:Rat))→lo≤v_resp s l
 | [],h,_,_ => absurd rfl h
 | [x],_,_,h => h x (by simp)
 | x :: y :: r,_,hk,h => by
  rw [v_resp_c s x (by simp)]
  have hx := hk x (by simp)
  exact v_step_lo hs (by have := hx.c; omega) hx.t.1 hl (h x (by simp)) (v_resp_lo hs hl (by simp) (fun z hz => hk z (List.mem_cons_of_mem _ hz)) (fun z hz => h z (List.mem_cons_of_mem _ hz)))
theorem v_resp_1le {s:Int} (hs:0 < s) {l:List (Int×Int)} (h:l ≠ []) (hk:∀ x∈l,v_lok x):1≤v_resp s l :=
 v_resp_lo hs (by decide) h hk (fun x hx => by have := v_rcast.2 (hk x hx).c.1; simpa using this)
theorem v_resp_hi {s:Int} {hi:Rat} (hs:0 < s):∀ {l:List (Int×Int)},l ≠ []→(∀ x∈l,v_lok x)→(∀ x∈l,(x.1:Rat)≤hi)→v_resp s l≤hi
 | [],h,_,_ => absurd rfl h
 | [x],_,_,h => h x (by simp)
 | x :: y :: r,_,hk,h => by
  rw [v_resp_c s x (by simp)]
  have hx := hk x (by simp)
  have h1 := v_resp_1le (s := s) (l := y :: r) hs (by simp) (fun z hz => hk z (List.mem_cons_of_mem _ hz))
  exact v_step_hi hs (by have := hx.c; omega) hx.t.1 (by grind) (h x (by simp)) (v_resp_hi hs (by simp) (fun z hz => hk z (List.mem_cons_of_mem _ hz)) (fun z hz => h z (List.mem_cons_of_mem _ hz)))
theorem v_resp_le20 {s:Int} (hs:0 < s) {l:List (Int×Int)} (h:l ≠ []) (hk:∀ x∈l,v_lok x):v_resp s l≤20 :=
 v_resp_hi hs h hk (fun x hx => by have := v_rcast.2 (hk x hx).c.2; simpa using this)
/-- The same thicknesses,and conductivities that are no less. -/
inductive v_above:List (Int×Int)→List (Int×Int)→Prop
 | nil:v_above [] []
 | cons {x y:Int×Int} {l r:List (Int×Int)} (h1:x.1≤y.1) (h2:x.2 = y.2) (h:v_above l r):v_above (x :: l) (y :: r)
/-- How great the parts are,at most: of n layers,800^(n - 1). -/
theorem v_step_parts {s:Int} {x:Int×Int} {r:Rat} (hs:1≤s∧s≤20) (hx:v_lok x) (h1:1≤r) (h2:r≤20) {D:Int} (hD:(v_frac r).2≤D) :
  0 < x.1 * (v_frac r).2 * (x.2 + s) + (v_frac r).1 * x.2∧x.1 * (v_frac r).2 * (x.2 + s) + (v_frac r).1 * x.2≤800 * D∧0≤x.1 * ((v_frac r).1 * (x.2 + s) + x.1 * x.2 * (v_frac r).2)∧x.1 * ((v_frac r).1 * (x.2 + s) + x.1 * x.2 * (v_frac r).2)≤16000 * D ∧
  v_step s x r = ((x.1 * ((v_frac r).1 * (x.2 + s) + x.1 * x.2 * (v_frac r).2):Int):Rat) / ((x.1 * (v_frac r).2 * (x.2 + s) + (v_frac r).1 * x.2:Int):Rat)∧0≤(v_frac r).1∧(v_frac r).1≤20 * D := by
 have hp := v_frac_pos r
 have hr:r = v_rq (v_frac r) := (v_rq_frac r).symm
 have hn:(v_frac r).1≤20 * (v_frac r).2 := by
  have := v_rle_frac.1 h2
  have e:v_frac 20 = (20,1) := rfl
  rw [e] at this
  simp only at this
  omega
 have hn0:0≤(v_frac r).1 := Rat.num_nonneg.2 (by grind)
 generalize hN:(v_frac r).1 = N at *
 generalize hM:(v_frac r).2 = M at *
 have hc := hx.c
 have ht := hx.t
 have m1 := mul_in (x := x.1) (y := M) (by omega) hc.2 (by omega) (Int.le_refl M)
 have m2 := mul_in (x := x.1 * M) (y := x.2 + s) m1.1 m1.2 (by omega) (show x.2 + s≤30 by omega)
 have m3 := mul_in (x := N) (y := x.2) hn0 hn ht.1 ht.2
 have m4 := mul_in (x := N) (y := x.2 + s) hn0 hn (by omega) (show x.2 + s≤30 by omega)
 have m5 := mul_in (x := x.1) (y := x.2) (by omega) hc.2 ht.1 ht.2
 have m6 := mul_in (x := x.1 * x.2) (y := M) m5.1 m5.2 (by omega) (Int.le_refl M)
 have m7 := mul_in (x := x.1) (y := N * (x.2 + s) + x.1 * x.2 * M) (a := 20) (b := 20 * M * 30 + 20 * 10 * M) (by omega) hc.2 (by omega) (by omega)
 have m8:0 < x.1 * M * (x.2 + s) := Int.mul_pos (Int.mul_pos (by omega) hp) (by omega)
 refine ⟨by omega,by omega,m7.1,by omega,?_,hn0,by omega⟩
 have hMr := v_rpos hp
 have hd := v_step_den (s := s) (x := x) (r := r) (by omega) (by omega) ht.1 (by grind)
 have hd2:(0:Rat) < ((x.1 * M * (x.2 + s) + N * x.2:Int):Rat) := v_rpos (by omega)
 have hrq:r * (M:Rat)=(N:Rat) := by
  rw [hr]; unfold v_rq; rw [hN,hM]; exact Rat.div_mul_cancel (by grind)
 unfold v_step
 have c1:((x.1 * ((N * (x.2 + s)) + x.1 * x.2 * M):Int):Rat)=(x.1:Rat) * ((N:Rat) * ((x.2 + s:Int):Rat) + (x.1:Rat) * (x.2:Rat) * (M:Rat)) := by
  rw [Rat.intCast_mul,Rat.intCast_add,Rat.intCast_mul,Rat.intCast_mul,Rat.intCast_mul]
 have c2:((x.1 * M * (x.2 + s) + N * x.2:Int):Rat)=(x.1:Rat) * (M:Rat) * ((x.2 + s:Int):Rat) + (N:Rat) * (x.2:Rat) := by
  rw [Rat.intCast_add,Rat.intCast_mul,Rat.intCast_mul,Rat.intCast_mul]
 rw [c1]
 rw [c2] at hd2 ⊢
 rw [← hrq] at hd2 ⊢
 generalize ((x.2 + s:Int):Rat)=S at *
 generalize (x.1:Rat)=c at *
 generalize (x.2:Rat)=t at *
 generalize (M:Rat)=m at *
 have e1:c * m * S + r * m * t = (c * S + r * t) * m := by grind
 have e2:c * (r * m * S + c * t * m)=(c * (r * S + c * t)) * m := by grind
 rw [e1,e2]
 rw [Rat.div_def,Rat.div_def,Rat.inv_mul_rev]
 have:m * m⁻¹ = 1 := Rat.mul_inv_cancel _ (by grind)
 grind
theorem l_ground_divisor_0 (p0 p1:Int) (h0:0≤p0) (h1:0 < p1) (h2:p1≤9223372036854775807):OkL (st_ground_divisor_0 p0 p1) (sp_ground_divisor_0 p0 p1) (p1,p0)∧lpv 0 (st_ground_divisor_0 p0 p1) (p1,p0)=v_gcd p0 p1 := by
 refine loop_is (fun (y:Int×Int) => 0≤y.1∧0≤y.2∧0 < v_gcd y.2 y.1) (fun (y:Int×Int) => y.1.natAbs) (fun (y:Int×Int) => v_gcd y.2 y.1) ?_ ⟨by omega,h0,v_gcd_pos (by omega)⟩ (by unfold fuel; simp only; omega)
 rintro ⟨x,y⟩ ⟨g1,g2,g3⟩
 refine ⟨by simp only [sp_ground_divisor_0,List.forall_mem_cons]; simp,?_⟩
 simp only at g1 g2 g3 ⊢
 unfold st_ground_divisor_0
 simp only
 rcases int0 x with ⟨rfl,e,_⟩ | ⟨hx,e,_⟩
 ·rw [e]
  have e0:v_gcd y 0 = y := by unfold v_gcd; rw [Int.gcd_zero_right]; omega
  rw [e0] at g3 ⊢
  simp only [cond_false]
  omega
 ·rw [e]
  have := v_tmod_lt (a := y) hx
  have hs := v_gcd_step y x
  have hn:0≤y.tmod x := Int.tmod_nonneg _ g2
  exact ⟨⟨hn,g1,by rw [hs]; exact g3⟩,this,hs⟩
abbrev t_ground_divisor (p0 p1:Int):Int := v_gcd p0 p1
abbrev qre_ground_divisor (p0 p1:Int):List Prop := [0≤p0∧0 < p1∧p1≤9223372036854775807]
theorem pp_ground_divisor (p0 p1:Int) (hq:∀ p∈qre_ground_divisor p0 p1,p):∀ p∈pre_ground_divisor p0 p1,p := by
 obtain ⟨h1,h2,h3⟩ := (conj_of hq).1
 simp only [pre_ground_divisor,List.forall_mem_cons]
 exact ⟨(l_ground_divisor_0 p0 p1 h1 h2 h3).1,by simp⟩
theorem tt_ground_divisor (p0 p1:Int) (hq:∀ p∈qre_ground_divisor p0 p1,p):s_ground_divisor p0 p1 = t_ground_divisor p0 p1 := by
 obtain ⟨h1,h2,h3⟩ := (conj_of hq).1
 exact (l_ground_divisor_0 p0 p1 h1 h2 h3).2

abbrev con_ground_divisor:Con := ⟨P_ground_divisor,R_ground_divisor,fun x => qre_ground_divisor x.1 x.2,fun x => t_ground_divisor x.1 x.2⟩
theorem ok_ground_divisor:ConOk Try.prog 145 con_ground_divisor := ⟨k_ground_divisor,fun x hx => ret_tf (ps := P_ground_divisor) (rs := R_ground_divisor) (x := x) (y := t_ground_divisor x.1 x.2) e_ground_divisor hC_ground_divisor (tf_of (w_ground_divisor_eq x.1 x.2 (fun z => z = t_ground_divisor x.1 x.2)) (d_ground_divisor x.1 x.2 (fun z => z = t_ground_divisor x.1 x.2) (pp_ground_divisor x.1 x.2 hx) (tt_ground_divisor x.1 x.2 hx)))⟩
/- base_Within -/
def C_base_Within:Cons := []
theorem hC_base_Within:ConsOk Try.prog C_base_Within := ConsOk.nil
def w_base_Within (p0:Int) (p1:Int) (p2:Int) (K:Bool→Prop):Prop :=
  ((((decide (p1≤p0))=true) →
 ((decide (p1≤p0))=(decide (p1≤p0)))) ∧
 ((((decide (p1≤p0))=true) →
 ((decide (p1≤p0))=(decide (p1≤p0)))) ∧
 (((decide (p1≤p0))=(decide (p1≤p0))) ∧
 (K (cond (decide (p1≤p0)) (decide (p0≤p2)) false)))))
set_option maxHeartbeats 4000000 in
theorem w_base_Within_eq (p0:Int) (p1:Int) (p2:Int) (K:Bool→Prop):tfn F_base_Within A_base_Within C_base_Within P_base_Within R_base_Within (p0,p1,p2) K = w_base_Within p0 p1 p2 K := by kernel_rfl
def s_base_Within (p0:Int) (p1:Int) (p2:Int):Bool :=
 (cond (decide (p1≤p0)) (decide (p0≤p2)) false)
abbrev pre_base_Within (_p0:Int) (_p1:Int) (_p2:Int):List Prop := []
set_option maxHeartbeats 4000000 in
theorem d_base_Within (p0:Int) (p1:Int) (p2:Int) (K:Bool→Prop) (_hp:∀ p∈pre_base_Within p0 p1 p2,p) (h:K (s_base_Within p0 p1 p2)):w_base_Within p0 p1 p2 K := by
 unfold w_base_Within
 unfold s_base_Within at h
 exact ⟨rf,rf,rfl,h⟩
abbrev con_base_Within:Con := ⟨P_base_Within,R_base_Within,fun x => pre_base_Within x.1 x.2.1 x.2.2,fun x => s_base_Within x.1 x.2.1 x.2.2⟩
theorem ok_base_Within:ConOk Try.prog 35 con_base_Within := ⟨k_base_Within,fun x hx => ret_tf (ps := P_base_Within) (rs := R_base_Within) (x := x) (y := s_base_Within x.1 x.2.1 x.2.2) e_base_Within hC_base_Within (tf_of (w_base_Within_eq x.1 x.2.1 x.2.2 (fun z => z = s_base_Within x.1 x.2.1 x.2.2)) (d_base_Within x.1 x.2.1 x.2.2 (fun z => z = s_base_Within x.1 x.2.1 x.2.2) hx rfl))⟩
theorem tx_within {n lo hi:Int}:s_base_Within n lo hi = true ↔ lo≤n∧n≤hi := by unfold s_base_Within; simp
/- ref04_isConductivity -/
def C_ref04_isConductivity:Cons := [(35,[],con_base_Within)]
theorem hC_ref04_isConductivity:ConsOk Try.prog C_ref04_isConductivity := ConsOk.cons ok_base_Within <| ConsOk.nil
def w_ref04_isConductivity (p0:Int) (K:Bool→Prop):Prop :=
  (K (s_base_Within p0 (1:Int) (20:Int)))
set_option maxHeartbeats 4000000 in
theorem w_ref04_isConductivity_eq (p0:Int) (K:Bool→Prop):tfn F_ref04_isConductivity A_ref04_isConductivity C_ref04_isConductivity P_ref04_isConductivity R_ref04_isConductivity p0 K = w_ref04_isConductivity p0 K := by kernel_rfl
def s_ref04_isConductivity (p0:Int):Bool :=
 (s_base_Within p0 (1:Int) (20:Int))
abbrev pre_ref04_isConductivity (_p0:Int):List Prop := []
set_option maxHeartbeats 4000000 in
theorem d_ref04_isConductivity (p0:Int) (K:Bool→Prop) (_hp:∀ p∈pre_ref04_isConductivity p0,p) (h:K (s_ref04_isConductivity p0)):w_ref04_isConductivity p0 K := by
 unfold w_ref04_isConductivity
 unfold s_ref04_isConductivity at h
 exact h
abbrev con_ref04_isConductivity:Con := ⟨P_ref04_isConductivity,R_ref04_isConductivity,fun x => pre_ref04_isConductivity x,fun x => s_ref04_isConductivity x⟩
theorem ok_ref04_isConductivity:ConOk Try.prog 81 con_ref04_isConductivity := ⟨k_ref04_isConductivity,fun x hx => ret_tf (ps := P_ref04_isConductivity) (rs := R_ref04_isConductivity) (x := x) (y := s_ref04_isConductivity x) e_ref04_isConductivity hC_ref04_isConductivity (tf_of (w_ref04_isConductivity_eq x (fun z => z = s_ref04_isConductivity x)) (d_ref04_isConductivity x (fun z => z = s_ref04_isConductivity x) hx rfl))⟩
/- ref04_isThickness -/
def C_ref04_isThickness:Cons := [(35,[],con_base_Within)]
theorem hC_ref04_isThickness:ConsOk Try.prog C_ref04_isThickness := ConsOk.cons ok_base_Within <| ConsOk.nil
def w_ref04_isThickness (p0:Int) (K:Bool→Prop):Prop :=
  (K (s_base_Within p0 (0:Int) (10:Int)))
set_option maxHeartbeats 4000000 in
theorem w_ref04_isThickness_eq (p0:Int) (K:Bool→Prop):tfn F_ref04_isThickness A_ref04_isThickness C_ref04_isThickness P_ref04_isThickness R_ref04_isThickness p0 K = w_ref04_isThickness p0 K := by kernel_rfl
def s_ref04_isThickness (p0:Int):Bool :=
 (s_base_Within p0 (0:Int) (10:Int))
abbrev pre_ref04_isThickness (_p0:Int):List Prop := []
set_option maxHeartbeats 4000000 in
theorem d_ref04_isThickness (p0:Int) (K:Bool→Prop) (_hp:∀ p∈pre_ref04_isThickness p0,p) (h:K (s_ref04_isThickness p0)):w_ref04_isThickness p0 K := by
 unfold w_ref04_isThickness
 unfold s_ref04_isThickness at h
 exact h
abbrev con_ref04_isThickness:Con := ⟨P_ref04_isThickness,R_ref04_isThickness,fun x => pre_ref04_isThickness x,fun x => s_ref04_isThickness x⟩
theorem ok_ref04_isThickness:ConOk Try.prog 82 con_ref04_isThickness := ⟨k_ref04_isThickness,fun x hx => ret_tf (ps := P_ref04_isThickness) (rs := R_ref04_isThickness) (x := x) (y := s_ref04_isThickness x) e_ref04_isThickness hC_ref04_isThickness (tf_of (w_ref04_isThickness_eq x (fun z => z = s_ref04_isThickness x)) (d_ref04_isThickness x (fun z => z = s_ref04_isThickness x) hx rfl))⟩
/- ref04_CheckModel -/
/-- What is wrong with a layer; with layers. -/
def v_cm1 (n:Int) (i:Int) (x:Int×Int):Option (Int×Int) := cond (cond (s_base_Within x.1 1 20) (s_base_Within x.2 0 10) false) (cond (cond (i == n - 1) (x.2 == 0) true) none (some (i,3))) (some (i,2))
def v_cm (l:List (Int×Int)):Int×Int := cond ((l.length:Int) == 0) (0,10) (cond (decide ((l.length:Int) > 4)) (0,8) (v_scan (v_cm1 l.length) (0,0) 0 l))
/- ground_within -/
def C_ground_within:Cons := []
theorem hC_ground_within:ConsOk Try.prog C_ground_within := ConsOk.nil
def w_ground_within (p0:Int) (p1:Int) (p2:Int) (K:Bool→Prop):Prop :=
  ((((decide (p1≤p0))=true) →
 ((decide (p1≤p0))=(decide (p1≤p0)))) ∧
 ((((decide (p1≤p0))=true) →
 ((decide (p1≤p0))=(decide (p1≤p0)))) ∧
 (((decide (p1≤p0))=(decide (p1≤p0))) ∧
 (K (cond (decide (p1≤p0)) (decide (p0≤p2)) false)))))
set_option maxHeartbeats 4000000 in
theorem w_ground_within_eq (p0:Int) (p1:Int) (p2:Int) (K:Bool→Prop):tfn F_ground_within A_ground_within C_ground_within P_ground_within R_ground_within (p0,p1,p2) K = w_ground_within p0 p1 p2 K := by kernel_rfl
def s_ground_within (p0:Int) (p1:Int) (p2:Int):Bool :=
 (cond (decide (p1≤p0)) (decide (p0≤p2)) false)
abbrev pre_ground_within (_p0:Int) (_p1:Int) (_p2:Int):List Prop := []
set_option maxHeartbeats 4000000 in
theorem d_ground_within (p0:Int) (p1:Int) (p2:Int) (K:Bool→Prop) (_hp:∀ p∈pre_ground_within p0 p1 p2,p) (h:K (s_ground_within p0 p1 p2)):w_ground_within p0 p1 p2 K := by
 unfold w_ground_within
 unfold s_ground_within at h
 exact ⟨rf,rf,rfl,h⟩
abbrev con_ground_within:Con := ⟨P_ground_within,R_ground_within,fun x => pre_ground_within x.1 x.2.1 x.2.2,fun x => s_ground_within x.1 x.2.1 x.2.2⟩
theorem ok_ground_within:ConOk Try.prog 95 con_ground_within := ⟨k_ground_within,fun x hx => ret_tf (ps := P_ground_within) (rs := R_ground_within) (x := x) (y := s_ground_within x.1 x.2.1 x.2.2) e_ground_within hC_ground_within (tf_of (w_ground_within_eq x.1 x.2.1 x.2.2 (fun z => z = s_ground_within x.1 x.2.1 x.2.2)) (d_ground_within x.1 x.2.1 x.2.2 (fun z => z = s_ground_within x.1 x.2.1 x.2.2) hx rfl))⟩
theorem tx_withinG {n lo hi:Int}:s_ground_within n lo hi = s_base_Within n lo hi := rfl
/- ground_unless -/
def C_ground_unless:Cons := []
theorem hC_ground_unless:ConsOk Try.prog C_ground_unless := ConsOk.nil
def w_ground_unless (p0:Bool) (p1:Int) (K:Int→Prop):Prop :=
  (((p0 = true) →
 (K (0:Int))) ∧
 ((p0 = false) →
 (K p1)))
set_option maxHeartbeats 4000000 in
theorem w_ground_unless_eq (p0:Bool) (p1:Int) (K:Int→Prop):tfn F_ground_unless A_ground_unless C_ground_unless P_ground_unless R_ground_unless (p0,p1) K = w_ground_unless p0 p1 K := by kernel_rfl
def s_ground_unless (p0:Bool) (p1:Int):Int :=
 (cond p0 (0:Int)
  p1)
abbrev pre_ground_unless (_p0:Bool) (_p1:Int):List Prop := []
set_option maxHeartbeats 4000000 in
theorem d_ground_unless (p0:Bool) (p1:Int) (K:Int→Prop) (_hp:∀ p∈pre_ground_unless p0 p1,p) (h:K (s_ground_unless p0 p1)):w_ground_unless p0 p1 K := by
 unfold w_ground_unless
 unfold s_ground_unless at h
 exact (br' h (fun e0 h => h)
  (fun e0 h => h))
abbrev con_ground_unless:Con := ⟨P_ground_unless,R_ground_unless,fun x => pre_ground_unless x.1 x.2,fun x => s_ground_unless x.1 x.2⟩
theorem ok_ground_unless:ConOk Try.prog 74 con_ground_unless := ⟨k_ground_unless,fun x hx => ret_tf (ps := P_ground_unless) (rs := R_ground_unless) (x := x) (y := s_ground_unless x.1 x.2) e_ground_unless hC_ground_unless (tf_of (w_ground_unless_eq x.1 x.2 (fun z => z = s_ground_unless x.1 x.2)) (d_ground_unless x.1 x.2 (fun z => z = s_ground_unless x.1 x.2) hx rfl))⟩
theorem tx_unless0 {a:Bool} {x:Int} (hx:x ≠ 0) (h:s_ground_unless a x = 0):a = true := by
 cases a
 ·exact (hx h).elim
 ·rfl
theorem tx_unless {a:Bool} {x:Int}:s_ground_unless a x = cond a 0 x := by cases a <;> rfl
/- ground_first -/
def C_ground_first:Cons := []
theorem hC_ground_first:ConsOk Try.prog C_ground_first := ConsOk.nil
def w_ground_first (p0:(List Int)) (K:Int→Prop):Prop :=
  (∃ n0,(loopP (fun (y1:Int) k2 =>
  ((((decide (y1 < (p0.length:Int)))=true) →
  (((0:Int)≤y1) ∧
   ((y1 < (p0.length:Int)) ∧
   (((((p0.getD y1.toNat (0:Int)) != 0)=true) →
   (K (p0.getD y1.toNat (0:Int)))) ∧
   ((((p0.getD y1.toNat (0:Int)) != 0)=false) →
   (k2 (IntKind.i64.wrap (y1 + 1)))))))) ∧
  (((decide (y1 < (p0.length:Int)))=false) →
  (K (0:Int))))) n0 (0:Int)))
set_option maxHeartbeats 4000000 in
theorem w_ground_first_eq (p0:(List Int)) (K:Int→Prop):tfn F_ground_first A_ground_first C_ground_first P_ground_first R_ground_first p0 K = w_ground_first p0 K := by kernel_rfl
def st_ground_first_0 (p0:(List Int)) (y0:Int):Int ⊕ Int :=
 (cond (decide (y0 < (p0.length:Int))) (cond ((p0.getD y0.toNat (0:Int)) != 0) (Sum.inr (p0.getD y0.toNat (0:Int)))
  (Sum.inl (IntKind.i64.wrap (y0 + 1))))
  (Sum.inr (0:Int)))
abbrev sp_ground_first_0 (p0:(List Int)) (y0:Int):List Prop := [(((decide (y0 < (p0.length:Int)))=true)→((0:Int)≤y0)),
  (((decide (y0 < (p0.length:Int)))=true)→(y0 < (p0.length:Int)))]
def s_ground_first (p0:(List Int)):Int :=
 (lpv (0:Int) (st_ground_first_0 p0) (0:Int))
abbrev pre_ground_first (p0:(List Int)):List Prop := [(OkL (st_ground_first_0 p0) (sp_ground_first_0 p0) (0:Int))]
set_option maxHeartbeats 4000000 in
theorem d_ground_first (p0:(List Int)) (K:Int→Prop) (hp:∀ p∈pre_ground_first p0,p) (h:K (s_ground_first p0)):w_ground_first p0 K := by
 unfold w_ground_first
 unfold s_ground_first at h
 obtain ⟨hp0,_⟩ := conj_of hp
 exact (loop_gen (hp0) h (fun y0 k0 hp h => by
 unfold st_ground_first_0 at h; obtain ⟨hp0,hp1,_⟩ := conj_of hp
 exact (br' h (fun e1 h => ⟨(hp0 e1),(hp1 e1),(br' h (fun e2 h => h)
  (fun e2 h => h))⟩)
  (fun e1 h => h))))
theorem l_ground_first_0 (p0:List Int) (hl:lenOk p0):OkL (st_ground_first_0 p0) (sp_ground_first_0 p0) 0∧lpv (0:Int) (st_ground_first_0 p0) 0 = v_scan (fun _ x => cond (x != 0) (some x) none) (0:Int) 0 p0 := by
 refine scan_is p0 0 (fun _ x => cond (x != 0) (some x) none) (0:Int) hl ?_ ?_
 ·refine ⟨by simp only [sp_ground_first_0,List.forall_mem_cons,decide_eq_true_eq]; simp,by simp [st_ground_first_0]⟩
 ·intro j hj
  have hj' : (j:Int) < p0.length := by omega
  refine ⟨by simp only [sp_ground_first_0,List.forall_mem_cons,decide_eq_true_eq,Int.toNat_natCast]; simp <;> omega,?_⟩
  simp only [st_ground_first_0,hj',decide_true,Int.toNat_natCast,cond_true,wrap_nat (show (j:Int)≤9223372036854775806 by unfold lenOk at hl; omega)]
  generalize p0.getD j 0 = x
  cases (x != 0) <;> rfl
abbrev t_ground_first (p0:List Int):Int := v_first p0
abbrev qre_ground_first (p0:List Int):List Prop := [lenOk p0]
theorem pp_ground_first (p0:List Int) (hq:∀ p∈qre_ground_first p0,p):∀ p∈pre_ground_first p0,p := by
 simp only [pre_ground_first,List.forall_mem_cons]
 exact ⟨(l_ground_first_0 p0 (conj_of hq).1).1,by simp⟩
theorem tt_ground_first (p0:List Int) (hq:∀ p∈qre_ground_first p0,p):s_ground_first p0 = t_ground_first p0 := by
 exact (l_ground_first_0 p0 (conj_of hq).1).2.trans (v_first_scan p0 0)

abbrev con_ground_first:Con := ⟨P_ground_first,R_ground_first,fun x => qre_ground_first x,fun x => t_ground_first x⟩
theorem ok_ground_first:ConOk Try.prog 73 con_ground_first := ⟨k_ground_first,fun x hx => ret_tf (ps := P_ground_first) (rs := R_ground_first) (x := x) (y := t_ground_first x) e_ground_first hC_ground_first (tf_of (w_ground_first_eq x (fun z => z = t_ground_first x)) (d_ground_first x (fun z => z = t_ground_first x) (pp_ground_first x hx) (tt_ground_first x hx)))⟩
/- ground_isConductivity -/
def C_ground_isConductivity:Cons := [(95,[],con_ground_within)]
theorem hC_ground_isConductivity:ConsOk Try.prog C_ground_isConductivity := ConsOk.cons ok_ground_within <| ConsOk.nil
def w_ground_isConductivity (p0:Int) (K:Bool→Prop):Prop :=
  (K (s_ground_within p0 (1:Int) (20:Int)))
set_option maxHeartbeats 4000000 in
theorem w_ground_isConductivity_eq (p0:Int) (K:Bool→Prop):tfn F_ground_isConductivity A_ground_isConductivity C_ground_isConductivity P_ground_isConductivity R_ground_isConductivity p0 K = w_ground_isConductivity p0 K := by kernel_rfl
def s_ground_isConductivity (p0:Int):Bool :=
 (s_ground_within p0 (1:Int) (20:Int))
abbrev pre_ground_isConductivity (_p0:Int):List Prop := []
set_option maxHeartbeats 4000000 in
theorem d_ground_isConductivity (p0:Int) (K:Bool→Prop) (_hp:∀ p∈pre_ground_isConductivity p0,p) (h:K (s_ground_isConductivity p0)):w_ground_isConductivity p0 K := by
 unfold w_ground_isConductivity
 unfold s_ground_isConductivity at h
 exact h
abbrev con_ground_isConductivity:Con := ⟨P_ground_isConductivity,R_ground_isConductivity,fun x => pre_ground_isConductivity x,fun x => s_ground_isConductivity x⟩
theorem ok_ground_isConductivity:ConOk Try.prog 75 con_ground_isConductivity := ⟨k_ground_isConductivity,fun x hx => ret_tf (ps := P_ground_isConductivity) (rs := R_ground_isConductivity) (x := x) (y := s_ground_isConductivity x) e_ground_isConductivity hC_ground_isConductivity (tf_of (w_ground_isConductivity_eq x (fun z => z = s_ground_isConductivity x)) (d_ground_isConductivity x (fun z => z = s_ground_isConductivity x) hx rfl))⟩
/- ground_isThickness -/
def C_ground_isThickness:Cons := [(95,[],con_ground_within)]
theorem hC_ground_isThickness:ConsOk Try.prog C_ground_isThickness := ConsOk.cons ok_ground_within <| ConsOk.nil
def w_ground_isThickness (p0:Int) (K:Bool→Prop):Prop :=
  (K (s_ground_within p0 (0:Int) (10:Int)))
set_option maxHeartbeats 4000000 in
theorem w_ground_isThickness_eq (p0:Int) (K:Bool→Prop):tfn F_ground_isThickness A_ground_isThickness C_ground_isThickness P_ground_isThickness R_ground_isThickness p0 K = w_ground_isThickness p0 K := by kernel_rfl
def s_ground_isThickness (p0:Int):Bool :=
 (s_ground_within p0 (0:Int) (10:Int))
abbrev pre_ground_isThickness (_p0:Int):List Prop := []
set_option maxHeartbeats 4000000 in
theorem d_ground_isThickness (p0:Int) (K:Bool→Prop) (_hp:∀ p∈pre_ground_isThickness p0,p) (h:K (s_ground_isThickness p0)):w_ground_isThickness p0 K := by
 unfold w_ground_isThickness
 unfold s_ground_isThickness at h
 exact h
abbrev con_ground_isThickness:Con := ⟨P_ground_isThickness,R_ground_isThickness,fun x => pre_ground_isThickness x,fun x => s_ground_isThickness x⟩
theorem ok_ground_isThickness:ConOk Try.prog 76 con_ground_isThickness := ⟨k_ground_isThickness,fun x hx => ret_tf (ps := P_ground_isThickness) (rs := R_ground_isThickness) (x := x) (y := s_ground_isThickness x) e_ground_isThickness hC_ground_isThickness (tf_of (w_ground_isThickness_eq x (fun z => z = s_ground_isThickness x)) (d_ground_isThickness x (fun z => z = s_ground_isThickness x) hx rfl))⟩
/- ground_CheckModel -/
def C_ground_CheckModel:Cons := [(74,[],con_ground_unless),(73,[],con_ground_first),(75,[],con_ground_isConductivity),(76,[],con_ground_isThickness)]
theorem hC_ground_CheckModel:ConsOk Try.prog C_ground_CheckModel := ConsOk.cons ok_ground_unless <| ConsOk.cons ok_ground_first <| ConsOk.cons ok_ground_isConductivity <| ConsOk.cons ok_ground_isThickness <| ConsOk.nil
abbrev q0_ground_CheckModel (p0:(List (Int×Int))) (y1:Int) := (s_ground_within (p0.getD y1.toNat (zz0,zz0)).1 zz1 (20:Int))
abbrev q1_ground_CheckModel (p0:(List (Int×Int))) := ((s_ground_unless (decide ((p0.length:Int) > zz0)) (10:Int)) :: ((s_ground_unless (decide ((p0.length:Int)≤4)) (8:Int)) :: ([]:List Int)))
abbrev q2_ground_CheckModel (p0:(List (Int×Int))) (y1:Int) := (s_ground_unless (cond (q0_ground_CheckModel p0 y1) (s_ground_within (p0.getD y1.toNat (zz0,zz0)).2 zz0 (10:Int)) false) zz2)
def w_ground_CheckModel (p0:(List (Int×Int))) (K:(Int×Int)→Prop):Prop :=
  ((lenOk (q1_ground_CheckModel p0)) ∧
 (((((v_first (q1_ground_CheckModel p0)) != zz0)=true) →
 (K (zz0,(v_first (q1_ground_CheckModel p0))))) ∧
 ((((v_first (q1_ground_CheckModel p0)) != zz0)=false) →
 (∃ n0,(loopP (fun (y1:Int) k2 =>
   ((((decide (y1 < (p0.length:Int)))=true) →
   ((zz0≤y1) ∧
    ((y1 < (p0.length:Int)) ∧
    ((((q0_ground_CheckModel p0 y1)=true) →
    ((q0_ground_CheckModel p0 y1)=(q0_ground_CheckModel p0 y1))) ∧
    ((((q0_ground_CheckModel p0 y1)=true) →
    ((q0_ground_CheckModel p0 y1)=(q0_ground_CheckModel p0 y1))) ∧
    (((q0_ground_CheckModel p0 y1)=(q0_ground_CheckModel p0 y1)) ∧
    ((((!(y1 == (wi ((p0.length:Int) - zz1))))=false) →
    ((!(y1 == (wi ((p0.length:Int) - zz1))))=(!(y1 == (wi ((p0.length:Int) - zz1)))))) ∧
    ((((!(y1 == (wi ((p0.length:Int) - zz1))))=false) →
    ((!(y1 == (wi ((p0.length:Int) - zz1))))=(!(y1 == (wi ((p0.length:Int) - zz1)))))) ∧
    (((!(y1 == (wi ((p0.length:Int) - zz1))))=(!(y1 == (wi ((p0.length:Int) - zz1))))) ∧
    ((lenOk ((q2_ground_CheckModel p0 y1) :: ((s_ground_unless (cond (!(y1 == (wi ((p0.length:Int) - zz1)))) true ((p0.getD y1.toNat (zz0,zz0)).2 == zz0)) zz3) :: ([]:List Int)))) ∧
    (((((v_first ((q2_ground_CheckModel p0 y1) :: ((s_ground_unless (cond (!(y1 == (wi ((p0.length:Int) - zz1)))) true ((p0.getD y1.toNat (zz0,zz0)).2 == zz0)) zz3) :: ([]:List Int)))) != zz0)=true) →
    (K (y1,(v_first ((q2_ground_CheckModel p0 y1) :: ((s_ground_unless (cond (!(y1 == (wi ((p0.length:Int) - zz1)))) true ((p0.getD y1.toNat (zz0,zz0)).2 == zz0)) zz3) :: ([]:List Int))))))) ∧
    ((((v_first ((q2_ground_CheckModel p0 y1) :: ((s_ground_unless (cond (!(y1 == (wi ((p0.length:Int) - zz1)))) true ((p0.getD y1.toNat (zz0,zz0)).2 == zz0)) zz3) :: ([]:List Int)))) != zz0)=false) →
    (k2 (wi (y1 + zz1))))))))))))))) ∧
   (((decide (y1 < (p0.length:Int)))=false) →
   (K (zz0,zz0))))) n0 zz0)))))
set_option maxHeartbeats 4000000 in
theorem w_ground_CheckModel_eq (p0:(List (Int×Int))) (K:(Int×Int)→Prop):tfn F_ground_CheckModel A_ground_CheckModel C_ground_CheckModel P_ground_CheckModel R_ground_CheckModel p0 K = w_ground_CheckModel p0 K := by kernel_rfl
def st_ground_CheckModel_0 (p0:(List (Int×Int))) (y1:Int):Int ⊕ (Int×Int) :=
 (cond (decide (y1 < (p0.length:Int))) (cond ((v_first ((s_ground_unless (cond (s_ground_within (p0.getD y1.toNat ((0:Int),(0:Int))).1 (1:Int) (20:Int)) (s_ground_within (p0.getD y1.toNat ((0:Int),(0:Int))).2 (0:Int) (10:Int)) false) (2:Int)) :: ((s_ground_unless (cond (!(y1 == (IntKind.i64.wrap ((p0.length:Int) - 1)))) true ((p0.getD y1.toNat ((0:Int),(0:Int))).2 == 0)) (3:Int)) :: ([]:List Int)))) != 0) (Sum.inr (y1,(v_first ((s_ground_unless (cond (s_ground_within (p0.getD y1.toNat ((0:Int),(0:Int))).1 (1:Int) (20:Int)) (s_ground_within (p0.getD y1.toNat ((0:Int),(0:Int))).2 (0:Int) (10:Int)) false) (2:Int)) :: ((s_ground_unless (cond (!(y1 == (IntKind.i64.wrap ((p0.length:Int) - 1)))) true ((p0.getD y1.toNat ((0:Int),(0:Int))).2 == 0)) (3:Int)) :: ([]:List Int))))))
  (Sum.inl (IntKind.i64.wrap (y1 + 1))))
  (Sum.inr ((0:Int),(0:Int))))
abbrev sp_ground_CheckModel_0 (p0:(List (Int×Int))) (y1:Int):List Prop := [(((decide (y1 < (p0.length:Int)))=true)→((0:Int)≤y1)),
  (((decide (y1 < (p0.length:Int)))=true)→(y1 < (p0.length:Int)))]
def s_ground_CheckModel (p0:(List (Int×Int))):(Int×Int) :=
 (cond ((v_first ((s_ground_unless (decide ((p0.length:Int) > 0)) (10:Int)) :: ((s_ground_unless (decide ((p0.length:Int)≤4)) (8:Int)) :: ([]:List Int)))) != 0) ((0:Int),(v_first ((s_ground_unless (decide ((p0.length:Int) > 0)) (10:Int)) :: ((s_ground_unless (decide ((p0.length:Int)≤4)) (8:Int)) :: ([]:List Int)))))
  (lpv ((0:Int),(0:Int)) (st_ground_CheckModel_0 p0) (0:Int)))
abbrev pre_ground_CheckModel (p0:(List (Int×Int))):List Prop := [((((v_first ((s_ground_unless (decide ((p0.length:Int) > 0)) (10:Int)) :: ((s_ground_unless (decide ((p0.length:Int)≤4)) (8:Int)) :: ([]:List Int)))) != 0)=false)→(OkL (st_ground_CheckModel_0 p0) (sp_ground_CheckModel_0 p0) (0:Int)))]
set_option maxHeartbeats 4000000 in
theorem d_ground_CheckModel (p0:(List (Int×Int))) (K:(Int×Int)→Prop) (hp:∀ p∈pre_ground_CheckModel p0,p) (h:K (s_ground_CheckModel p0)):w_ground_CheckModel p0 K := by
 unfold w_ground_CheckModel
 unfold s_ground_CheckModel at h
 obtain ⟨hp0,_⟩ := conj_of hp
 exact ⟨(lenOk_of 2 rfl (by decide)),(br' h (fun e0 h => h)
  (fun e0 h => (loop_gen (hp0 e0) h (fun y1 k1 hp h => by
 unfold st_ground_CheckModel_0 at h; obtain ⟨hp0,hp1,_⟩ := conj_of hp
 exact (br' h (fun e2 h => ⟨(hp0 e2),(hp1 e2),rf,rf,rfl,rf,rf,rfl,(lenOk_of 2 rfl (by decide)),(br' h (fun e3 h => h)
  (fun e3 h => h))⟩)
  (fun e2 h => h))))))⟩
theorem l_ground_CheckModel_0 (p0:List (Int×Int)) (hl:p0.length≤4):OkL (st_ground_CheckModel_0 p0) (sp_ground_CheckModel_0 p0) 0∧lpv ((0,0):Int×Int) (st_ground_CheckModel_0 p0) 0 = v_scan (v_cm1 p0.length) (0,0) 0 p0 := by
 refine scan_is p0 (0,0) (v_cm1 p0.length) ((0,0):Int×Int) (lenOk_le hl (by decide)) ?_ ?_
 ·refine ⟨by simp only [sp_ground_CheckModel_0,List.forall_mem_cons,decide_eq_true_eq]; simp,by simp [st_ground_CheckModel_0]⟩
 ·intro j hj
  have hj' : (j:Int) < p0.length := by omega
  refine ⟨by simp only [sp_ground_CheckModel_0,List.forall_mem_cons,decide_eq_true_eq,Int.toNat_natCast]; simp [lenOk] <;> omega,?_⟩
  simp only [st_ground_CheckModel_0,hj',decide_true,Int.toNat_natCast,cond_true,wrap_nat (show (j:Int)≤9223372036854775806 by omega),v_cm1]
  rw [wrap_id (n := (p0.length:Int) - 1) (by omega) (by omega)]
  unfold s_ground_unless
  simp only [tx_withinG]
  cases s_base_Within (p0.getD j (0,0)).1 1 20 <;> cases s_base_Within (p0.getD j (0,0)).2 0 10 <;> cases ((j:Int) == (p0.length:Int) - 1) <;> cases ((p0.getD j (0,0)).2 == 0) <;> rfl
abbrev t_ground_CheckModel (p0:List (Int×Int)):Int×Int := v_cm p0
abbrev qre_ground_CheckModel (_p0:List (Int×Int)):List Prop := []
theorem tx_cmh {n:Int} (h:0≤n):v_first [s_ground_unless (decide (n > 0)) 10,s_ground_unless (decide (n≤4)) 8]=cond (n == 0) 10 (cond (decide (n > 4)) 8 0) := by
 unfold s_ground_unless
 rcases int0 n with ⟨h0,_,e0⟩ | ⟨h0,_,e0⟩
 ·subst h0; rfl
 ·rw [e0,decide_eq_true (show n > 0 by omega)]
  rcases dec0 (a := 4) (b := n) with ⟨_,_,_,e1,e2⟩ | ⟨_,_,_,e1,e2⟩ <;> rw [e1,e2] <;> rfl
theorem pp_ground_CheckModel (p0:List (Int×Int)) (_hq:∀ p∈qre_ground_CheckModel p0,p):∀ p∈pre_ground_CheckModel p0,p := by
 simp only [pre_ground_CheckModel,List.forall_mem_cons]
 refine ⟨fun h => ?_,by simp⟩
 rw [tx_cmh (by omega)] at h
 refine (l_ground_CheckModel_0 p0 ?_).1
 cases c:decide ((p0.length:Int) > 4)
 ·have := of_decide_eq_false c; omega
 ·rw [c] at h
  cases c2:((p0.length:Int) == 0) <;> rw [c2] at h <;> cases h
theorem tt_ground_CheckModel (p0:List (Int×Int)) (_hq:∀ p∈qre_ground_CheckModel p0,p):s_ground_CheckModel p0 = t_ground_CheckModel p0 := by
 unfold s_ground_CheckModel t_ground_CheckModel v_cm
 rw [tx_cmh (by omega)]
 cases h:decide ((p0.length:Int) > 4)
 ·rw [(l_ground_CheckModel_0 p0 (by have := of_decide_eq_false h; omega)).2]
  cases ((p0.length:Int) == 0) <;> rfl
 ·cases ((p0.length:Int) == 0) <;> rfl

abbrev con_ground_CheckModel:Con := ⟨P_ground_CheckModel,R_ground_CheckModel,fun x => qre_ground_CheckModel x,fun x => t_ground_CheckModel x⟩
theorem ok_ground_CheckModel:ConOk Try.prog 14 con_ground_CheckModel := ⟨k_ground_CheckModel,fun x hx => ret_tf (ps := P_ground_CheckModel) (rs := R_ground_CheckModel) (x := x) (y := t_ground_CheckModel x) e_ground_CheckModel hC_ground_CheckModel (tf_of (w_ground_CheckModel_eq x (fun z => z = t_ground_CheckModel x)) (d_ground_CheckModel x (fun z => z = t_ground_CheckModel x) (pp_ground_CheckModel x hx) (tt_ground_CheckModel x hx)))⟩
/- ground_modelErr -/
def C_ground_modelErr:Cons := [(14,[],con_ground_CheckModel)]
theorem hC_ground_modelErr:ConsOk Try.prog C_ground_modelErr := ConsOk.cons ok_ground_CheckModel <| ConsOk.nil
def w_ground_modelErr (p0:(List (Int×Int))) (K:Int→Prop):Prop :=
  (K (v_cm p0).2)
set_option maxHeartbeats 4000000 in
theorem w_ground_modelErr_eq (p0:(List (Int×Int))) (K:Int→Prop):tfn F_ground_modelErr A_ground_modelErr C_ground_modelErr P_ground_modelErr R_ground_modelErr p0 K = w_ground_modelErr p0 K := by kernel_rfl
def s_ground_modelErr (p0:(List (Int×Int))):Int :=
 (v_cm p0).2
abbrev pre_ground_modelErr (_p0:(List (Int×Int))):List Prop := []
set_option maxHeartbeats 4000000 in
theorem d_ground_modelErr (p0:(List (Int×Int))) (K:Int→Prop) (_hp:∀ p∈pre_ground_modelErr p0,p) (h:K (s_ground_modelErr p0)):w_ground_modelErr p0 K := by
 unfold w_ground_modelErr
 unfold s_ground_modelErr at h
 exact h
abbrev con_ground_modelErr:Con := ⟨P_ground_modelErr,R_ground_modelErr,fun x => pre_ground_modelErr x,fun x => s_ground_modelErr x⟩
theorem ok_ground_modelErr:ConOk Try.prog 77 con_ground_modelErr := ⟨k_ground_modelErr,fun x hx => ret_tf (ps := P_ground_modelErr) (rs := R_ground_modelErr) (x := x) (y := s_ground_modelErr x) e_ground_modelErr hC_ground_modelErr (tf_of (w_ground_modelErr_eq x (fun z => z = s_ground_modelErr x)) (d_ground_modelErr x (fun z => z = s_ground_modelErr x) hx rfl))⟩
/- ground_scaleErr -/
def C_ground_scaleErr:Cons := [(95,[],con_ground_within),(74,[],con_ground_unless)]
theorem hC_ground_scaleErr:ConsOk Try.prog C_ground_scaleErr := ConsOk.cons ok_ground_within <| ConsOk.cons ok_ground_unless <| ConsOk.nil
def w_ground_scaleErr (p0:Int) (K:Int→Prop):Prop :=
  (K (s_ground_unless (s_ground_within p0 (1:Int) (20:Int)) (2:Int)))
set_option maxHeartbeats 4000000 in
theorem w_ground_scaleErr_eq (p0:Int) (K:Int→Prop):tfn F_ground_scaleErr A_ground_scaleErr C_ground_scaleErr P_ground_scaleErr R_ground_scaleErr p0 K = w_ground_scaleErr p0 K := by kernel_rfl
def s_ground_scaleErr (p0:Int):Int :=
 (s_ground_unless (s_ground_within p0 (1:Int) (20:Int)) (2:Int))
abbrev pre_ground_scaleErr (_p0:Int):List Prop := []
set_option maxHeartbeats 4000000 in
theorem d_ground_scaleErr (p0:Int) (K:Int→Prop) (_hp:∀ p∈pre_ground_scaleErr p0,p) (h:K (s_ground_scaleErr p0)):w_ground_scaleErr p0 K := by
 unfold w_ground_scaleErr
 unfold s_ground_scaleErr at h
 exact h
abbrev con_ground_scaleErr:Con := ⟨P_ground_scaleErr,R_ground_scaleErr,fun x => pre_ground_scaleErr x,fun x => s_ground_scaleErr x⟩
theorem ok_ground_scaleErr:ConOk Try.prog 78 con_ground_scaleErr := ⟨k_ground_scaleErr,fun x hx => ret_tf (ps := P_ground_scaleErr) (rs := R_ground_scaleErr) (x := x) (y := s_ground_scaleErr x) e_ground_scaleErr hC_ground_scaleErr (tf_of (w_ground_scaleErr_eq x (fun z => z = s_ground_scaleErr x)) (d_ground_scaleErr x (fun z => z = s_ground_scaleErr x) hx rfl))⟩
/- slices_Backwardapi_GroundLayer_api_GroundLayer -/
def C_slices_Backwardapi_GroundLayer_api_GroundLayer:Cons := []
theorem hC_slices_Backwardapi_GroundLayer_api_GroundLayer:ConsOk Try.prog C_slices_Backwardapi_GroundLayer_api_GroundLayer := ConsOk.nil
def w_slices_Backwardapi_GroundLayer_api_GroundLayer (p0:(List (Int×Int))) (K:((List (Int×Int))×PUnit)→Prop):Prop :=
  (K (p0,()))
set_option maxHeartbeats 4000000 in
theorem w_slices_Backwardapi_GroundLayer_api_GroundLayer_eq (p0:(List (Int×Int))) (K:((List (Int×Int))×PUnit)→Prop):tfn F_slices_Backwardapi_GroundLayer_api_GroundLayer A_slices_Backwardapi_GroundLayer_api_GroundLayer C_slices_Backwardapi_GroundLayer_api_GroundLayer P_slices_Backwardapi_GroundLayer_api_GroundLayer R_slices_Backwardapi_GroundLayer_api_GroundLayer p0 K = w_slices_Backwardapi_GroundLayer_api_GroundLayer p0 K := by kernel_rfl
def s_slices_Backwardapi_GroundLayer_api_GroundLayer (p0:(List (Int×Int))):((List (Int×Int))×PUnit) :=
 (p0,())
abbrev pre_slices_Backwardapi_GroundLayer_api_GroundLayer (_p0:(List (Int×Int))):List Prop := []
set_option maxHeartbeats 4000000 in
theorem d_slices_Backwardapi_GroundLayer_api_GroundLayer (p0:(List (Int×Int))) (K:((List (Int×Int))×PUnit)→Prop) (_hp:∀ p∈pre_slices_Backwardapi_GroundLayer_api_GroundLayer p0,p) (h:K (s_slices_Backwardapi_GroundLayer_api_GroundLayer p0)):w_slices_Backwardapi_GroundLayer_api_GroundLayer p0 K := by
 unfold w_slices_Backwardapi_GroundLayer_api_GroundLayer
 unfold s_slices_Backwardapi_GroundLayer_api_GroundLayer at h
 exact h
abbrev con_slices_Backwardapi_GroundLayer_api_GroundLayer:Con := ⟨P_slices_Backwardapi_GroundLayer_api_GroundLayer,R_slices_Backwardapi_GroundLayer_api_GroundLayer,fun x => pre_slices_Backwardapi_GroundLayer_api_GroundLayer x,fun x => s_slices_Backwardapi_GroundLayer_api_GroundLayer x⟩
theorem ok_slices_Backwardapi_GroundLayer_api_GroundLayer:ConOk Try.prog 125 con_slices_Backwardapi_GroundLayer_api_GroundLayer := ⟨k_slices_Backwardapi_GroundLayer_api_GroundLayer,fun x hx => ret_tf (ps := P_slices_Backwardapi_GroundLayer_api_GroundLayer) (rs := R_slices_Backwardapi_GroundLayer_api_GroundLayer) (x := x) (y := s_slices_Backwardapi_GroundLayer_api_GroundLayer x) e_slices_Backwardapi_GroundLayer_api_GroundLayer hC_slices_Backwardapi_GroundLayer_api_GroundLayer (tf_of (w_slices_Backwardapi_GroundLayer_api_GroundLayer_eq x (fun z => z = s_slices_Backwardapi_GroundLayer_api_GroundLayer x)) (d_slices_Backwardapi_GroundLayer_api_GroundLayer x (fun z => z = s_slices_Backwardapi_GroundLayer_api_GroundLayer x) hx rfl))⟩
/- slices_Backwardapi_GroundLayer_api_GroundLayer_1 -/
abbrev con_slices_Backwardapi_GroundLayer_api_GroundLayer_1:Con := ⟨.fn 144 [.sl (.pr (.int .i64) (.int .i64))] :: .one (.int .i64) :: [.agg (.pr (.int .i64) (.int .i64))],[.one (.sl (tyPs (.one (.int .i64) :: [.agg (.pr (.int .i64) (.int .i64))])))],fun x => [x.1.1.length≤1000000],fun x => v_bwd 0 x.1.1⟩
theorem ok_slices_Backwardapi_GroundLayer_api_GroundLayer_1:ConIOk Try.prog 144 con_slices_Backwardapi_GroundLayer_api_GroundLayer_1 := by
 refine ⟨rfl,k_slices_Backwardapi_GroundLayer_api_GroundLayer_1,rfl,fun x hx => ?_⟩
 obtain ⟨h1,_⟩ := conj_of hx
 exact it_bwd (c := 2) (Ty.enc (.pr (.int .i64) (.int .i64))) e_slices_Backwardapi_GroundLayer_api_GroundLayer_1 (fun _ => rfl) x.1 false (Nat.le_trans h1 (by decide))
/- ground_reduced -/
def C_ground_reduced:Cons := [(145,[],con_ground_divisor)]
theorem hC_ground_reduced:ConsOk Try.prog C_ground_reduced := ConsOk.cons ok_ground_divisor <| ConsOk.nil
def w_ground_reduced (p0:Int) (p1:Int) (K:(Int×Int)→Prop):Prop :=
  ((((0:Int)≤p0) ∧
 (((0:Int) < p1) ∧
 (p1≤9223372036854775807))) ∧
 (((v_gcd p0 p1) ≠ (0:Int)) ∧
 (((v_gcd p0 p1) ≠ (0:Int)) ∧
 (K ((IntKind.i64.wrap (Int.tdiv p0 (v_gcd p0 p1))),(IntKind.i64.wrap (Int.tdiv p1 (v_gcd p0 p1))))))))
set_option maxHeartbeats 4000000 in
theorem w_ground_reduced_eq (p0:Int) (p1:Int) (K:(Int×Int)→Prop):tfn F_ground_reduced A_ground_reduced C_ground_reduced P_ground_reduced R_ground_reduced (p0,p1) K = w_ground_reduced p0 p1 K := by kernel_rfl
def s_ground_reduced (p0:Int) (p1:Int):(Int×Int) :=
 ((IntKind.i64.wrap (Int.tdiv p0 (v_gcd p0 p1))),(IntKind.i64.wrap (Int.tdiv p1 (v_gcd p0 p1))))
abbrev pre_ground_reduced (p0:Int) (p1:Int):List Prop := [(((0:Int)≤p0)∧(((0:Int) < p1)∧(p1≤9223372036854775807))),
  ((v_gcd p0 p1) ≠ (0:Int))]
set_option maxHeartbeats 4000000 in
theorem d_ground_reduced (p0:Int) (p1:Int) (K:(Int×Int)→Prop) (hp:∀ p∈pre_ground_reduced p0 p1,p) (h:K (s_ground_reduced p0 p1)):w_ground_reduced p0 p1 K := by
 unfold w_ground_reduced
 unfold s_ground_reduced at h
 obtain ⟨hp0,hp1,_⟩ := conj_of hp
 exact ⟨(hp0),(hp1),(hp1),h⟩
/-- A quotient of two numbers,in lowest terms. -/
def v_redu (a b:Int):Int×Int := v_frac ((a:Rat) / (b:Rat))
abbrev t_ground_reduced (p0 p1:Int):Int×Int := v_redu p0 p1
abbrev qre_ground_reduced (p0 p1:Int):List Prop := [(0≤p0∧p0≤9223372036854775807)∧0 < p1∧p1≤9223372036854775807]
theorem pp_ground_reduced (p0 p1:Int) (hq:∀ p∈qre_ground_reduced p0 p1,p):∀ p∈pre_ground_reduced p0 p1,p := by
 obtain ⟨h1,h2,h3⟩ := (conj_of hq).1
 simp only [pre_ground_reduced,List.forall_mem_cons]
 have := v_gcd_pos (a := p0) (b := p1) (by omega)
 exact ⟨⟨h1.1,h2,h3⟩,by omega,by simp⟩
theorem tt_ground_reduced (p0 p1:Int) (hq:∀ p∈qre_ground_reduced p0 p1,p):s_ground_reduced p0 p1 = t_ground_reduced p0 p1 := by
 obtain ⟨h1,h2,h3⟩ := (conj_of hq).1
 unfold s_ground_reduced t_ground_reduced v_redu
 rw [← v_low_frac h2]
 unfold v_low
 have hg := v_gcd_pos (a := p0) (b := p1) (by omega)
 simp only
 rw [Int.tdiv_eq_ediv_of_dvd (v_gcd_dvd_left _ _),Int.tdiv_eq_ediv_of_dvd (v_gcd_dvd_right _ _)]
 have b1 := Int.ediv_nonneg h1.1 (show 0≤v_gcd p0 p1 by omega)
 have b2 := Int.ediv_le_self (v_gcd p0 p1) h1.1
 have b3 := Int.ediv_nonneg (show 0≤p1 by omega) (show 0≤v_gcd p0 p1 by omega)
 have b4 := Int.ediv_le_self (v_gcd p0 p1) (show 0≤p1 by omega)
 rw [wrap_id (by omega) (by omega),wrap_id (by omega) (by omega)]

abbrev con_ground_reduced:Con := ⟨P_ground_reduced,R_ground_reduced,fun x => qre_ground_reduced x.1 x.2,fun x => t_ground_reduced x.1 x.2⟩
theorem ok_ground_reduced:ConOk Try.prog 126 con_ground_reduced := ⟨k_ground_reduced,fun x hx => ret_tf (ps := P_ground_reduced) (rs := R_ground_reduced) (x := x) (y := t_ground_reduced x.1 x.2) e_ground_reduced hC_ground_reduced (tf_of (w_ground_reduced_eq x.1 x.2 (fun z => z = t_ground_reduced x.1 x.2)) (d_ground_reduced x.1 x.2 (fun z => z = t_ground_reduced x.1 x.2) (pp_ground_reduced x.1 x.2 hx) (tt_ground_reduced x.1 x.2 hx)))⟩
/- ground_response -/
def C_ground_response:Cons := [(125,[],con_slices_Backwardapi_GroundLayer_api_GroundLayer),(144,itMark,con_slices_Backwardapi_GroundLayer_api_GroundLayer_1),(126,[],con_ground_reduced)]
theorem hC_ground_response:ConsOk Try.prog C_ground_response := ConsOk.cons ok_slices_Backwardapi_GroundLayer_api_GroundLayer <| ConsOk.consI ok_slices_Backwardapi_GroundLayer_api_GroundLayer_1 <| ConsOk.cons ok_ground_reduced <| ConsOk.nil
def w_ground_response (p0:(List (Int×Int))) (p1:Int) (K:(Int×Int)→Prop):Prop :=
  ((p0.length≤1000000) ∧
 (RngP (fun (y0:(Int×Int)) (z1:(Int×(Int×Int))) k2 =>
  ((((z1.1 == (IntKind.i64.wrap ((p0.length:Int) - 1)))=true) →
  (k2 (z1.2.1,(1:Int)))) ∧
  (((z1.1 == (IntKind.i64.wrap ((p0.length:Int) - 1)))=false) →
  (((((0:Int)≤(IntKind.i64.wrap (z1.2.1 * (IntKind.i64.wrap ((IntKind.i64.wrap (y0.1 * (IntKind.i64.wrap (z1.2.2 + p1)))) + (IntKind.i64.wrap ((IntKind.i64.wrap (z1.2.1 * z1.2.2)) * y0.2))))))) ∧
   ((IntKind.i64.wrap (z1.2.1 * (IntKind.i64.wrap ((IntKind.i64.wrap (y0.1 * (IntKind.i64.wrap (z1.2.2 + p1)))) + (IntKind.i64.wrap ((IntKind.i64.wrap (z1.2.1 * z1.2.2)) * y0.2))))))≤9223372036854775807)) ∧
   (((0:Int) < (IntKind.i64.wrap ((IntKind.i64.wrap ((IntKind.i64.wrap (z1.2.1 * y0.2)) * (IntKind.i64.wrap (z1.2.2 + p1)))) + (IntKind.i64.wrap (y0.1 * z1.2.2))))) ∧
   ((IntKind.i64.wrap ((IntKind.i64.wrap ((IntKind.i64.wrap (z1.2.1 * y0.2)) * (IntKind.i64.wrap (z1.2.2 + p1)))) + (IntKind.i64.wrap (y0.1 * z1.2.2))))≤9223372036854775807))) ∧
   (k2 (v_redu (IntKind.i64.wrap (z1.2.1 * (IntKind.i64.wrap ((IntKind.i64.wrap (y0.1 * (IntKind.i64.wrap (z1.2.2 + p1)))) + (IntKind.i64.wrap ((IntKind.i64.wrap (z1.2.1 * z1.2.2)) * y0.2)))))) (IntKind.i64.wrap ((IntKind.i64.wrap ((IntKind.i64.wrap (z1.2.1 * y0.2)) * (IntKind.i64.wrap (z1.2.2 + p1)))) + (IntKind.i64.wrap (y0.1 * z1.2.2))))))))))
  (fun (s3:(Int×Int)) => (K s3)) (v_bwd (0:Int) p0) ((0:Int),(0:Int))))
set_option maxHeartbeats 4000000 in
theorem w_ground_response_eq (p0:(List (Int×Int))) (p1:Int) (K:(Int×Int)→Prop):tfn F_ground_response A_ground_response C_ground_response P_ground_response R_ground_response (p0,p1) K = w_ground_response p0 p1 K := by kernel_rfl
def st_ground_response_0 (p0:(List (Int×Int))) (p1:Int) (y0:(Int×Int)) (z0:(Int×(Int×Int))):(Int×Int) ⊕ (Int×Int) :=
 (cond (z0.1 == (IntKind.i64.wrap ((p0.length:Int) - 1))) (Sum.inl (z0.2.1,(1:Int)))
  (Sum.inl (v_redu (IntKind.i64.wrap (z0.2.1 * (IntKind.i64.wrap ((IntKind.i64.wrap (y0.1 * (IntKind.i64.wrap (z0.2.2 + p1)))) + (IntKind.i64.wrap ((IntKind.i64.wrap (z0.2.1 * z0.2.2)) * y0.2)))))) (IntKind.i64.wrap ((IntKind.i64.wrap ((IntKind.i64.wrap (z0.2.1 * y0.2)) * (IntKind.i64.wrap (z0.2.2 + p1)))) + (IntKind.i64.wrap (y0.1 * z0.2.2)))))))
abbrev sp_ground_response_0 (p0:(List (Int×Int))) (p1:Int) (y0:(Int×Int)) (z0:(Int×(Int×Int))):List Prop := [(((z0.1 == (IntKind.i64.wrap ((p0.length:Int) - 1)))=false)→((((0:Int)≤(IntKind.i64.wrap (z0.2.1 * (IntKind.i64.wrap ((IntKind.i64.wrap (y0.1 * (IntKind.i64.wrap (z0.2.2 + p1)))) + (IntKind.i64.wrap ((IntKind.i64.wrap (z0.2.1 * z0.2.2)) * y0.2)))))))∧((IntKind.i64.wrap (z0.2.1 * (IntKind.i64.wrap ((IntKind.i64.wrap (y0.1 * (IntKind.i64.wrap (z0.2.2 + p1)))) + (IntKind.i64.wrap ((IntKind.i64.wrap (z0.2.1 * z0.2.2)) * y0.2))))))≤9223372036854775807))∧(((0:Int) < (IntKind.i64.wrap ((IntKind.i64.wrap ((IntKind.i64.wrap (z0.2.1 * y0.2)) * (IntKind.i64.wrap (z0.2.2 + p1)))) + (IntKind.i64.wrap (y0.1 * z0.2.2)))))∧((IntKind.i64.wrap ((IntKind.i64.wrap ((IntKind.i64.wrap (z0.2.1 * y0.2)) * (IntKind.i64.wrap (z0.2.2 + p1)))) + (IntKind.i64.wrap (y0.1 * z0.2.2))))≤9223372036854775807))))]
def sf_ground_response_0 (_p0:(List (Int×Int))) (_p1:Int) (s0:(Int×Int)):(Int×Int) :=
 s0
abbrev sq_ground_response_0 (_p0:(List (Int×Int))) (_p1:Int) (_s0:(Int×Int)):List Prop := []
def s_ground_response (p0:(List (Int×Int))) (p1:Int):(Int×Int) :=
 (rngV (st_ground_response_0 p0 p1) (sf_ground_response_0 p0 p1) (v_bwd (0:Int) p0) ((0:Int),(0:Int)))
abbrev pre_ground_response (p0:(List (Int×Int))) (p1:Int):List Prop := [(p0.length≤1000000),
  (OkR (st_ground_response_0 p0 p1) (sp_ground_response_0 p0 p1) (sq_ground_response_0 p0 p1) (v_bwd (0:Int) p0) ((0:Int),(0:Int)))]
set_option maxHeartbeats 4000000 in
theorem d_ground_response (p0:(List (Int×Int))) (p1:Int) (K:(Int×Int)→Prop) (hp:∀ p∈pre_ground_response p0 p1,p) (h:K (s_ground_response p0 p1)):w_ground_response p0 p1 K := by
 unfold w_ground_response
 unfold s_ground_response at h
 obtain ⟨hp0,hp1,_⟩ := conj_of hp
 exact ⟨(hp0),(rng_gen (hp1) h (fun y0 z0 k0 hp h => by
 unfold st_ground_response_0 at h; obtain ⟨hp0,_⟩ := conj_of hp
 exact (br' h (fun e1 h => h)
  (fun e1 h => ⟨(hp0 e1),h⟩))) (fun s0 hp h => by
 unfold sf_ground_response_0 at h
 exact h))⟩
/-- Whether a model is valid,and a scale. -/
structure v_mok (l:List (Int×Int)):Prop where
 ne:l ≠ []
 len:l.length≤4
 ok:∀ x∈l,v_lok x
 last:∀ (a:List (Int×Int)) (x:Int×Int),l = a ++ [x]→x.2 = 0
abbrev v_sok (s:Int):Prop := 1≤s∧s≤20
/-- The parts of the response of n + 1 layers are at most so great. -/
theorem v_resp_parts {s:Int} (hs:v_sok s):∀ {l:List (Int×Int)},l ≠ []→(∀ x∈l,v_lok x)→(v_frac (v_resp s l)).2≤800 ^ (l.length - 1)
 | [],h,_ => absurd rfl h
 | [x],_,_ => by
  have e:(v_frac (v_resp s [x])).2 = 1 := rfl
  rw [e]
  show (1:Int)≤800 ^ 0
  decide
 | x :: y :: r,_,hk => by
  rw [v_resp_c s x (by simp)]
  have ih := v_resp_parts hs (l := y :: r) (by simp) (fun z hz => hk z (List.mem_cons_of_mem _ hz))
  have h1 := v_resp_1le (s := s) (l := y :: r) (by omega) (by simp) (fun z hz => hk z (List.mem_cons_of_mem _ hz))
  have h2 := v_resp_le20 (s := s) (l := y :: r) (by omega) (by simp) (fun z hz => hk z (List.mem_cons_of_mem _ hz))
  obtain ⟨p1,p2,p3,p4,p5,_⟩ := v_step_parts hs (hk x (by simp)) h1 h2 ih
  rw [p5]
  have := (v_frac_le p3 p1).2.2
  have e:(800:Int) ^ ((x :: y :: r).length - 1)=800 * 800 ^ ((y :: r).length - 1) := by
   rw [List.length_cons,Nat.add_sub_cancel,show (y :: r).length = (y :: r).length - 1 + 1 by simp,Int.pow_succ,Int.mul_comm]; simp
  rw [e]; omega
theorem v_pow800 {n:Nat} (h:n≤3):(800:Int) ^ n≤512000000 := by
 match n,h with
 | 0,_ | 1,_ | 2,_ | 3,_ => decide
theorem v_resp_small {s:Int} (hs:v_sok s) {l:List (Int×Int)} (h:v_mok l):1≤(v_frac (v_resp s l)).2∧(v_frac (v_resp s l)).2≤512000000∧0 < (v_frac (v_resp s l)).1∧(v_frac (v_resp s l)).1≤20 * (v_frac (v_resp s l)).2 := by
 have h1 := v_resp_parts hs h.ne h.ok
 have h2 := v_pow800 (n := l.length - 1) (by have := h.len; omega)
 have h3 := v_frac_pos (v_resp s l)
 have h4 := v_rle_frac.1 (v_resp_le20 (s := s) (by omega) h.ne h.ok)
 have h5 := v_rle_frac.1 (v_resp_1le (s := s) (by omega) h.ne h.ok)
 have e4:v_frac 20 = (20,1) := rfl
 have e5:v_frac 1 = (1,1) := rfl
 rw [e4] at h4
 rw [e5] at h5
 simp only at h4 h5
 omega
/-- What is carried from below. -/
def v_rst (s:Int):List (Int×Int)→Int×Int
 | [] => (0,0)
 | x :: r => v_frac (v_resp s (x :: r))
theorem l_ground_response_0 (p0:List (Int×Int)) (p1:Int) (hm:v_mok p0) (hs:v_sok p1):OkR (st_ground_response_0 p0 p1) (sp_ground_response_0 p0 p1) (sq_ground_response_0 p0 p1) (v_bwd 0 p0) (0,0)∧rngV (st_ground_response_0 p0 p1) (sf_ground_response_0 p0 p1) (v_bwd 0 p0) (0,0)=v_rst p1 p0 := by
 have hl := hm.len
 refine rng_bwd (v_rst p1) p0 ?_ (by simp [sq_ground_response_0])
 intro a x r e
 have hlen:p0.length = a.length + 1 + r.length := by rw [e]; simp; omega
 have hw:IntKind.i64.wrap ((p0.length:Int) - 1)=(p0.length:Int) - 1 := wrap_id (by omega) (by omega)
 have hx:v_lok x := hm.ok x (by rw [e]; simp)
 simp only [sp_ground_response_0,st_ground_response_0,hw,List.forall_mem_cons]
 cases r with
 | nil =>
  have:((a.length:Int) == (p0.length:Int) - 1)=true := by rw [beq_iff_eq,hlen]; simp only [List.length_nil]; omega
  rw [this]
  refine ⟨by simp,?_⟩
  simp only [cond_true]
  rfl
 | cons y r =>
  have:((a.length:Int) == (p0.length:Int) - 1)=false := by rw [beq_eq_false_iff_ne,hlen]; simp only [List.length_cons]; omega
  rw [this]
  have hk:∀ z∈y :: r,v_lok z := fun z hz => hm.ok z (by rw [e]; simp at hz ⊢; rcases hz with h | h <;> simp [h])
  have h1 := v_resp_1le (s := p1) (l := y :: r) (by omega) (by simp) hk
  have h2 := v_resp_le20 (s := p1) (l := y :: r) (by omega) (by simp) hk
  have h3 := v_resp_parts hs (l := y :: r) (by simp) hk
  have h4:(v_frac (v_resp p1 (y :: r))).2≤640000 := by
   have:(y :: r).length - 1≤2 := by have := hlen; simp only [List.length_cons] at this ⊢; omega
   have:(800:Int) ^ ((y :: r).length - 1)≤640000 := by
    match (y :: r).length - 1,this with
    | 0,_ | 1,_ | 2,_ => decide
   omega
  obtain ⟨q1,q2,q3,q4,q5,q6,q7⟩ := v_step_parts hs hx h1 h2 h4
  have hp := v_frac_pos (v_resp p1 (y :: r))
  have e2:v_rst p1 (y :: r)=v_frac (v_resp p1 (y :: r)) := rfl
  have e3:v_rst p1 (x :: y :: r)=v_frac (v_step p1 x (v_resp p1 (y :: r))) := by
   show v_frac (v_resp p1 (x :: y :: r))=_
   rw [v_resp_c p1 x (by simp)]
  rw [e2,e3,q5]
  simp only [w_add_l,w_add_r,w_mul_l,w_mul_r]
  generalize (v_frac (v_resp p1 (y :: r))).1 = N at *
  generalize (v_frac (v_resp p1 (y :: r))).2 = M at *
  have w1:IntKind.i64.wrap (x.1 * (N * (x.2 + p1) + x.1 * x.2 * M))=x.1 * (N * (x.2 + p1) + x.1 * x.2 * M) := wrap_id (by omega) (by omega)
  have w2:IntKind.i64.wrap (x.1 * M * (x.2 + p1) + N * x.2)=x.1 * M * (x.2 + p1) + N * x.2 := wrap_id (by omega) (by omega)
  rw [w1,w2]
  refine ⟨⟨fun _ => ⟨⟨q3,by omega⟩,q1,by omega⟩,by simp⟩,rfl⟩
abbrev t_ground_response (p0:List (Int×Int)) (p1:Int):Int×Int := v_frac (v_resp p1 p0)
abbrev qre_ground_response (p0:List (Int×Int)) (p1:Int):List Prop := [v_mok p0,v_sok p1]
theorem pp_ground_response (p0:List (Int×Int)) (p1:Int) (hq:∀ p∈qre_ground_response p0 p1,p):∀ p∈pre_ground_response p0 p1,p := by
 obtain ⟨h1,h2,_⟩ := conj_of hq
 simp only [pre_ground_response,List.forall_mem_cons]
 exact ⟨by have := h1.len; omega,(l_ground_response_0 p0 p1 h1 h2).1,by simp⟩
theorem tt_ground_response (p0:List (Int×Int)) (p1:Int) (hq:∀ p∈qre_ground_response p0 p1,p):s_ground_response p0 p1 = t_ground_response p0 p1 := by
 obtain ⟨h1,h2,_⟩ := conj_of hq
 refine (l_ground_response_0 p0 p1 h1 h2).2.trans ?_
 cases p0 with
 | nil => exact absurd rfl h1.ne
 | cons x r => rfl

abbrev con_ground_response:Con := ⟨P_ground_response,R_ground_response,fun x => qre_ground_response x.1 x.2,fun x => t_ground_response x.1 x.2⟩
theorem ok_ground_response:ConOk Try.prog 79 con_ground_response := ⟨k_ground_response,fun x hx => ret_tf (ps := P_ground_response) (rs := R_ground_response) (x := x) (y := t_ground_response x.1 x.2) e_ground_response hC_ground_response (tf_of (w_ground_response_eq x.1 x.2 (fun z => z = t_ground_response x.1 x.2)) (d_ground_response x.1 x.2 (fun z => z = t_ground_response x.1 x.2) (pp_ground_response x.1 x.2 hx) (tt_ground_response x.1 x.2 hx)))⟩
/- ground_quotient_frac -/
/- ground_ResponseAt -/
theorem tx_cm_ok {l:List (Int×Int)} (h:(v_cm l).2 = 0):v_mok l := by
 unfold v_cm at h
 rcases int0 (l.length:Int) with ⟨_,_,e0⟩ | ⟨h0,_,e0⟩
 ·rw [e0] at h; cases h
 rw [e0] at h
 rcases dec0 (a := 4) (b := (l.length:Int)) with ⟨_,_,_,_,e1⟩ | ⟨h1,_,_,_,e1⟩
 ·rw [e1] at h; cases h
 rw [e1] at h
 simp only [cond_false] at h
 have key := v_scan_end (f := v_cm1 l.length) (e := ((0,0):Int×Int)) (P := fun (r:Int×Int) => r.2 = 0) l 0 h (fun j x v _ hv hv0 => by
  unfold v_cm1 at hv
  cases c1:cond (s_base_Within x.1 1 20) (s_base_Within x.2 0 10) false <;> rw [c1] at hv
  ·simp only [cond_false,Option.some.injEq] at hv; subst hv; cases hv0
  ·cases c2:cond (j == (l.length:Int) - 1) (x.2 == 0) true <;> rw [c2] at hv
   ·simp only [cond_true,cond_false,Option.some.injEq] at hv; subst hv; cases hv0
   ·cases hv)
 have hk:∀ k,(hk:k < l.length)→v_lok l[k]∧(k + 1 = l.length→l[k].2 = 0) := by
  intro k hk
  have h := key k hk
  unfold v_cm1 at h
  cases c1:cond (s_base_Within l[k].1 1 20) (s_base_Within l[k].2 0 10) false <;> rw [c1] at h
  ·cases h
  ·cases c2:cond (0 + (k:Int) == (l.length:Int) - 1) (l[k].2 == 0) true <;> rw [c2] at h
   ·cases h
   ·have c1' : s_base_Within l[k].1 1 20 = true∧s_base_Within l[k].2 0 10 = true := by
     cases g1:s_base_Within l[k].1 1 20 <;> cases g2:s_base_Within l[k].2 0 10 <;> simp_all
    refine ⟨⟨tx_within.1 c1'.1,tx_within.1 c1'.2⟩,fun e => ?_⟩
    have:(0 + (k:Int) == (l.length:Int) - 1)=true := by rw [beq_iff_eq]; omega
    rw [this] at c2
    simpa using c2
 refine ⟨by rintro rfl; exact h0 rfl,by omega,fun x hx => ?_,fun a x e => ?_⟩
 ·obtain ⟨k,hk1,rfl⟩ := List.getElem_of_mem hx
  exact (hk k hk1).1
 ·have := (hk a.length (by rw [e]; simp)).2 (by rw [e]; simp)
  simpa [e] using this
theorem tx_first2 {x y:Int}:v_first [x,y]=cond (x != 0) x y := by
 simp only [v_first]
 cases h:(x != 0)
 ·cases h2:(y != 0)
  ·simp at h2; subst h2; rfl
  ·rfl
 ·rfl
theorem tx_first1 {x y:Int} (h:(v_first [x,y] != 0)=false):x = 0∧y = 0 := by
 rw [tx_first2] at h
 rcases int0 x with ⟨h0,e,_⟩ | ⟨h0,e,_⟩
 ·rw [e] at h; exact ⟨h0,by simpa using h⟩
 ·rw [e] at h; simp only [cond_true] at h; rw [e] at h; cases h
/- ground_listErr__ground_isConductivity -/
def C_ground_listErr__ground_isConductivity:Cons := [(75,[],con_ground_isConductivity),(74,[],con_ground_unless),(73,[],con_ground_first)]
theorem hC_ground_listErr__ground_isConductivity:ConsOk Try.prog C_ground_listErr__ground_isConductivity := ConsOk.cons ok_ground_isConductivity <| ConsOk.cons ok_ground_unless <| ConsOk.cons ok_ground_first <| ConsOk.nil
def w_ground_listErr__ground_isConductivity (p0:(List Int)) (_p1:PUnit) (K:Int→Prop):Prop :=
  (∃ n0,(loopP (fun (y1:Int) k2 =>
  ((((decide (y1 < (p0.length:Int)))=true) →
  (((0:Int)≤y1) ∧
   ((y1 < (p0.length:Int)) ∧
   ((((y1 == 0)=false) →
   ((y1 == 0)=(y1 == 0))) ∧
   ((((y1 == 0)=false) →
   ((y1 == 0)=(y1 == 0))) ∧
   ((((y1 == 0)=false) →
   ((y1 == 0)=(y1 == 0))) ∧
   ((((y1 == 0)=false) →
   ((y1 == 0)=(y1 == 0))) ∧
   ((((y1 == 0)=false) →
   ((0:Int)≤(max (0:Int) (IntKind.i64.wrap (y1 - 1))))) ∧
   ((((y1 == 0)=false) →
   ((max (0:Int) (IntKind.i64.wrap (y1 - 1))) < (p0.length:Int))) ∧
   ((((y1 == 0)=false) →
   ((y1 == 0)=(y1 == 0))) ∧
   ((((y1 == 0)=false) →
   ((y1 == 0)=(y1 == 0))) ∧
   ((((y1 == 0)=false) →
   ((y1 == 0)=(y1 == 0))) ∧
   (((y1 == 0)=(y1 == 0)) ∧
   ((lenOk ((s_ground_unless (s_ground_within (p0.getD y1.toNat (0:Int)) (1:Int) (20:Int)) (2:Int)) :: ((s_ground_unless (cond (y1 == 0) true (decide ((p0.getD y1.toNat (0:Int)) > (p0.getD (Int.toNat (max (0:Int) (IntKind.i64.wrap (y1 - 1)))) (0:Int))))) (9:Int)) :: ([]:List Int)))) ∧
   (((((v_first ((s_ground_unless (s_ground_within (p0.getD y1.toNat (0:Int)) (1:Int) (20:Int)) (2:Int)) :: ((s_ground_unless (cond (y1 == 0) true (decide ((p0.getD y1.toNat (0:Int)) > (p0.getD (Int.toNat (max (0:Int) (IntKind.i64.wrap (y1 - 1)))) (0:Int))))) (9:Int)) :: ([]:List Int)))) != 0)=true) →
   (K (v_first ((s_ground_unless (s_ground_within (p0.getD y1.toNat (0:Int)) (1:Int) (20:Int)) (2:Int)) :: ((s_ground_unless (cond (y1 == 0) true (decide ((p0.getD y1.toNat (0:Int)) > (p0.getD (Int.toNat (max (0:Int) (IntKind.i64.wrap (y1 - 1)))) (0:Int))))) (9:Int)) :: ([]:List Int)))))) ∧
   ((((v_first ((s_ground_unless (s_ground_within (p0.getD y1.toNat (0:Int)) (1:Int) (20:Int)) (2:Int)) :: ((s_ground_unless (cond (y1 == 0) true (decide ((p0.getD y1.toNat (0:Int)) > (p0.getD (Int.toNat (max (0:Int) (IntKind.i64.wrap (y1 - 1)))) (0:Int))))) (9:Int)) :: ([]:List Int)))) != 0)=false) →
   (k2 (IntKind.i64.wrap (y1 + 1))))))))))))))))))) ∧
  (((decide (y1 < (p0.length:Int)))=false) →
  (K (0:Int))))) n0 (0:Int)))
set_option maxHeartbeats 4000000 in
theorem w_ground_listErr__ground_isConductivity_eq (p0:(List Int)) (p1:PUnit) (K:Int→Prop):tfn F_ground_listErr__ground_isConductivity A_ground_listErr__ground_isConductivity C_ground_listErr__ground_isConductivity P_ground_listErr__ground_isConductivity R_ground_listErr__ground_isConductivity (p0,p1) K = w_ground_listErr__ground_isConductivity p0 p1 K := by kernel_rfl
def st_ground_listErr__ground_isConductivity_0 (p0:(List Int)) (_p1:PUnit) (y0:Int):Int ⊕ Int :=
 (cond (decide (y0 < (p0.length:Int))) (cond ((v_first ((s_ground_unless (s_ground_within (p0.getD y0.toNat (0:Int)) (1:Int) (20:Int)) (2:Int)) :: ((s_ground_unless (cond (y0 == 0) true (decide ((p0.getD y0.toNat (0:Int)) > (p0.getD (Int.toNat (max (0:Int) (IntKind.i64.wrap (y0 - 1)))) (0:Int))))) (9:Int)) :: ([]:List Int)))) != 0) (Sum.inr (v_first ((s_ground_unless (s_ground_within (p0.getD y0.toNat (0:Int)) (1:Int) (20:Int)) (2:Int)) :: ((s_ground_unless (cond (y0 == 0) true (decide ((p0.getD y0.toNat (0:Int)) > (p0.getD (Int.toNat (max (0:Int) (IntKind.i64.wrap (y0 - 1)))) (0:Int))))) (9:Int)) :: ([]:List Int)))))
  (Sum.inl (IntKind.i64.wrap (y0 + 1))))
  (Sum.inr (0:Int)))
abbrev sp_ground_listErr__ground_isConductivity_0 (p0:(List Int)) (_p1:PUnit) (y0:Int):List Prop := [(((decide (y0 < (p0.length:Int)))=true)→((0:Int)≤y0)),
  (((decide (y0 < (p0.length:Int)))=true)→(y0 < (p0.length:Int))),
  (((decide (y0 < (p0.length:Int)))=true)→(((y0 == 0)=false)→((0:Int)≤(max (0:Int) (IntKind.i64.wrap (y0 - 1)))))),
  (((decide (y0 < (p0.length:Int)))=true)→(((y0 == 0)=false)→((max (0:Int) (IntKind.i64.wrap (y0 - 1))) < (p0.length:Int))))]
def s_ground_listErr__ground_isConductivity (p0:(List Int)) (p1:PUnit):Int :=
 (lpv (0:Int) (st_ground_listErr__ground_isConductivity_0 p0 p1) (0:Int))
abbrev pre_ground_listErr__ground_isConductivity (p0:(List Int)) (p1:PUnit):List Prop := [(OkL (st_ground_listErr__ground_isConductivity_0 p0 p1) (sp_ground_listErr__ground_isConductivity_0 p0 p1) (0:Int))]
set_option maxHeartbeats 4000000 in
theorem d_ground_listErr__ground_isConductivity (p0:(List Int)) (p1:PUnit) (K:Int→Prop) (hp:∀ p∈pre_ground_listErr__ground_isConductivity p0 p1,p) (h:K (s_ground_listErr__ground_isConductivity p0 p1)):w_ground_listErr__ground_isConductivity p0 p1 K := by
 unfold w_ground_listErr__ground_isConductivity
 unfold s_ground_listErr__ground_isConductivity at h
 obtain ⟨hp0,_⟩ := conj_of hp
 exact (loop_gen (hp0) h (fun y0 k0 hp h => by
 unfold st_ground_listErr__ground_isConductivity_0 at h; obtain ⟨hp0,hp1,hp2,hp3,_⟩ := conj_of hp
 exact (br' h (fun e1 h => ⟨(hp0 e1),(hp1 e1),rf,rf,rf,rf,(hp2 e1),(hp3 e1),rf,rf,rf,rfl,(lenOk_of 2 rfl (by decide)),(br' h (fun e2 h => h)
  (fun e2 h => h))⟩)
  (fun e1 h => h))))
/-- What is wrong with an ascending list of numbers within bounds. -/
def v_ls1 (lo hi:Int) (l:List Int) (i:Int) (n:Int):Option Int := cond (s_base_Within n lo hi) (cond (cond (i == 0) true (decide (n > l.getD (i - 1).toNat 0))) none (some 9)) (some 2)
def v_ls (lo hi:Int) (l:List Int):Int := v_scan (v_ls1 lo hi l) 0 0 l
theorem v_first_c (x:Int) (r:List Int):v_first (x :: r)=cond (x != 0) x (v_first r) := rfl
theorem v_first_1 (x:Int):v_first [x]=x := by
 rw [v_first_c]
 rcases int0 x with ⟨h,e,_⟩ | ⟨h,e,_⟩ <;> rw [e]
 ·rw [h]; rfl
 ·rfl
theorem l_ground_listErr__ground_isConductivity_0 (p0:List Int) (p1:PUnit) (hl:lenOk p0):OkL (st_ground_listErr__ground_isConductivity_0 p0 p1) (sp_ground_listErr__ground_isConductivity_0 p0 p1) 0∧lpv (0:Int) (st_ground_listErr__ground_isConductivity_0 p0 p1) 0 = v_scan (v_ls1 1 20 p0) (0:Int) 0 p0 := by
 refine scan_is p0 0 (v_ls1 1 20 p0) (0:Int) hl ?_ ?_
 ·refine ⟨by simp only [sp_ground_listErr__ground_isConductivity_0,List.forall_mem_cons,decide_eq_true_eq]; simp,by simp [st_ground_listErr__ground_isConductivity_0]⟩
 ·intro j hj
  have hj' : (j:Int) < p0.length := by omega
  have hw := wrap_nat (show (j:Int)≤9223372036854775806 by unfold lenOk at hl; omega)
  have hw2:IntKind.i64.wrap ((j:Int) - 1)=(j:Int) - 1 := wrap_id (by omega) (by unfold lenOk at hl; omega)
  refine ⟨by simp only [sp_ground_listErr__ground_isConductivity_0,List.forall_mem_cons,decide_eq_true_eq,Int.toNat_natCast]; rw [hw2]; and_intros <;> first | (intro p hp; cases hp; done) | (intros; first | omega | (simp_all; done) | (simp_all; omega)),?_⟩
  simp only [st_ground_listErr__ground_isConductivity_0,hj',decide_true,Int.toNat_natCast,cond_true,hw]
  unfold v_ls1
  simp only [tx_unless,tx_first2,tx_withinG]
  rcases Nat.eq_zero_or_pos j with h0 | h0
  ·subst h0
   cases s_base_Within (p0.getD 0 0) 1 20 <;> rfl
  ·have hz:((j:Int) == 0)=false := beq_eq_false_iff_ne.2 (by omega)
   have hm:(max 0 ((j:Int) - 1)).toNat = ((j:Int) - 1).toNat := by rw [Int.max_eq_right (by omega)]
   rw [hz,hw2,hm]
   cases s_base_Within (p0.getD j 0) 1 20 <;> cases decide (p0.getD j 0 > p0.getD ((j:Int) - 1).toNat 0) <;> rfl
abbrev t_ground_listErr__ground_isConductivity (p0:List Int) (_p1:PUnit):Int := v_ls 1 20 p0
abbrev qre_ground_listErr__ground_isConductivity (p0:List Int) (_p1:PUnit):List Prop := [lenOk p0]
theorem pp_ground_listErr__ground_isConductivity (p0:List Int) (p1:PUnit) (hq:∀ p∈qre_ground_listErr__ground_isConductivity p0 p1,p):∀ p∈pre_ground_listErr__ground_isConductivity p0 p1,p := by
 obtain ⟨h1,_⟩ := conj_of hq
 simp only [pre_ground_listErr__ground_isConductivity,List.forall_mem_cons]
 exact ⟨(l_ground_listErr__ground_isConductivity_0 p0 p1 h1).1,(by intro p hp; cases hp)⟩
theorem tt_ground_listErr__ground_isConductivity (p0:List Int) (p1:PUnit) (hq:∀ p∈qre_ground_listErr__ground_isConductivity p0 p1,p):s_ground_listErr__ground_isConductivity p0 p1 = t_ground_listErr__ground_isConductivity p0 p1 := by
 obtain ⟨h1,_⟩ := conj_of hq
 exact (l_ground_listErr__ground_isConductivity_0 p0 p1 h1).2

abbrev con_ground_listErr__ground_isConductivity:Con := ⟨P_ground_listErr__ground_isConductivity,R_ground_listErr__ground_isConductivity,fun x => qre_ground_listErr__ground_isConductivity x.1 x.2,fun x => t_ground_listErr__ground_isConductivity x.1 x.2⟩
theorem ok_ground_listErr__ground_isConductivity:ConOk Try.prog 91 con_ground_listErr__ground_isConductivity := ⟨k_ground_listErr__ground_isConductivity,fun x hx => ret_tf (ps := P_ground_listErr__ground_isConductivity) (rs := R_ground_listErr__ground_isConductivity) (x := x) (y := t_ground_listErr__ground_isConductivity x.1 x.2) e_ground_listErr__ground_isConductivity hC_ground_listErr__ground_isConductivity (tf_of (w_ground_listErr__ground_isConductivity_eq x.1 x.2 (fun z => z = t_ground_listErr__ground_isConductivity x.1 x.2)) (d_ground_listErr__ground_isConductivity x.1 x.2 (fun z => z = t_ground_listErr__ground_isConductivity x.1 x.2) (pp_ground_listErr__ground_isConductivity x.1 x.2 hx) (tt_ground_listErr__ground_isConductivity x.1 x.2 hx)))⟩
/- ground_listErr__ground_isThickness -/
def C_ground_listErr__ground_isThickness:Cons := [(76,[],con_ground_isThickness),(74,[],con_ground_unless),(73,[],con_ground_first)]
theorem hC_ground_listErr__ground_isThickness:ConsOk Try.prog C_ground_listErr__ground_isThickness := ConsOk.cons ok_ground_isThickness <| ConsOk.cons ok_ground_unless <| ConsOk.cons ok_ground_first <| ConsOk.nil
def w_ground_listErr__ground_isThickness (p0:(List Int)) (_p1:PUnit) (K:Int→Prop):Prop :=
  (∃ n0,(loopP (fun (y1:Int) k2 =>
  ((((decide (y1 < (p0.length:Int)))=true) →
  (((0:Int)≤y1) ∧
   ((y1 < (p0.length:Int)) ∧
   ((((y1 == 0)=false) →
   ((y1 == 0)=(y1 == 0))) ∧
   ((((y1 == 0)=false) →
   ((y1 == 0)=(y1 == 0))) ∧
   ((((y1 == 0)=false) →
   ((y1 == 0)=(y1 == 0))) ∧
   ((((y1 == 0)=false) →
   ((y1 == 0)=(y1 == 0))) ∧
   ((((y1 == 0)=false) →
   ((0:Int)≤(max (0:Int) (IntKind.i64.wrap (y1 - 1))))) ∧
   ((((y1 == 0)=false) →
   ((max (0:Int) (IntKind.i64.wrap (y1 - 1))) < (p0.length:Int))) ∧
   ((((y1 == 0)=false) →
   ((y1 == 0)=(y1 == 0))) ∧
   ((((y1 == 0)=false) →
   ((y1 == 0)=(y1 == 0))) ∧
   ((((y1 == 0)=false) →
   ((y1 == 0)=(y1 == 0))) ∧
   (((y1 == 0)=(y1 == 0)) ∧
   ((lenOk ((s_ground_unless (s_ground_within (p0.getD y1.toNat (0:Int)) (0:Int) (10:Int)) (2:Int)) :: ((s_ground_unless (cond (y1 == 0) true (decide ((p0.getD y1.toNat (0:Int)) > (p0.getD (Int.toNat (max (0:Int) (IntKind.i64.wrap (y1 - 1)))) (0:Int))))) (9:Int)) :: ([]:List Int)))) ∧
   (((((v_first ((s_ground_unless (s_ground_within (p0.getD y1.toNat (0:Int)) (0:Int) (10:Int)) (2:Int)) :: ((s_ground_unless (cond (y1 == 0) true (decide ((p0.getD y1.toNat (0:Int)) > (p0.getD (Int.toNat (max (0:Int) (IntKind.i64.wrap (y1 - 1)))) (0:Int))))) (9:Int)) :: ([]:List Int)))) != 0)=true) →
   (K (v_first ((s_ground_unless (s_ground_within (p0.getD y1.toNat (0:Int)) (0:Int) (10:Int)) (2:Int)) :: ((s_ground_unless (cond (y1 == 0) true (decide ((p0.getD y1.toNat (0:Int)) > (p0.getD (Int.toNat (max (0:Int) (IntKind.i64.wrap (y1 - 1)))) (0:Int))))) (9:Int)) :: ([]:List Int)))))) ∧
   ((((v_first ((s_ground_unless (s_ground_within (p0.getD y1.toNat (0:Int)) (0:Int) (10:Int)) (2:Int)) :: ((s_ground_unless (cond (y1 == 0) true (decide ((p0.getD y1.toNat (0:Int)) > (p0.getD (Int.toNat (max (0:Int) (IntKind.i64.wrap (y1 - 1)))) (0:Int))))) (9:Int)) :: ([]:List Int)))) != 0)=false) →
   (k2 (IntKind.i64.wrap (y1 + 1))))))))))))))))))) ∧
  (((decide (y1 < (p0.length:Int)))=false) →
  (K (0:Int))))) n0 (0:Int)))
set_option maxHeartbeats 4000000 in
theorem w_ground_listErr__ground_isThickness_eq (p0:(List Int)) (p1:PUnit) (K:Int→Prop):tfn F_ground_listErr__ground_isThickness A_ground_listErr__ground_isThickness C_ground_listErr__ground_isThickness P_ground_listErr__ground_isThickness R_ground_listErr__ground_isThickness (p0,p1) K = w_ground_listErr__ground_isThickness p0 p1 K := by kernel_rfl
def st_ground_listErr__ground_isThickness_0 (p0:(List Int)) (_p1:PUnit) (y0:Int):Int ⊕ Int :=
 (cond (decide (y0 < (p0.length:Int))) (cond ((v_first ((s_ground_unless (s_ground_within (p0.getD y0.toNat (0:Int)) (0:Int) (10:Int)) (2:Int)) :: ((s_ground_unless (cond (y0 == 0) true (decide ((p0.getD y0.toNat (0:Int)) > (p0.getD (Int.toNat (max (0:Int) (IntKind.i64.wrap (y0 - 1)))) (0:Int))))) (9:Int)) :: ([]:List Int)))) != 0) (Sum.inr (v_first ((s_ground_unless (s_ground_within (p0.getD y0.toNat (0:Int)) (0:Int) (10:Int)) (2:Int)) :: ((s_ground_unless (cond (y0 == 0) true (decide ((p0.getD y0.toNat (0:Int)) > (p0.getD (Int.toNat (max (0:Int) (IntKind.i64.wrap (y0 - 1)))) (0:Int))))) (9:Int)) :: ([]:List Int)))))
  (Sum.inl (IntKind.i64.wrap (y0 + 1))))
  (Sum.inr (0:Int)))
abbrev sp_ground_listErr__ground_isThickness_0 (p0:(List Int)) (_p1:PUnit) (y0:Int):List Prop := [(((decide (y0 < (p0.length:Int)))=true)→((0:Int)≤y0)),
  (((decide (y0 < (p0.length:Int)))=true)→(y0 < (p0.length:Int))),
  (((decide (y0 < (p0.length:Int)))=true)→(((y0 == 0)=false)→((0:Int)≤(max (0:Int) (IntKind.i64.wrap (y0 - 1)))))),
  (((decide (y0 < (p0.length:Int)))=true)→(((y0 == 0)=false)→((max (0:Int) (IntKind.i64.wrap (y0 - 1))) < (p0.length:Int))))]
def s_ground_listErr__ground_isThickness (p0:(List Int)) (p1:PUnit):Int :=
 (lpv (0:Int) (st_ground_listErr__ground_isThickness_0 p0 p1) (0:Int))
abbrev pre_ground_listErr__ground_isThickness (p0:(List Int)) (p1:PUnit):List Prop := [(OkL (st_ground_listErr__ground_isThickness_0 p0 p1) (sp_ground_listErr__ground_isThickness_0 p0 p1) (0:Int))]
set_option maxHeartbeats 4000000 in
theorem d_ground_listErr__ground_isThickness (p0:(List Int)) (p1:PUnit) (K:Int→Prop) (hp:∀ p∈pre_ground_listErr__ground_isThickness p0 p1,p) (h:K (s_ground_listErr__ground_isThickness p0 p1)):w_ground_listErr__ground_isThickness p0 p1 K := by
 unfold w_ground_listErr__ground_isThickness
 unfold s_ground_listErr__ground_isThickness at h
 obtain ⟨hp0,_⟩ := conj_of hp
 exact (loop_gen (hp0) h (fun y0 k0 hp h => by
 unfold st_ground_listErr__ground_isThickness_0 at h; obtain ⟨hp0,hp1,hp2,hp3,_⟩ := conj_of hp
 exact (br' h (fun e1 h => ⟨(hp0 e1),(hp1 e1),rf,rf,rf,rf,(hp2 e1),(hp3 e1),rf,rf,rf,rfl,(lenOk_of 2 rfl (by decide)),(br' h (fun e2 h => h)
  (fun e2 h => h))⟩)
  (fun e1 h => h))))
theorem l_ground_listErr__ground_isThickness_0 (p0:List Int) (p1:PUnit) (hl:lenOk p0):OkL (st_ground_listErr__ground_isThickness_0 p0 p1) (sp_ground_listErr__ground_isThickness_0 p0 p1) 0∧lpv (0:Int) (st_ground_listErr__ground_isThickness_0 p0 p1) 0 = v_scan (v_ls1 0 10 p0) (0:Int) 0 p0 := by
 refine scan_is p0 0 (v_ls1 0 10 p0) (0:Int) hl ?_ ?_
 ·refine ⟨by simp only [sp_ground_listErr__ground_isThickness_0,List.forall_mem_cons,decide_eq_true_eq]; simp,by simp [st_ground_listErr__ground_isThickness_0]⟩
 ·intro j hj
  have hj' : (j:Int) < p0.length := by omega
  have hw := wrap_nat (show (j:Int)≤9223372036854775806 by unfold lenOk at hl; omega)
  have hw2:IntKind.i64.wrap ((j:Int) - 1)=(j:Int) - 1 := wrap_id (by omega) (by unfold lenOk at hl; omega)
  refine ⟨by simp only [sp_ground_listErr__ground_isThickness_0,List.forall_mem_cons,decide_eq_true_eq,Int.toNat_natCast]; rw [hw2]; and_intros <;> first | (intro p hp; cases hp; done) | (intros; first | omega | (simp_all; done) | (simp_all; omega)),?_⟩
  simp only [st_ground_listErr__ground_isThickness_0,hj',decide_true,Int.toNat_natCast,cond_true,hw]
  unfold v_ls1
  simp only [tx_unless,tx_first2,tx_withinG]
  rcases Nat.eq_zero_or_pos j with h0 | h0
  ·subst h0
   cases s_base_Within (p0.getD 0 0) 0 10 <;> rfl
  ·have hz:((j:Int) == 0)=false := beq_eq_false_iff_ne.2 (by omega)
   have hm:(max 0 ((j:Int) - 1)).toNat = ((j:Int) - 1).toNat := by rw [Int.max_eq_right (by omega)]
   rw [hz,hw2,hm]
   cases s_base_Within (p0.getD j 0) 0 10 <;> cases decide (p0.getD j 0 > p0.getD ((j:Int) - 1).toNat 0) <;> rfl
abbrev t_ground_listErr__ground_isThickness (p0:List Int) (_p1:PUnit):Int := v_ls 0 10 p0
abbrev qre_ground_listErr__ground_isThickness (p0:List Int) (_p1:PUnit):List Prop := [lenOk p0]
theorem pp_ground_listErr__ground_isThickness (p0:List Int) (p1:PUnit) (hq:∀ p∈qre_ground_listErr__ground_isThickness p0 p1,p):∀ p∈pre_ground_listErr__ground_isThickness p0 p1,p := by
 obtain ⟨h1,_⟩ := conj_of hq
 simp only [pre_ground_listErr__ground_isThickness,List.forall_mem_cons]
 exact ⟨(l_ground_listErr__ground_isThickness_0 p0 p1 h1).1,(by intro p hp; cases hp)⟩
theorem tt_ground_listErr__ground_isThickness (p0:List Int) (p1:PUnit) (hq:∀ p∈qre_ground_listErr__ground_isThickness p0 p1,p):s_ground_listErr__ground_isThickness p0 p1 = t_ground_listErr__ground_isThickness p0 p1 := by
 obtain ⟨h1,_⟩ := conj_of hq
 exact (l_ground_listErr__ground_isThickness_0 p0 p1 h1).2

abbrev con_ground_listErr__ground_isThickness:Con := ⟨P_ground_listErr__ground_isThickness,R_ground_listErr__ground_isThickness,fun x => qre_ground_listErr__ground_isThickness x.1 x.2,fun x => t_ground_listErr__ground_isThickness x.1 x.2⟩
theorem ok_ground_listErr__ground_isThickness:ConOk Try.prog 91 con_ground_listErr__ground_isThickness := ⟨k_ground_listErr__ground_isThickness,fun x hx => ret_tf (ps := P_ground_listErr__ground_isThickness) (rs := R_ground_listErr__ground_isThickness) (x := x) (y := t_ground_listErr__ground_isThickness x.1 x.2) e_ground_listErr__ground_isThickness hC_ground_listErr__ground_isThickness (tf_of (w_ground_listErr__ground_isThickness_eq x.1 x.2 (fun z => z = t_ground_listErr__ground_isThickness x.1 x.2)) (d_ground_listErr__ground_isThickness x.1 x.2 (fun z => z = t_ground_listErr__ground_isThickness x.1 x.2) (pp_ground_listErr__ground_isThickness x.1 x.2 hx) (tt_ground_listErr__ground_isThickness x.1 x.2 hx)))⟩
/- slices_Equalint_int -/
def C_slices_Equalint_int:Cons := []
theorem hC_slices_Equalint_int:ConsOk Try.prog C_slices_Equalint_int := ConsOk.nil
def w_slices_Equalint_int (p0:(List Int)) (p1:(List Int)) (K:Bool→Prop):Prop :=
  (((((p0.length:Int) != (p1.length:Int))=true) →
 (K false)) ∧
 ((((p0.length:Int) != (p1.length:Int))=false) →
 (∃ n0,(loopP (fun (y1:Int) k2 =>
   ((((decide (y1 < (p0.length:Int)))=true) →
   (((0:Int)≤y1) ∧
    ((y1 < (p0.length:Int)) ∧
    (((0:Int)≤y1) ∧
    ((y1 < (p1.length:Int)) ∧
    (((((p0.getD y1.toNat (0:Int)) != (p1.getD y1.toNat (0:Int)))=true) →
    (K false)) ∧
    ((((p0.getD y1.toNat (0:Int)) != (p1.getD y1.toNat (0:Int)))=false) →
    (k2 (IntKind.i64.wrap (y1 + 1)))))))))) ∧
   (((decide (y1 < (p0.length:Int)))=false) →
   (K true)))) n0 (0:Int)))))
set_option maxHeartbeats 4000000 in
theorem w_slices_Equalint_int_eq (p0:(List Int)) (p1:(List Int)) (K:Bool→Prop):tfn F_slices_Equalint_int A_slices_Equalint_int C_slices_Equalint_int P_slices_Equalint_int R_slices_Equalint_int (p0,p1) K = w_slices_Equalint_int p0 p1 K := by kernel_rfl
def st_slices_Equalint_int_0 (p0:(List Int)) (p1:(List Int)) (y1:Int):Int ⊕ Bool :=
 (cond (decide (y1 < (p0.length:Int))) (cond ((p0.getD y1.toNat (0:Int)) != (p1.getD y1.toNat (0:Int))) (Sum.inr false)
  (Sum.inl (IntKind.i64.wrap (y1 + 1))))
  (Sum.inr true))
abbrev sp_slices_Equalint_int_0 (p0:(List Int)) (p1:(List Int)) (y1:Int):List Prop := [(((decide (y1 < (p0.length:Int)))=true)→((0:Int)≤y1)),
  (((decide (y1 < (p0.length:Int)))=true)→(y1 < (p0.length:Int))),
  (((decide (y1 < (p0.length:Int)))=true)→(y1 < (p1.length:Int)))]
def s_slices_Equalint_int (p0:(List Int)) (p1:(List Int)):Bool :=
 (cond ((p0.length:Int) != (p1.length:Int)) false
  (lpv false (st_slices_Equalint_int_0 p0 p1) (0:Int)))
abbrev pre_slices_Equalint_int (p0:(List Int)) (p1:(List Int)):List Prop := [((((p0.length:Int) != (p1.length:Int))=false)→(OkL (st_slices_Equalint_int_0 p0 p1) (sp_slices_Equalint_int_0 p0 p1) (0:Int)))]
set_option maxHeartbeats 4000000 in
theorem d_slices_Equalint_int (p0:(List Int)) (p1:(List Int)) (K:Bool→Prop) (hp:∀ p∈pre_slices_Equalint_int p0 p1,p) (h:K (s_slices_Equalint_int p0 p1)):w_slices_Equalint_int p0 p1 K := by
 unfold w_slices_Equalint_int
 unfold s_slices_Equalint_int at h
 obtain ⟨hp0,_⟩ := conj_of hp
 exact (br' h (fun e0 h => h)
  (fun e0 h => (loop_gen (hp0 e0) h (fun y1 k1 hp h => by
 unfold st_slices_Equalint_int_0 at h; obtain ⟨hp0,hp1,hp2,_⟩ := conj_of hp
 exact (br' h (fun e2 h => ⟨(hp0 e2),(hp1 e2),(hp0 e2),(hp2 e2),(br' h (fun e3 h => h)
  (fun e3 h => h))⟩)
  (fun e2 h => h))))))
theorem l_slices_Equalint_int_0 (p0 p1:List Int) (hl:lenOk p0) (he:p0.length = p1.length):OkL (st_slices_Equalint_int_0 p0 p1) (sp_slices_Equalint_int_0 p0 p1) 0∧lpv false (st_slices_Equalint_int_0 p0 p1) 0 = v_scan (fun i x => cond (!((x == (p1.getD i.toNat 0)))) (some false) none) true 0 p0 := by
 refine scan_is p0 0 (fun i x => cond (!((x == (p1.getD i.toNat 0)))) (some false) none) true hl ?_ ?_
 ·refine ⟨by simp only [sp_slices_Equalint_int_0,List.forall_mem_cons,decide_eq_true_eq]; simp,by simp [st_slices_Equalint_int_0]⟩
 ·intro j hj
  have hj' : (j:Int) < p0.length := by omega
  refine ⟨by simp only [sp_slices_Equalint_int_0,List.forall_mem_cons,decide_eq_true_eq,Int.toNat_natCast]; simp <;> omega,?_⟩
  simp only [st_slices_Equalint_int_0,hj',decide_true,Int.toNat_natCast,cond_true,wrap_nat (show (j:Int)≤9223372036854775806 by unfold lenOk at hl; omega)]
  generalize p0.getD j 0 = x
  generalize p1.getD j 0 = z
  simp only [bne]
  cases (x == z) <;> rfl
abbrev t_slices_Equalint_int (p0 p1:List Int):Bool := decide (p0 = p1)
abbrev qre_slices_Equalint_int (p0 _p1:List Int):List Prop := [lenOk p0]
theorem pp_slices_Equalint_int (p0 p1:List Int) (hq:∀ p∈qre_slices_Equalint_int p0 p1,p):∀ p∈pre_slices_Equalint_int p0 p1,p := by
 simp only [pre_slices_Equalint_int,List.forall_mem_cons]
 refine ⟨fun h => (l_slices_Equalint_int_0 p0 p1 (conj_of hq).1 ?_).1,by simp⟩
 have h' : (p0.length:Int)=p1.length := by simpa using h
 omega
theorem tt_slices_Equalint_int (p0 p1:List Int) (hq:∀ p∈qre_slices_Equalint_int p0 p1,p):s_slices_Equalint_int p0 p1 = t_slices_Equalint_int p0 p1 := by
 unfold s_slices_Equalint_int t_slices_Equalint_int
 by_cases h:p0.length = p1.length
 ·rw [show ((p0.length:Int) != (p1.length:Int))=false by simp [h]]
  refine (l_slices_Equalint_int_0 p0 p1 (conj_of hq).1 h).2.trans ?_
  exact v_scan_eq 0 (fun x y => (x == y)) (fun x y => by by_cases h:x = y <;> simp [h]) p0 p1 h
 ·rw [show ((p0.length:Int) != (p1.length:Int))=true by simp; omega]
  have:p0 ≠ p1 := fun e => h (congrArg List.length e)
  simp [this]

abbrev con_slices_Equalint_int:Con := ⟨P_slices_Equalint_int,R_slices_Equalint_int,fun x => qre_slices_Equalint_int x.1 x.2,fun x => t_slices_Equalint_int x.1 x.2⟩
theorem ok_slices_Equalint_int:ConOk Try.prog 92 con_slices_Equalint_int := ⟨k_slices_Equalint_int,fun x hx => ret_tf (ps := P_slices_Equalint_int) (rs := R_slices_Equalint_int) (x := x) (y := t_slices_Equalint_int x.1 x.2) e_slices_Equalint_int hC_slices_Equalint_int (tf_of (w_slices_Equalint_int_eq x.1 x.2 (fun z => z = t_slices_Equalint_int x.1 x.2)) (d_slices_Equalint_int x.1 x.2 (fun z => z = t_slices_Equalint_int x.1 x.2) (pp_slices_Equalint_int x.1 x.2 hx) (tt_slices_Equalint_int x.1 x.2 hx)))⟩
/- base_trimmed -/
/-! Digits to the base 10^9,the lowest one first. -/
def v_val:List Int→Int
 | [] => 0
 | d :: r => d + 1000000000 * v_val r
def v_dgok (l:List Int):Prop := ∀ d∈l,0≤d∧d < 1000000000
def v_digs (n:Nat):List Int := if h:n = 0 then [] else ((n % 1000000000:Nat):Int) :: v_digs (n / 1000000000)
termination_by n
decreasing_by exact Nat.div_lt_self (Nat.pos_of_ne_zero h) (by decide)
theorem v_digs_0:v_digs 0 = [] := by unfold v_digs; rfl
theorem v_digs_pos {n:Nat} (h:n ≠ 0):v_digs n = ((n % 1000000000:Nat):Int) :: v_digs (n / 1000000000) := by rw [v_digs,dif_neg h]
theorem v_digs_ok (n:Nat):v_dgok (v_digs n) := by
 induction n using Nat.strongRecOn with
 | _ n ih =>
  by_cases h:n = 0
  ·subst h; rw [v_digs_0]; intro d hd; cases hd
  ·rw [v_digs_pos h]
   intro d hd
   rcases List.mem_cons.1 hd with rfl | hd
   ·omega
   ·exact ih _ (Nat.div_lt_self (Nat.pos_of_ne_zero h) (by decide)) d hd
theorem v_digs_val (n:Nat):v_val (v_digs n)=n := by
 induction n using Nat.strongRecOn with
 | _ n ih =>
  by_cases h:n = 0
  ·subst h; rw [v_digs_0]; rfl
  ·rw [v_digs_pos h]
   show _ + 1000000000 * v_val _ = _
   rw [ih _ (Nat.div_lt_self (Nat.pos_of_ne_zero h) (by decide))]
   omega
theorem v_val_nn:∀ {l:List Int},v_dgok l→0≤v_val l
 | [],_ => Int.le_refl _
 | d :: r,h => by
  have := h d (by simp)
  have := v_val_nn (l := r) fun x hx => h x (by simp [hx])
  show 0≤d + 1000000000 * v_val r
  omega
/-- What so many digits can say. -/
def v_pow (k:Nat):Int := 1000000000 ^ k
theorem v_pow_s (k:Nat):v_pow (k + 1)=1000000000 * v_pow k := by unfold v_pow; rw [Int.pow_succ,Int.mul_comm]
theorem v_pow_pos (k:Nat):1≤v_pow k := by
 induction k with
 | zero => exact Int.le_refl _
 | succ k ih => rw [v_pow_s]; omega
theorem v_pow_add (a b:Nat):v_pow (a + b)=v_pow a * v_pow b := by unfold v_pow; rw [Int.pow_add]
theorem v_pow_le {a b:Nat} (h:a≤b):v_pow a≤v_pow b := by
 obtain ⟨c,rfl⟩ : ∃ c,b = a + c := ⟨b - a,by omega⟩
 rw [v_pow_add]
 have h1 := v_pow_pos a
 have h2 := v_pow_pos c
 have := Int.mul_le_mul_of_nonneg_left h2 (show 0≤v_pow a by omega)
 omega
theorem v_val_lt:∀ {l:List Int},v_dgok l→v_val l < v_pow l.length
 | [],_ => by decide
 | d :: r,h => by
  have := h d (by simp)
  have := v_val_lt (l := r) fun x hx => h x (by simp [hx])
  show d + 1000000000 * v_val r < v_pow (r.length + 1)
  rw [v_pow_s]; omega
theorem v_digs_low (n:Nat):v_digs n = [] ∨ v_pow ((v_digs n).length - 1)≤n := by
 induction n using Nat.strongRecOn with
 | _ n ih =>
  by_cases h:n = 0
  ·subst h; exact .inl v_digs_0
  ·right
   rw [v_digs_pos h,List.length_cons,Nat.add_sub_cancel]
   rcases ih (n / 1000000000) (Nat.div_lt_self (Nat.pos_of_ne_zero h) (by decide)) with e | e
   ·rw [e]; show (1:Int)≤n; omega
   ·generalize hL:(v_digs (n / 1000000000)).length = L at *
    rcases Nat.eq_zero_or_pos L with h0 | h0
    ·rw [h0]; show (1:Int)≤n; omega
    ·rw [show L = L - 1 + 1 by omega,v_pow_s]
     omega
theorem v_digs_high (n:Nat):(n:Int) < v_pow (v_digs n).length := by
 have := v_val_lt (v_digs_ok n)
 rwa [v_digs_val] at this
theorem v_pow_lt {a b:Nat} (h:v_pow a < v_pow b):a < b := by
 rcases Nat.lt_or_ge a b with g | g
 ·exact g
 ·have := v_pow_le g; omega
theorem v_digs_len {n k:Nat} (h:(n:Int) < v_pow k):(v_digs n).length≤k := by
 rcases v_digs_low n with e | e
 ·rw [e]; simp
 ·have := v_pow_lt (show v_pow ((v_digs n).length - 1) < v_pow k by omega)
  omega
theorem v_digs_len_lt {m n:Nat} (h:(v_digs m).length < (v_digs n).length):m < n := by
 have h1 := v_digs_high m
 rcases v_digs_low n with e | e
 ·rw [e] at h; simp at h
 ·have := v_pow_le (show (v_digs m).length≤(v_digs n).length - 1 by omega)
  omega
/-- A whole number,as its sign and its digits. -/
def v_wide (n:Int):Int×List Int := (n.sign,v_digs n.natAbs)
def v_wval (p:Int×List Int):Int := p.1 * v_val p.2
theorem v_wval_wide (n:Int):v_wval (v_wide n)=n := by
 unfold v_wval v_wide
 simp only
 rw [v_digs_val]
 exact Int.sign_mul_natAbs n
/- base_cmpDigits -/
/-- Digits that are those of their number. -/
structure v_can (l:List Int):Prop where
 eq:l = v_digs (v_val l).toNat
 len:l.length≤1000000000000
theorem v_can.ok {l:List Int} (h:v_can l):v_dgok l := by rw [h.eq]; exact v_digs_ok _
theorem v_can.lt {a b:List Int} (ha:v_can a) (hb:v_can b) (h:a.length < b.length):v_val a < v_val b := by
 have h1 := v_val_nn ha.ok
 have h2 := v_val_nn hb.ok
 have := v_digs_len_lt (m := (v_val a).toNat) (n := (v_val b).toNat) (by rw [← ha.eq,← hb.eq]; exact h)
 omega
/- base_wideOf -/
/- base_WideNeg -/
/-- A number that is as it should be. -/
structure v_wok (p:Int×List Int):Prop where
 eq:p = v_wide (v_wval p)
 ln:p.2.length≤1000000000000
/-- How many digits a number has. -/
def v_dl (n:Int):Nat := (v_digs n.natAbs).length
theorem v_wok.ex {p:Int×List Int} (h:v_wok p):∃ n:Int,p = v_wide n∧v_dl n≤1000000000000 := ⟨_,h.eq,by have := h.ln; rw [h.eq] at this; exact this⟩
/- base_digit -/
/- base_addDigits -/
/- base_subDigits -/
/- base_WideAdd -/
/- base_WideMul -/
/- base_WideSub -/
/- base_Size -/
/- base_WideOf -/
end Go.Proofs.Ytehblgccaiiikaa
