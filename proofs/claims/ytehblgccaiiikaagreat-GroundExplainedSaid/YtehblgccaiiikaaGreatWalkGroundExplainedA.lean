/- What the functions that GroundExplained reaches compute: contracts, each function once. No condition. -/
import Derived.Test.YtehblgccaiiikaaGreatLayB
import Derived.Test.YtehblgccaiiikaaGreatAwGzGroundExplained
import Derived.KernelRfl
namespace Go.Proofs.YtehblgccaiiikaaGreat
open Go Go.Mx
set_option maxRecDepth 100000
set_option maxHeartbeats 4000000
abbrev gF:=List Int
abbrev gG:=Int×Int
abbrev gA:=List (List Int×List Int)
abbrev gB:=List (Int×Int×Int)
abbrev gC:=List (Int×Int)
abbrev gE:=Int×List Int
abbrev gD:=(Int×List Int)×(Int×List Int)
theorem fM.{u} {α:Type u} {p:α→Prop} {a:α} {l:List α}:(∀ x∈a::l,p x) ↔ p a ∧ ∀ x∈l,p x := List.forall_mem_cons
theorem cC {P:Program} {f:FuncId} {ids:List FuncId} {c:Con} {C:Cons} (h:ConOk P f c) (hC:ConsOk P C) (hm:isMark ids=false := by rfl):ConsOk P ((f,ids,c)::C) := ConsOk.cons h hC hm
theorem okG {P:Program} {f:FuncId} {F:TFn} {A:Nat→Ty} {C:Cons} {ps rs:List PSh} {pre:(tyPs ps).den→List Prop} {s:(tyPs ps).den→(tyPs rs).den} (k:callable P f=true) (e:cFn P f=some F.erase) (hC:ConsOk P C) (h:∀ x,(∀ p∈pre x,p)→Tf F A C ps rs x (fun z => z=s x)):ConOk P f ⟨ps,rs,pre,s⟩ := ⟨k,fun x hx => ret_tf e hC (h x hx)⟩
abbrev wi (n:Int):Int := IntKind.i64.wrap n
abbrev zz0:Int := 0
abbrev zz1:Int := 1
abbrev zz2:Int := 2
abbrev zz3:Int := 3
theorem nof {p:Prop} (h:false = true):p := Bool.noConfusion h
theorem rf {p:Prop} {α:Sort _} {a:α} (_:p):a = a := rfl
def C_Z16:Cons := []
theorem hC_Z16:ConsOk Tryz.prog C_Z16 := ConsOk.nil
def w_Z16 (p0:Int) (p1:Int) (K:Int→Prop):Prop := (∃ n0,(loopP (fun (y1:gG) k2 => ((((y1.1 != 0)=true) →((y1.1 ≠ zz0) ∧(k2 ((Int.tmod y1.2 y1.1),y1.1)))) ∧(((y1.1 != 0)=false) →(K (max y1.2 zz1))))) n0 (p1,p0)))
theorem w_Z16_eq (p0:Int) (p1:Int) (K:Int→Prop):tfn F_Z16 A_Z16 C_Z16 P_Z16 R_Z16 (p0,p1) K = w_Z16 p0 p1 K := by kernel_rfl
def st_Z16_0 (_p0:Int) (_p1:Int) (y0:gG):(Int×Int) ⊕ Int := (cond (y0.1 != 0) (Sum.inl ((Int.tmod y0.2 y0.1),y0.1)) (Sum.inr (max y0.2 (1:Int))))
abbrev sp_Z16_0 (_p0:Int) (_p1:Int) (y0:gG):List Prop := [(((y0.1 != 0)=true)→(y0.1 ≠ (0:Int)))]
def s_Z16 (p0:Int) (p1:Int):Int := (lpv (0:Int) (st_Z16_0 p0 p1) (p1,p0))
abbrev pre_Z16 (p0:Int) (p1:Int):List Prop := [(OkL (st_Z16_0 p0 p1) (sp_Z16_0 p0 p1) (p1,p0))]
theorem d_Z16 (p0:Int) (p1:Int) (K:Int→Prop) (hp:∀ p∈pre_Z16 p0 p1,p) (h:K (s_Z16 p0 p1)):w_Z16 p0 p1 K := by
 unfold w_Z16
 unfold s_Z16 at h
 obtain ⟨hp0,_⟩ := conj_of hp
 exact (loop_gen (hp0) h (fun y0 k0 hp h => by
 unfold st_Z16_0 at h; obtain ⟨hp0,_⟩ := conj_of hp
 exact (br' h (fun e1 h => ⟨(hp0 e1),h⟩)
  (fun e1 h => h))))
/-- How two numbers compare. -/
def v_cmp (a b:Int):Int := cond (decide (a < b)) (-1) (cond (decide (a > b)) 1 0)
theorem v_cmp_lt {a b:Int}:v_cmp a b < 0 ↔ a < b := by
 unfold v_cmp
 rcases Int.lt_trichotomy a b with h | h | h
 ·simp [h]
 ·subst h; simp
 ·rw [decide_eq_false (show ¬ a < b by omega),decide_eq_true (show a > b from h)]; simp; omega
theorem v_cmp_gt {a b:Int}:0 < v_cmp a b ↔ b < a := by
 unfold v_cmp
 rcases Int.lt_trichotomy a b with h | h | h
 ·rw [decide_eq_true h]; simp; omega
 ·subst h; simp
 ·rw [decide_eq_false (show ¬ a < b by omega),decide_eq_true (show a > b from h)]; simp; omega
/-- A rational number as a pair,in lowest terms. -/
def v_frac (q:Rat):Int×Int := (q.num,(q.den:Int))
theorem v_frac_pos (q:Rat):0 < (v_frac q).2 := by have := q.den_pos; unfold v_frac; simp only; omega
theorem v_low_frac {n d:Int} (hd:0 < d):v_low (n,d)=v_frac ((n:Rat) / (d:Rat)) := by
 unfold v_low v_frac v_gcd
 rw [← Rat.divInt_eq_div,Rat.num_divInt,Rat.den_divInt,if_neg (by omega),Int.sign_eq_one_of_pos hd,Int.one_mul]
 simp only
 rw [Int.gcd_comm d n]
 congr 1
 rw [Int.natCast_ediv]
 congr 1
 omega
/-- The rational number of a pair. -/
def v_rq (x:gG):Rat := (x.1:Rat) / (x.2:Rat)
theorem v_rq_frac (q:Rat):v_rq (v_frac q)=q := by
 unfold v_rq v_frac
 simp only
 rw [← Rat.divInt_eq_div,Rat.num_divInt_den]
theorem v_rcast {a b:Int}:(a:Rat)≤(b:Rat) ↔ a≤b := Rat.intCast_le_intCast
theorem v_rpos {a:Int} (h:0 < a):(0:Rat) < (a:Rat) := Rat.intCast_pos.2 h
theorem v_rnn {a:Int} (h:0≤a):(0:Rat)≤(a:Rat) := Rat.intCast_nonneg.2 h
theorem v_rle_frac {p q:Rat}:p≤q ↔ (v_frac p).1 * (v_frac q).2≤(v_frac q).1 * (v_frac p).2 := Rat.le_iff p q
/-- A quotient of two whole numbers. -/
theorem v_rdiv_le {a b:Rat} {c:Rat} (hb:0 < b):a / b≤c ↔ a≤c * b := by
 rw [← Rat.not_lt,← Rat.not_lt,Rat.lt_div_iff hb]
theorem v_rle_div {a b:Rat} {c:Rat} (hb:0 < b):c≤a / b ↔ c * b≤a := by
 rw [← Rat.not_lt,← Rat.not_lt,Rat.div_lt_iff hb]
/-- Of equal numbers the lowest terms are the smallest. -/
theorem v_frac_le {n d:Int} (hn:0≤n) (hd:0 < d):0≤(v_frac ((n:Rat) / (d:Rat))).1∧(v_frac ((n:Rat) / (d:Rat))).1≤n∧(v_frac ((n:Rat) / (d:Rat))).2≤d := by
 rw [← v_low_frac hd]
 have hg:0 < v_gcd n d := v_gcd_pos (by omega)
 unfold v_low
 simp only
 exact ⟨Int.ediv_nonneg hn (by omega),Int.ediv_le_self _ hn,Int.ediv_le_self _ (by omega)⟩
/-- One layer above what lies below. -/
def v_step (s:Int) (x:gG) (r:Rat):Rat := (x.1:Rat) * (r * ((x.2 + s:Int):Rat) + (x.1:Rat) * (x.2:Rat)) / ((x.1:Rat) * ((x.2 + s:Int):Rat) + r * (x.2:Rat))
/-- The response of layers at a scale. -/
def v_resp (s:Int):List (Int×Int)→Rat
 | [] => 0
 | x :: r => match r with
  | [] => (x.1:Rat)
  | _ :: _ => v_step s x (v_resp s r)
theorem v_resp_c (s:Int) (x:gG) {r:List (Int×Int)} (h:r ≠ []):v_resp s (x :: r)=v_step s x (v_resp s r) := by
 cases r with
 | nil => exact absurd rfl h
 | cons y r => rfl
theorem v_step_den {s:Int} {x:Int×Int} {r:Rat} (hs:0 < s) (hc:0 < x.1) (ht:0≤x.2) (hr:0≤r):(0:Rat) < (x.1:Rat) * ((x.2 + s:Int):Rat) + r * (x.2:Rat) := by
 have h1:(0:Rat) < (x.1:Rat) * ((x.2 + s:Int):Rat) := Rat.mul_pos (v_rpos hc) (v_rpos (by omega))
 have h2:(0:Rat)≤r * (x.2:Rat) := Rat.mul_nonneg hr (v_rnn ht)
 grind
/-- Between bounds of the conductivity and of what lies below. -/
theorem v_step_lo {s:Int} {x:Int×Int} {r lo:Rat} (hs:0 < s) (hc:0 < x.1) (ht:0≤x.2) (hl:0 < lo) (h1:lo≤(x.1:Rat)) (h2:lo≤r):lo≤v_step s x r := by
 have hd := v_step_den (s := s) (x := x) (r := r) hs hc ht (by grind)
 unfold v_step
 rw [v_rle_div hd]
 have hS:((x.2 + s:Int):Rat)=(x.2:Rat) + (s:Rat) := Rat.intCast_add _ _
 have ps := v_rpos hs
 have pt := v_rnn ht
 rw [hS]
 generalize (x.1:Rat)=c at *
 generalize (x.2:Rat)=t at *
 generalize (s:Rat)=S at *
 -- c (r (t+S) + c t) - lo (c (t+S) + r t)=c (r - lo) (t+S) + t (c c - lo r)
 have e1:0≤c * (r - lo) * S := Rat.mul_nonneg (Rat.mul_nonneg (by grind) (by grind)) (by grind)
 have e2:0≤t * (c * (c - lo)) := Rat.mul_nonneg pt (Rat.mul_nonneg (by grind) (by grind))
 have e3:0≤t * (r * (c - lo)) := Rat.mul_nonneg pt (Rat.mul_nonneg (by grind) (by grind))
 grind
theorem v_step_hi {s:Int} {x:Int×Int} {r hi:Rat} (hs:0 < s) (hc:0 < x.1) (ht:0≤x.2) (hr:0 < r) (h1:(x.1:Rat)≤hi) (h2:r≤hi):v_step s x r≤hi := by
 have hd := v_step_den (s := s) (x := x) (r := r) hs hc ht (by grind)
 have hc' := v_rpos hc
 unfold v_step
 rw [v_rdiv_le hd]
 have hS:((x.2 + s:Int):Rat)=(x.2:Rat) + (s:Rat) := Rat.intCast_add _ _
 have ps := v_rpos hs
 have pt := v_rnn ht
 rw [hS]
 generalize (x.1:Rat)=c at *
 generalize (x.2:Rat)=t at *
 generalize (s:Rat)=S at *
 have e1:0≤c * (hi - r) * S := Rat.mul_nonneg (Rat.mul_nonneg (by grind) (by grind)) (by grind)
 have e2:0≤t * (c * (hi - c)) := Rat.mul_nonneg pt (Rat.mul_nonneg (by grind) (by grind))
 have e3:0≤t * (r * (hi - c)) := Rat.mul_nonneg pt (Rat.mul_nonneg (by grind) (by grind))
 grind
/-- Whether a layer,layers,are valid. -/
structure v_lok (x:gG):Prop where
 c:1≤x.1∧x.1≤20
 t:0≤x.2∧x.2≤10
theorem v_resp_lo {s:Int} {lo:Rat} (hs:0 < s) (hl:0 < lo):∀ {l:List (Int×Int)},l ≠ []→(∀ x∈l,v_lok x)→(∀ x∈l,lo≤(x.1:Rat))→lo≤v_resp s l
 | [],h,_,_ => absurd rfl h
 | [x],_,_,h => h x (by simp)
 | x :: y :: r,_,hk,h => by
  rw [v_resp_c s x (by simp)]
  have hx := hk x (by simp)
  exact v_step_lo hs (by have := hx.c; omega) hx.t.1 hl (h x (by simp)) (v_resp_lo hs hl (by simp) (fun z hz => hk z (List.mem_cons_of_mem _ hz)) (fun z hz => h z (List.mem_cons_of_mem _ hz)))
theorem v_resp_1le {s:Int} (hs:0 < s) {l:List (Int×Int)} (h:l ≠ []) (hk:∀ x∈l,v_lok x):1≤v_resp s l :=
 v_resp_lo hs (by decide) h hk (fun x hx => by have := v_rcast.2 (hk x hx).c.1; simpa using this)
theorem v_resp_hi {s:Int} {hi:Rat} (hs:0 < s):∀ {l:List (Int×Int)},l ≠ []→(∀ x∈l,v_lok x)→(∀ x∈l,(x.1:Rat)≤hi)→v_resp s l≤hi
 | [],h,_,_ => absurd rfl h
 | [x],_,_,h => h x (by simp)
 | x :: y :: r,_,hk,h => by
  rw [v_resp_c s x (by simp)]
  have hx := hk x (by simp)
  have h1 := v_resp_1le (s := s) (l := y :: r) hs (by simp) (fun z hz => hk z (List.mem_cons_of_mem _ hz))
  exact v_step_hi hs (by have := hx.c; omega) hx.t.1 (by grind) (h x (by simp)) (v_resp_hi hs (by simp) (fun z hz => hk z (List.mem_cons_of_mem _ hz)) (fun z hz => h z (List.mem_cons_of_mem _ hz)))
theorem v_resp_le20 {s:Int} (hs:0 < s) {l:List (Int×Int)} (h:l ≠ []) (hk:∀ x∈l,v_lok x):v_resp s l≤20 :=
 v_resp_hi hs h hk (fun x hx => by have := v_rcast.2 (hk x hx).c.2; simpa using this)
/-- The same thicknesses,and conductivities that are no less. -/
inductive v_above:List (Int×Int)→List (Int×Int)→Prop
 | nil:v_above [] []
 | cons {x y:Int×Int} {l r:List (Int×Int)} (h1:x.1≤y.1) (h2:x.2 = y.2) (h:v_above l r):v_above (x :: l) (y :: r)
/-- How great the parts are,at most: of n layers,800^(n - 1). -/
theorem v_step_parts {s:Int} {x:Int×Int} {r:Rat} (hs:1≤s∧s≤20) (hx:v_lok x) (h1:1≤r) (h2:r≤20) {D:Int} (hD:(v_frac r).2≤D) :
  0 < x.1 * (v_frac r).2 * (x.2 + s) + (v_frac r).1 * x.2∧x.1 * (v_frac r).2 * (x.2 + s) + (v_frac r).1 * x.2≤800 * D∧0≤x.1 * ((v_frac r).1 * (x.2 + s) + x.1 * x.2 * (v_frac r).2)∧x.1 * ((v_frac r).1 * (x.2 + s) + x.1 * x.2 * (v_frac r).2)≤16000 * D ∧
  v_step s x r = ((x.1 * ((v_frac r).1 * (x.2 + s) + x.1 * x.2 * (v_frac r).2):Int):Rat) / ((x.1 * (v_frac r).2 * (x.2 + s) + (v_frac r).1 * x.2:Int):Rat)∧0≤(v_frac r).1∧(v_frac r).1≤20 * D := by
 have hp := v_frac_pos r
 have hr:r = v_rq (v_frac r) := (v_rq_frac r).symm
 have hn:(v_frac r).1≤20 * (v_frac r).2 := by
  have := v_rle_frac.1 h2
  have e:v_frac 20 = (20,1) := rfl
  rw [e] at this
  simp only at this
  omega
 have hn0:0≤(v_frac r).1 := Rat.num_nonneg.2 (by grind)
 generalize hN:(v_frac r).1 = N at *
 generalize hM:(v_frac r).2 = M at *
 have hc := hx.c
 have ht := hx.t
 have m1 := mul_in (x := x.1) (y := M) (by omega) hc.2 (by omega) (Int.le_refl M)
 have m2 := mul_in (x := x.1 * M) (y := x.2 + s) m1.1 m1.2 (by omega) (show x.2 + s≤30 by omega)
 have m3 := mul_in (x := N) (y := x.2) hn0 hn ht.1 ht.2
 have m4 := mul_in (x := N) (y := x.2 + s) hn0 hn (by omega) (show x.2 + s≤30 by omega)
 have m5 := mul_in (x := x.1) (y := x.2) (by omega) hc.2 ht.1 ht.2
 have m6 := mul_in (x := x.1 * x.2) (y := M) m5.1 m5.2 (by omega) (Int.le_refl M)
 have m7 := mul_in (x := x.1) (y := N * (x.2 + s) + x.1 * x.2 * M) (a := 20) (b := 20 * M * 30 + 20 * 10 * M) (by omega) hc.2 (by omega) (by omega)
 have m8:0 < x.1 * M * (x.2 + s) := Int.mul_pos (Int.mul_pos (by omega) hp) (by omega)
 refine ⟨by omega,by omega,m7.1,by omega,?_,hn0,by omega⟩
 have hMr := v_rpos hp
 have hd := v_step_den (s := s) (x := x) (r := r) (by omega) (by omega) ht.1 (by grind)
 have hd2:(0:Rat) < ((x.1 * M * (x.2 + s) + N * x.2:Int):Rat) := v_rpos (by omega)
 have hrq:r * (M:Rat)=(N:Rat) := by
  rw [hr]; unfold v_rq; rw [hN,hM]; exact Rat.div_mul_cancel (by grind)
 unfold v_step
 have c1:((x.1 * ((N * (x.2 + s)) + x.1 * x.2 * M):Int):Rat)=(x.1:Rat) * ((N:Rat) * ((x.2 + s:Int):Rat) + (x.1:Rat) * (x.2:Rat) * (M:Rat)) := by
  rw [Rat.intCast_mul,Rat.intCast_add,Rat.intCast_mul,Rat.intCast_mul,Rat.intCast_mul]
 have c2:((x.1 * M * (x.2 + s) + N * x.2:Int):Rat)=(x.1:Rat) * (M:Rat) * ((x.2 + s:Int):Rat) + (N:Rat) * (x.2:Rat) := by
  rw [Rat.intCast_add,Rat.intCast_mul,Rat.intCast_mul,Rat.intCast_mul]
 rw [c1]
 rw [c2] at hd2 ⊢
 rw [← hrq] at hd2 ⊢
 generalize ((x.2 + s:Int):Rat)=S at *
 generalize (x.1:Rat)=c at *
 generalize (x.2:Rat)=t at *
 generalize (M:Rat)=m at *
 have e1:c * m * S + r * m * t = (c * S + r * t) * m := by grind
 have e2:c * (r * m * S + c * t * m)=(c * (r * S + c * t)) * m := by grind
 rw [e1,e2]
 rw [Rat.div_def,Rat.div_def,Rat.inv_mul_rev]
 have:m * m⁻¹ = 1 := Rat.mul_inv_cancel _ (by grind)
 grind
theorem l_Z16_0 (p0 p1:Int) (h0:0≤p0) (h1:0 < p1) (h2:p1≤9223372036854775807):OkL (st_Z16_0 p0 p1) (sp_Z16_0 p0 p1) (p1,p0)∧lpv 0 (st_Z16_0 p0 p1) (p1,p0)=v_gcd p0 p1 := by
 refine loop_is (fun (y:gG) => 0≤y.1∧0≤y.2∧0 < v_gcd y.2 y.1) (fun (y:gG) => y.1.natAbs) (fun (y:gG) => v_gcd y.2 y.1) ?_ ⟨by omega,h0,v_gcd_pos (by omega)⟩ (by unfold fuel; simp only; omega)
 rintro ⟨x,y⟩ ⟨g1,g2,g3⟩
 refine ⟨by simp only [sp_Z16_0,fM]; simp,?_⟩
 simp only at g1 g2 g3 ⊢
 unfold st_Z16_0
 simp only
 rcases int0 x with ⟨rfl,e,_⟩ | ⟨hx,e,_⟩
 ·rw [e]
  have e0:v_gcd y 0 = y := by unfold v_gcd; rw [Int.gcd_zero_right]; omega
  rw [e0] at g3 ⊢
  simp only [cond_false]
  omega
 ·rw [e]
  have := v_tmod_lt (a := y) hx
  have hs := v_gcd_step y x
  have hn:0≤y.tmod x := Int.tmod_nonneg _ g2
  exact ⟨⟨hn,g1,by rw [hs]; exact g3⟩,this,hs⟩
abbrev t_Z16 (p0 p1:Int):Int := v_gcd p0 p1
abbrev qre_Z16 (p0 p1:Int):List Prop := [0≤p0∧0 < p1∧p1≤9223372036854775807]
theorem pp_Z16 (p0 p1:Int) (hq:∀ p∈qre_Z16 p0 p1,p):∀ p∈pre_Z16 p0 p1,p := by
 obtain ⟨h1,h2,h3⟩ := (conj_of hq).1
 simp only [pre_Z16,fM]
 exact ⟨(l_Z16_0 p0 p1 h1 h2 h3).1,by simp⟩
theorem tt_Z16 (p0 p1:Int) (hq:∀ p∈qre_Z16 p0 p1,p):s_Z16 p0 p1 = t_Z16 p0 p1 := by
 obtain ⟨h1,h2,h3⟩ := (conj_of hq).1
 exact (l_Z16_0 p0 p1 h1 h2 h3).2

abbrev con_Z16:Con := ⟨P_Z16,R_Z16,fun x => qre_Z16 x.1 x.2,fun x => t_Z16 x.1 x.2⟩
theorem ok_Z16:ConOk Tryz.prog 114 con_Z16 := okG k_Z16 e_Z16 hC_Z16 fun x hx => tf_of (w_Z16_eq x.1 x.2 _) (d_Z16 x.1 x.2 _ (pp_Z16 x.1 x.2 hx) (tt_Z16 x.1 x.2 hx))
def C_Z3:Cons := []
theorem hC_Z3:ConsOk Tryz.prog C_Z3 := ConsOk.nil
def w_Z3 (p0:Int) (p1:Int) (p2:Int) (K:Bool→Prop):Prop := ((((decide (p1≤p0))=true) →((decide (p1≤p0))=(decide (p1≤p0)))) ∧((((decide (p1≤p0))=true) →((decide (p1≤p0))=(decide (p1≤p0)))) ∧(((decide (p1≤p0))=(decide (p1≤p0))) ∧(K (cond (decide (p1≤p0)) (decide (p0≤p2)) false)))))
theorem w_Z3_eq (p0:Int) (p1:Int) (p2:Int) (K:Bool→Prop):tfn F_Z3 A_Z3 C_Z3 P_Z3 R_Z3 (p0,p1,p2) K = w_Z3 p0 p1 p2 K := by kernel_rfl
def s_Z3 (p0:Int) (p1:Int) (p2:Int):Bool := (cond (decide (p1≤p0)) (decide (p0≤p2)) false)
abbrev pre_Z3 (_p0:Int) (_p1:Int) (_p2:Int):List Prop := []
theorem d_Z3 (p0:Int) (p1:Int) (p2:Int) (K:Bool→Prop) (_hp:∀ p∈pre_Z3 p0 p1 p2,p) (h:K (s_Z3 p0 p1 p2)):w_Z3 p0 p1 p2 K := by
 unfold w_Z3
 unfold s_Z3 at h
 exact ⟨rf,rf,rfl,h⟩
abbrev con_Z3:Con := ⟨P_Z3,R_Z3,fun x => pre_Z3 x.1 x.2.1 x.2.2,fun x => s_Z3 x.1 x.2.1 x.2.2⟩
theorem ok_Z3:ConOk Tryz.prog 21 con_Z3 := okG k_Z3 e_Z3 hC_Z3 fun x hx => tf_of (w_Z3_eq x.1 x.2.1 x.2.2 _) (d_Z3 x.1 x.2.1 x.2.2 _ hx rfl)
theorem tx_within {n lo hi:Int}:s_Z3 n lo hi = true ↔ lo≤n∧n≤hi := by unfold s_Z3; simp
def C_Zh:Cons := []
theorem hC_Zh:ConsOk Tryz.prog C_Zh := ConsOk.nil
def w_Zh (p0:Int) (p1:Int) (p2:Int) (K:Bool→Prop):Prop := ((((decide (p1≤p0))=true) →((decide (p1≤p0))=(decide (p1≤p0)))) ∧((((decide (p1≤p0))=true) →((decide (p1≤p0))=(decide (p1≤p0)))) ∧(((decide (p1≤p0))=(decide (p1≤p0))) ∧(K (cond (decide (p1≤p0)) (decide (p0≤p2)) false)))))
theorem w_Zh_eq (p0:Int) (p1:Int) (p2:Int) (K:Bool→Prop):tfn F_Zh A_Zh C_Zh P_Zh R_Zh (p0,p1,p2) K = w_Zh p0 p1 p2 K := by kernel_rfl
def s_Zh (p0:Int) (p1:Int) (p2:Int):Bool := (cond (decide (p1≤p0)) (decide (p0≤p2)) false)
abbrev pre_Zh (_p0:Int) (_p1:Int) (_p2:Int):List Prop := []
theorem d_Zh (p0:Int) (p1:Int) (p2:Int) (K:Bool→Prop) (_hp:∀ p∈pre_Zh p0 p1 p2,p) (h:K (s_Zh p0 p1 p2)):w_Zh p0 p1 p2 K := by
 unfold w_Zh
 unfold s_Zh at h
 exact ⟨rf,rf,rfl,h⟩
abbrev con_Zh:Con := ⟨P_Zh,R_Zh,fun x => pre_Zh x.1 x.2.1 x.2.2,fun x => s_Zh x.1 x.2.1 x.2.2⟩
theorem ok_Zh:ConOk Tryz.prog 54 con_Zh := okG k_Zh e_Zh hC_Zh fun x hx => tf_of (w_Zh_eq x.1 x.2.1 x.2.2 _) (d_Zh x.1 x.2.1 x.2.2 _ hx rfl)
theorem tx_withinG {n lo hi:Int}:s_Zh n lo hi = s_Z3 n lo hi := rfl
def C_Z4:Cons := []
theorem hC_Z4:ConsOk Tryz.prog C_Z4 := ConsOk.nil
def w_Z4 (p0:Bool) (p1:Int) (K:Int→Prop):Prop := (((p0 = true) →(K zz0)) ∧((p0 = false) →(K p1)))
theorem w_Z4_eq (p0:Bool) (p1:Int) (K:Int→Prop):tfn F_Z4 A_Z4 C_Z4 P_Z4 R_Z4 (p0,p1) K = w_Z4 p0 p1 K := by kernel_rfl
def s_Z4 (p0:Bool) (p1:Int):Int := (cond p0 (0:Int) p1)
abbrev pre_Z4 (_p0:Bool) (_p1:Int):List Prop := []
theorem d_Z4 (p0:Bool) (p1:Int) (K:Int→Prop) (_hp:∀ p∈pre_Z4 p0 p1,p) (h:K (s_Z4 p0 p1)):w_Z4 p0 p1 K := by
 unfold w_Z4
 unfold s_Z4 at h
 exact (br' h (fun e0 h => h)
  (fun e0 h => h))
abbrev con_Z4:Con := ⟨P_Z4,R_Z4,fun x => pre_Z4 x.1 x.2,fun x => s_Z4 x.1 x.2⟩
theorem ok_Z4:ConOk Tryz.prog 52 con_Z4 := okG k_Z4 e_Z4 hC_Z4 fun x hx => tf_of (w_Z4_eq x.1 x.2 _) (d_Z4 x.1 x.2 _ hx rfl)
theorem tx_unless0 {a:Bool} {x:Int} (hx:x ≠ 0) (h:s_Z4 a x = 0):a = true := by
 cases a
 ·exact (hx h).elim
 ·rfl
theorem tx_unless {a:Bool} {x:Int}:s_Z4 a x = cond a 0 x := by cases a <;> rfl
def C_Zm:Cons := []
theorem hC_Zm:ConsOk Tryz.prog C_Zm := ConsOk.nil
def w_Zm (p0:gF) (K:Int→Prop):Prop := (∃ n0,(loopP (fun (y1:Int) k2 => ((((decide (y1 < (p0.length:Int)))=true) →((zz0≤y1) ∧((y1 < (p0.length:Int)) ∧(((((p0.getD y1.toNat zz0) != 0)=true) →(K (p0.getD y1.toNat zz0))) ∧((((p0.getD y1.toNat zz0) != 0)=false) →(k2 (IntKind.i64.wrap (y1 + 1)))))))) ∧(((decide (y1 < (p0.length:Int)))=false) →(K zz0)))) n0 zz0))
theorem w_Zm_eq (p0:gF) (K:Int→Prop):tfn F_Zm A_Zm C_Zm P_Zm R_Zm p0 K = w_Zm p0 K := by kernel_rfl
def st_Zm_0 (p0:gF) (y0:Int):Int ⊕ Int := (cond (decide (y0 < (p0.length:Int))) (cond ((p0.getD y0.toNat (0:Int)) != 0) (Sum.inr (p0.getD y0.toNat (0:Int))) (Sum.inl (IntKind.i64.wrap (y0 + 1)))) (Sum.inr (0:Int)))
abbrev sp_Zm_0 (p0:gF) (y0:Int):List Prop := [(((decide (y0 < (p0.length:Int)))=true)→((0:Int)≤y0)),(((decide (y0 < (p0.length:Int)))=true)→(y0 < (p0.length:Int)))]
def s_Zm (p0:gF):Int := (lpv (0:Int) (st_Zm_0 p0) (0:Int))
abbrev pre_Zm (p0:gF):List Prop := [(OkL (st_Zm_0 p0) (sp_Zm_0 p0) (0:Int))]
theorem d_Zm (p0:gF) (K:Int→Prop) (hp:∀ p∈pre_Zm p0,p) (h:K (s_Zm p0)):w_Zm p0 K := by
 unfold w_Zm
 unfold s_Zm at h
 obtain ⟨hp0,_⟩ := conj_of hp
 exact (loop_gen (hp0) h (fun y0 k0 hp h => by
 unfold st_Zm_0 at h; obtain ⟨hp0,hp1,_⟩ := conj_of hp
 exact (br' h (fun e1 h => ⟨(hp0 e1),(hp1 e1),(br' h (fun e2 h => h)
  (fun e2 h => h))⟩)
  (fun e1 h => h))))
theorem l_Zm_0 (p0:gF) (hl:lenOk p0):OkL (st_Zm_0 p0) (sp_Zm_0 p0) 0∧lpv (0:Int) (st_Zm_0 p0) 0 = v_scan (fun _ x => cond (x != 0) (some x) none) (0:Int) 0 p0 := by
 refine scan_is p0 0 (fun _ x => cond (x != 0) (some x) none) (0:Int) hl ?_ ?_
 ·refine ⟨by simp only [sp_Zm_0,fM,decide_eq_true_eq]; simp,by simp [st_Zm_0]⟩
 ·intro j hj
  have hj' : (j:Int) < p0.length := by omega
  refine ⟨by simp only [sp_Zm_0,fM,decide_eq_true_eq,Int.toNat_natCast]; simp <;> omega,?_⟩
  simp only [st_Zm_0,hj',decide_true,Int.toNat_natCast,cond_true,wrap_nat (show (j:Int)≤9223372036854775806 by unfold lenOk at hl; omega)]
  generalize p0.getD j 0 = x
  cases (x != 0) <;> rfl
abbrev t_Zm (p0:gF):Int := v_first p0
abbrev qre_Zm (p0:gF):List Prop := [lenOk p0]
theorem pp_Zm (p0:gF) (hq:∀ p∈qre_Zm p0,p):∀ p∈pre_Zm p0,p := by
 simp only [pre_Zm,fM]
 exact ⟨(l_Zm_0 p0 (conj_of hq).1).1,by simp⟩
theorem tt_Zm (p0:gF) (hq:∀ p∈qre_Zm p0,p):s_Zm p0 = t_Zm p0 := by
 exact (l_Zm_0 p0 (conj_of hq).1).2.trans (v_first_scan p0 0)

abbrev con_Zm:Con := ⟨P_Zm,R_Zm,fun x => qre_Zm x,fun x => t_Zm x⟩
theorem ok_Zm:ConOk Tryz.prog 53 con_Zm := okG k_Zm e_Zm hC_Zm fun x hx => tf_of (w_Zm_eq x _) (d_Zm x _ (pp_Zm x hx) (tt_Zm x hx))
def C_Z25:Cons := [(54,[],con_Zh)]
theorem hC_Z25:ConsOk Tryz.prog C_Z25 := cC ok_Zh <| ConsOk.nil
def w_Z25 (p0:Int) (K:Bool→Prop):Prop := (K (s_Zh p0 zz1 (20:Int)))
theorem w_Z25_eq (p0:Int) (K:Bool→Prop):tfn F_Z25 A_Z25 C_Z25 P_Z25 R_Z25 p0 K = w_Z25 p0 K := by kernel_rfl
def s_Z25 (p0:Int):Bool := (s_Zh p0 (1:Int) (20:Int))
abbrev pre_Z25 (_p0:Int):List Prop := []
theorem d_Z25 (p0:Int) (K:Bool→Prop) (_hp:∀ p∈pre_Z25 p0,p) (h:K (s_Z25 p0)):w_Z25 p0 K := by
 unfold w_Z25
 unfold s_Z25 at h
 exact h
abbrev con_Z25:Con := ⟨P_Z25,R_Z25,fun x => pre_Z25 x,fun x => s_Z25 x⟩
theorem ok_Z25:ConOk Tryz.prog 126 con_Z25 := okG k_Z25 e_Z25 hC_Z25 fun x hx => tf_of (w_Z25_eq x _) (d_Z25 x _ hx rfl)
def C_Z26:Cons := [(54,[],con_Zh)]
theorem hC_Z26:ConsOk Tryz.prog C_Z26 := cC ok_Zh <| ConsOk.nil
def w_Z26 (p0:Int) (K:Bool→Prop):Prop := (K (s_Zh p0 zz0 (10:Int)))
theorem w_Z26_eq (p0:Int) (K:Bool→Prop):tfn F_Z26 A_Z26 C_Z26 P_Z26 R_Z26 p0 K = w_Z26 p0 K := by kernel_rfl
def s_Z26 (p0:Int):Bool := (s_Zh p0 (0:Int) (10:Int))
abbrev pre_Z26 (_p0:Int):List Prop := []
theorem d_Z26 (p0:Int) (K:Bool→Prop) (_hp:∀ p∈pre_Z26 p0,p) (h:K (s_Z26 p0)):w_Z26 p0 K := by
 unfold w_Z26
 unfold s_Z26 at h
 exact h
abbrev con_Z26:Con := ⟨P_Z26,R_Z26,fun x => pre_Z26 x,fun x => s_Z26 x⟩
theorem ok_Z26:ConOk Tryz.prog 127 con_Z26 := okG k_Z26 e_Z26 hC_Z26 fun x hx => tf_of (w_Z26_eq x _) (d_Z26 x _ hx rfl)
def C_Z27:Cons := [(54,[],con_Zh),(52,[],con_Z4)]
theorem hC_Z27:ConsOk Tryz.prog C_Z27 := cC ok_Zh <| cC ok_Z4 <| ConsOk.nil
def w_Z27 (p0:Int) (K:Int→Prop):Prop := (K (s_Z4 (s_Zh p0 zz1 (20:Int)) (2:Int)))
theorem w_Z27_eq (p0:Int) (K:Int→Prop):tfn F_Z27 A_Z27 C_Z27 P_Z27 R_Z27 p0 K = w_Z27 p0 K := by kernel_rfl
def s_Z27 (p0:Int):Int := (s_Z4 (s_Zh p0 (1:Int) (20:Int)) (2:Int))
abbrev pre_Z27 (_p0:Int):List Prop := []
theorem d_Z27 (p0:Int) (K:Int→Prop) (_hp:∀ p∈pre_Z27 p0,p) (h:K (s_Z27 p0)):w_Z27 p0 K := by
 unfold w_Z27
 unfold s_Z27 at h
 exact h
abbrev con_Z27:Con := ⟨P_Z27,R_Z27,fun x => pre_Z27 x,fun x => s_Z27 x⟩
theorem ok_Z27:ConOk Tryz.prog 81 con_Z27 := okG k_Z27 e_Z27 hC_Z27 fun x hx => tf_of (w_Z27_eq x _) (d_Z27 x _ hx rfl)
def C_Z2b:Cons := []
theorem hC_Z2b:ConsOk Tryz.prog C_Z2b := ConsOk.nil
def w_Z2b (p0:gC) (K:((List (Int×Int))×PUnit)→Prop):Prop := (K (p0,()))
theorem w_Z2b_eq (p0:gC) (K:((List (Int×Int))×PUnit)→Prop):tfn F_Z2b A_Z2b C_Z2b P_Z2b R_Z2b p0 K = w_Z2b p0 K := by kernel_rfl
def s_Z2b (p0:gC):((List (Int×Int))×PUnit) := (p0,())
abbrev pre_Z2b (_p0:gC):List Prop := []
theorem d_Z2b (p0:gC) (K:((List (Int×Int))×PUnit)→Prop) (_hp:∀ p∈pre_Z2b p0,p) (h:K (s_Z2b p0)):w_Z2b p0 K := by
 unfold w_Z2b
 unfold s_Z2b at h
 exact h
abbrev con_Z2b:Con := ⟨P_Z2b,R_Z2b,fun x => pre_Z2b x,fun x => s_Z2b x⟩
theorem ok_Z2b:ConOk Tryz.prog 105 con_Z2b := okG k_Z2b e_Z2b hC_Z2b fun x hx => tf_of (w_Z2b_eq x _) (d_Z2b x _ hx rfl)
abbrev con_Z2n:Con := ⟨.fn 128 [.sl (.pr (.int .i64) (.int .i64))] :: .one (.int .i64) :: [.agg (.pr (.int .i64) (.int .i64))],[.one (.sl (tyPs (.one (.int .i64) :: [.agg (.pr (.int .i64) (.int .i64))])))],fun x => [x.1.1.length≤1000000],fun x => v_bwd 0 x.1.1⟩
theorem ok_Z2n:ConIOk Tryz.prog 128 con_Z2n := by
 refine ⟨rfl,k_Z2n,rfl,fun x hx => ?_⟩
 obtain ⟨h1,_⟩ := conj_of hx
 exact it_bwd (c := 2) (Ty.enc (.pr (.int .i64) (.int .i64))) e_Z2n (fun _ => rfl) x.1 false (Nat.le_trans h1 (by decide))
def C_Z1g:Cons := [(114,[],con_Z16)]
theorem hC_Z1g:ConsOk Tryz.prog C_Z1g := cC ok_Z16 <| ConsOk.nil
def w_Z1g (p0:Int) (p1:Int) (K:(Int×Int)→Prop):Prop := (((zz0≤p0) ∧((zz0 < p1) ∧(p1≤9223372036854775807))) ∧(((v_gcd p0 p1) ≠ zz0) ∧(((v_gcd p0 p1) ≠ zz0) ∧(K ((IntKind.i64.wrap (Int.tdiv p0 (v_gcd p0 p1))),(IntKind.i64.wrap (Int.tdiv p1 (v_gcd p0 p1))))))))
theorem w_Z1g_eq (p0:Int) (p1:Int) (K:(Int×Int)→Prop):tfn F_Z1g A_Z1g C_Z1g P_Z1g R_Z1g (p0,p1) K = w_Z1g p0 p1 K := by kernel_rfl
def s_Z1g (p0:Int) (p1:Int):(Int×Int) := ((IntKind.i64.wrap (Int.tdiv p0 (v_gcd p0 p1))),(IntKind.i64.wrap (Int.tdiv p1 (v_gcd p0 p1))))
abbrev pre_Z1g (p0:Int) (p1:Int):List Prop := [(((0:Int)≤p0)∧(((0:Int) < p1)∧(p1≤9223372036854775807))),((v_gcd p0 p1) ≠ (0:Int))]
theorem d_Z1g (p0:Int) (p1:Int) (K:(Int×Int)→Prop) (hp:∀ p∈pre_Z1g p0 p1,p) (h:K (s_Z1g p0 p1)):w_Z1g p0 p1 K := by
 unfold w_Z1g
 unfold s_Z1g at h
 obtain ⟨hp0,hp1,_⟩ := conj_of hp
 exact ⟨(hp0),(hp1),(hp1),h⟩
/-- A quotient of two numbers,in lowest terms. -/
def v_redu (a b:Int):Int×Int := v_frac ((a:Rat) / (b:Rat))
abbrev t_Z1g (p0 p1:Int):Int×Int := v_redu p0 p1
abbrev qre_Z1g (p0 p1:Int):List Prop := [(0≤p0∧p0≤9223372036854775807)∧0 < p1∧p1≤9223372036854775807]
theorem pp_Z1g (p0 p1:Int) (hq:∀ p∈qre_Z1g p0 p1,p):∀ p∈pre_Z1g p0 p1,p := by
 obtain ⟨h1,h2,h3⟩ := (conj_of hq).1
 simp only [pre_Z1g,fM]
 have := v_gcd_pos (a := p0) (b := p1) (by omega)
 exact ⟨⟨h1.1,h2,h3⟩,by omega,by simp⟩
theorem tt_Z1g (p0 p1:Int) (hq:∀ p∈qre_Z1g p0 p1,p):s_Z1g p0 p1 = t_Z1g p0 p1 := by
 obtain ⟨h1,h2,h3⟩ := (conj_of hq).1
 unfold s_Z1g t_Z1g v_redu
 rw [← v_low_frac h2]
 unfold v_low
 have hg := v_gcd_pos (a := p0) (b := p1) (by omega)
 simp only
 rw [Int.tdiv_eq_ediv_of_dvd (v_gcd_dvd_left _ _),Int.tdiv_eq_ediv_of_dvd (v_gcd_dvd_right _ _)]
 have b1 := Int.ediv_nonneg h1.1 (show 0≤v_gcd p0 p1 by omega)
 have b2 := Int.ediv_le_self (v_gcd p0 p1) h1.1
 have b3 := Int.ediv_nonneg (show 0≤p1 by omega) (show 0≤v_gcd p0 p1 by omega)
 have b4 := Int.ediv_le_self (v_gcd p0 p1) (show 0≤p1 by omega)
 rw [wrap_id (by omega) (by omega),wrap_id (by omega) (by omega)]

abbrev con_Z1g:Con := ⟨P_Z1g,R_Z1g,fun x => qre_Z1g x.1 x.2,fun x => t_Z1g x.1 x.2⟩
theorem ok_Z1g:ConOk Tryz.prog 95 con_Z1g := okG k_Z1g e_Z1g hC_Z1g fun x hx => tf_of (w_Z1g_eq x.1 x.2 _) (d_Z1g x.1 x.2 _ (pp_Z1g x.1 x.2 hx) (tt_Z1g x.1 x.2 hx))
def C_Zq:Cons := [(105,[],con_Z2b),(128,itMark,con_Z2n),(95,[],con_Z1g)]
theorem hC_Zq:ConsOk Tryz.prog C_Zq := cC ok_Z2b <| ConsOk.consI ok_Z2n <| cC ok_Z1g <| ConsOk.nil
def w_Zq (p0:gC) (p1:Int) (K:(Int×Int)→Prop):Prop := ((p0.length≤1000000) ∧(RngP (fun (y0:gG) (z1:(Int×(Int×Int))) k2 => ((((z1.1 == (IntKind.i64.wrap ((p0.length:Int) - 1)))=true) →(k2 (z1.2.1,zz1))) ∧(((z1.1 == (IntKind.i64.wrap ((p0.length:Int) - 1)))=false) →((((zz0≤(IntKind.i64.wrap (z1.2.1 * (IntKind.i64.wrap ((IntKind.i64.wrap (y0.1 * (IntKind.i64.wrap (z1.2.2 + p1)))) + (IntKind.i64.wrap ((IntKind.i64.wrap (z1.2.1 * z1.2.2)) * y0.2))))))) ∧((IntKind.i64.wrap (z1.2.1 * (IntKind.i64.wrap ((IntKind.i64.wrap (y0.1 * (IntKind.i64.wrap (z1.2.2 + p1)))) + (IntKind.i64.wrap ((IntKind.i64.wrap (z1.2.1 * z1.2.2)) * y0.2))))))≤9223372036854775807)) ∧((zz0 < (IntKind.i64.wrap ((IntKind.i64.wrap ((IntKind.i64.wrap (z1.2.1 * y0.2)) * (IntKind.i64.wrap (z1.2.2 + p1)))) + (IntKind.i64.wrap (y0.1 * z1.2.2))))) ∧((IntKind.i64.wrap ((IntKind.i64.wrap ((IntKind.i64.wrap (z1.2.1 * y0.2)) * (IntKind.i64.wrap (z1.2.2 + p1)))) + (IntKind.i64.wrap (y0.1 * z1.2.2))))≤9223372036854775807))) ∧(k2 (v_redu (IntKind.i64.wrap (z1.2.1 * (IntKind.i64.wrap ((IntKind.i64.wrap (y0.1 * (IntKind.i64.wrap (z1.2.2 + p1)))) + (IntKind.i64.wrap ((IntKind.i64.wrap (z1.2.1 * z1.2.2)) * y0.2)))))) (IntKind.i64.wrap ((IntKind.i64.wrap ((IntKind.i64.wrap (z1.2.1 * y0.2)) * (IntKind.i64.wrap (z1.2.2 + p1)))) + (IntKind.i64.wrap (y0.1 * z1.2.2)))))))))) (fun (s3:gG) => (K s3)) (v_bwd zz0 p0) (zz0,zz0)))
theorem w_Zq_eq (p0:gC) (p1:Int) (K:(Int×Int)→Prop):tfn F_Zq A_Zq C_Zq P_Zq R_Zq (p0,p1) K = w_Zq p0 p1 K := by kernel_rfl
def st_Zq_0 (p0:gC) (p1:Int) (y0:gG) (z0:(Int×(Int×Int))):(Int×Int) ⊕ (Int×Int) := (cond (z0.1 == (IntKind.i64.wrap ((p0.length:Int) - 1))) (Sum.inl (z0.2.1,(1:Int))) (Sum.inl (v_redu (IntKind.i64.wrap (z0.2.1 * (IntKind.i64.wrap ((IntKind.i64.wrap (y0.1 * (IntKind.i64.wrap (z0.2.2 + p1)))) + (IntKind.i64.wrap ((IntKind.i64.wrap (z0.2.1 * z0.2.2)) * y0.2)))))) (IntKind.i64.wrap ((IntKind.i64.wrap ((IntKind.i64.wrap (z0.2.1 * y0.2)) * (IntKind.i64.wrap (z0.2.2 + p1)))) + (IntKind.i64.wrap (y0.1 * z0.2.2)))))))
abbrev sp_Zq_0 (p0:gC) (p1:Int) (y0:gG) (z0:(Int×(Int×Int))):List Prop := [(((z0.1 == (IntKind.i64.wrap ((p0.length:Int) - 1)))=false)→((((0:Int)≤(IntKind.i64.wrap (z0.2.1 * (IntKind.i64.wrap ((IntKind.i64.wrap (y0.1 * (IntKind.i64.wrap (z0.2.2 + p1)))) + (IntKind.i64.wrap ((IntKind.i64.wrap (z0.2.1 * z0.2.2)) * y0.2)))))))∧((IntKind.i64.wrap (z0.2.1 * (IntKind.i64.wrap ((IntKind.i64.wrap (y0.1 * (IntKind.i64.wrap (z0.2.2 + p1)))) + (IntKind.i64.wrap ((IntKind.i64.wrap (z0.2.1 * z0.2.2)) * y0.2))))))≤9223372036854775807))∧(((0:Int) < (IntKind.i64.wrap ((IntKind.i64.wrap ((IntKind.i64.wrap (z0.2.1 * y0.2)) * (IntKind.i64.wrap (z0.2.2 + p1)))) + (IntKind.i64.wrap (y0.1 * z0.2.2)))))∧((IntKind.i64.wrap ((IntKind.i64.wrap ((IntKind.i64.wrap (z0.2.1 * y0.2)) * (IntKind.i64.wrap (z0.2.2 + p1)))) + (IntKind.i64.wrap (y0.1 * z0.2.2))))≤9223372036854775807))))]
def sf_Zq_0 (_p0:gC) (_p1:Int) (s0:gG):(Int×Int) := s0
abbrev sq_Zq_0 (_p0:gC) (_p1:Int) (_s0:gG):List Prop := []
def s_Zq (p0:gC) (p1:Int):(Int×Int) := (rngV (st_Zq_0 p0 p1) (sf_Zq_0 p0 p1) (v_bwd (0:Int) p0) (0,0))
abbrev pre_Zq (p0:gC) (p1:Int):List Prop := [(p0.length≤1000000),(OkR (st_Zq_0 p0 p1) (sp_Zq_0 p0 p1) (sq_Zq_0 p0 p1) (v_bwd (0:Int) p0) (0,0))]
theorem d_Zq (p0:gC) (p1:Int) (K:(Int×Int)→Prop) (hp:∀ p∈pre_Zq p0 p1,p) (h:K (s_Zq p0 p1)):w_Zq p0 p1 K := by
 unfold w_Zq
 unfold s_Zq at h
 obtain ⟨hp0,hp1,_⟩ := conj_of hp
 exact ⟨(hp0),(rng_gen (hp1) h (fun y0 z0 k0 hp h => by
 unfold st_Zq_0 at h; obtain ⟨hp0,_⟩ := conj_of hp
 exact (br' h (fun e1 h => h)
  (fun e1 h => ⟨(hp0 e1),h⟩))) (fun s0 hp h => by
 unfold sf_Zq_0 at h
 exact h))⟩
/-- Whether a model is valid,and a scale. -/
structure v_mok (l:gC):Prop where
 ne:l ≠ []
 len:l.length≤4
 ok:∀ x∈l,v_lok x
 last:∀ (a:gC) (x:gG),l = a ++ [x]→x.2 = 0
abbrev v_sok (s:Int):Prop := 1≤s∧s≤20
/-- The parts of the response of n + 1 layers are at most so great. -/
theorem v_resp_parts {s:Int} (hs:v_sok s):∀ {l:List (Int×Int)},l ≠ []→(∀ x∈l,v_lok x)→(v_frac (v_resp s l)).2≤800 ^ (l.length - 1)
 | [],h,_ => absurd rfl h
 | [x],_,_ => by
  have e:(v_frac (v_resp s [x])).2 = 1 := rfl
  rw [e]
  show (1:Int)≤800 ^ 0
  decide
 | x :: y :: r,_,hk => by
  rw [v_resp_c s x (by simp)]
  have ih := v_resp_parts hs (l := y :: r) (by simp) (fun z hz => hk z (List.mem_cons_of_mem _ hz))
  have h1 := v_resp_1le (s := s) (l := y :: r) (by omega) (by simp) (fun z hz => hk z (List.mem_cons_of_mem _ hz))
  have h2 := v_resp_le20 (s := s) (l := y :: r) (by omega) (by simp) (fun z hz => hk z (List.mem_cons_of_mem _ hz))
  obtain ⟨p1,p2,p3,p4,p5,_⟩ := v_step_parts hs (hk x (by simp)) h1 h2 ih
  rw [p5]
  have := (v_frac_le p3 p1).2.2
  have e:(800:Int) ^ ((x :: y :: r).length - 1)=800 * 800 ^ ((y :: r).length - 1) := by
   rw [List.length_cons,Nat.add_sub_cancel,show (y :: r).length = (y :: r).length - 1 + 1 by simp,Int.pow_succ,Int.mul_comm]; simp
  rw [e]; omega
theorem v_pow800 {n:Nat} (h:n≤3):(800:Int) ^ n≤512000000 := by
 match n,h with
 | 0,_ | 1,_ | 2,_ | 3,_ => decide
theorem v_resp_small {s:Int} (hs:v_sok s) {l:List (Int×Int)} (h:v_mok l):1≤(v_frac (v_resp s l)).2∧(v_frac (v_resp s l)).2≤512000000∧0 < (v_frac (v_resp s l)).1∧(v_frac (v_resp s l)).1≤20 * (v_frac (v_resp s l)).2 := by
 have h1 := v_resp_parts hs h.ne h.ok
 have h2 := v_pow800 (n := l.length - 1) (by have := h.len; omega)
 have h3 := v_frac_pos (v_resp s l)
 have h4 := v_rle_frac.1 (v_resp_le20 (s := s) (by omega) h.ne h.ok)
 have h5 := v_rle_frac.1 (v_resp_1le (s := s) (by omega) h.ne h.ok)
 have e4:v_frac 20 = (20,1) := rfl
 have e5:v_frac 1 = (1,1) := rfl
 rw [e4] at h4
 rw [e5] at h5
 simp only at h4 h5
 omega
/-- What is carried from below. -/
def v_rst (s:Int):List (Int×Int)→Int×Int
 | [] => (0,0)
 | x :: r => v_frac (v_resp s (x :: r))
theorem l_Zq_0 (p0:gC) (p1:Int) (hm:v_mok p0) (hs:v_sok p1):OkR (st_Zq_0 p0 p1) (sp_Zq_0 p0 p1) (sq_Zq_0 p0 p1) (v_bwd 0 p0) (0,0)∧rngV (st_Zq_0 p0 p1) (sf_Zq_0 p0 p1) (v_bwd 0 p0) (0,0)=v_rst p1 p0 := by
 have hl := hm.len
 refine rng_bwd (v_rst p1) p0 ?_ (by simp [sq_Zq_0])
 intro a x r e
 have hlen:p0.length = a.length + 1 + r.length := by rw [e]; simp; omega
 have hw:IntKind.i64.wrap ((p0.length:Int) - 1)=(p0.length:Int) - 1 := wrap_id (by omega) (by omega)
 have hx:v_lok x := hm.ok x (by rw [e]; simp)
 simp only [sp_Zq_0,st_Zq_0,hw,fM]
 cases r with
 | nil =>
  have:((a.length:Int) == (p0.length:Int) - 1)=true := by rw [beq_iff_eq,hlen]; simp only [List.length_nil]; omega
  rw [this]
  refine ⟨by simp,?_⟩
  simp only [cond_true]
  rfl
 | cons y r =>
  have:((a.length:Int) == (p0.length:Int) - 1)=false := by rw [beq_eq_false_iff_ne,hlen]; simp only [List.length_cons]; omega
  rw [this]
  have hk:∀ z∈y :: r,v_lok z := fun z hz => hm.ok z (by rw [e]; simp at hz ⊢; rcases hz with h | h <;> simp [h])
  have h1 := v_resp_1le (s := p1) (l := y :: r) (by omega) (by simp) hk
  have h2 := v_resp_le20 (s := p1) (l := y :: r) (by omega) (by simp) hk
  have h3 := v_resp_parts hs (l := y :: r) (by simp) hk
  have h4:(v_frac (v_resp p1 (y :: r))).2≤640000 := by
   have:(y :: r).length - 1≤2 := by have := hlen; simp only [List.length_cons] at this ⊢; omega
   have:(800:Int) ^ ((y :: r).length - 1)≤640000 := by
    match (y :: r).length - 1,this with
    | 0,_ | 1,_ | 2,_ => decide
   omega
  obtain ⟨q1,q2,q3,q4,q5,q6,q7⟩ := v_step_parts hs hx h1 h2 h4
  have hp := v_frac_pos (v_resp p1 (y :: r))
  have e2:v_rst p1 (y :: r)=v_frac (v_resp p1 (y :: r)) := rfl
  have e3:v_rst p1 (x :: y :: r)=v_frac (v_step p1 x (v_resp p1 (y :: r))) := by
   show v_frac (v_resp p1 (x :: y :: r))=_
   rw [v_resp_c p1 x (by simp)]
  rw [e2,e3,q5]
  simp only [w_add_l,w_add_r,w_mul_l,w_mul_r]
  generalize (v_frac (v_resp p1 (y :: r))).1 = N at *
  generalize (v_frac (v_resp p1 (y :: r))).2 = M at *
  have w1:IntKind.i64.wrap (x.1 * (N * (x.2 + p1) + x.1 * x.2 * M))=x.1 * (N * (x.2 + p1) + x.1 * x.2 * M) := wrap_id (by omega) (by omega)
  have w2:IntKind.i64.wrap (x.1 * M * (x.2 + p1) + N * x.2)=x.1 * M * (x.2 + p1) + N * x.2 := wrap_id (by omega) (by omega)
  rw [w1,w2]
  refine ⟨⟨fun _ => ⟨⟨q3,by omega⟩,q1,by omega⟩,by simp⟩,rfl⟩
abbrev t_Zq (p0:gC) (p1:Int):Int×Int := v_frac (v_resp p1 p0)
abbrev qre_Zq (p0:gC) (p1:Int):List Prop := [v_mok p0,v_sok p1]
theorem pp_Zq (p0:gC) (p1:Int) (hq:∀ p∈qre_Zq p0 p1,p):∀ p∈pre_Zq p0 p1,p := by
 obtain ⟨h1,h2,_⟩ := conj_of hq
 simp only [pre_Zq,fM]
 exact ⟨by have := h1.len; omega,(l_Zq_0 p0 p1 h1 h2).1,by simp⟩
theorem tt_Zq (p0:gC) (p1:Int) (hq:∀ p∈qre_Zq p0 p1,p):s_Zq p0 p1 = t_Zq p0 p1 := by
 obtain ⟨h1,h2,_⟩ := conj_of hq
 refine (l_Zq_0 p0 p1 h1 h2).2.trans ?_
 cases p0 with
 | nil => exact absurd rfl h1.ne
 | cons x r => rfl

abbrev con_Zq:Con := ⟨P_Zq,R_Zq,fun x => qre_Zq x.1 x.2,fun x => t_Zq x.1 x.2⟩
theorem ok_Zq:ConOk Tryz.prog 82 con_Zq := okG k_Zq e_Zq hC_Zq fun x hx => tf_of (w_Zq_eq x.1 x.2 _) (d_Zq x.1 x.2 _ (pp_Zq x.1 x.2 hx) (tt_Zq x.1 x.2 hx))
theorem tx_first2 {x y:Int}:v_first [x,y]=cond (x != 0) x y := by
 simp only [v_first]
 cases h:(x != 0)
 ·cases h2:(y != 0)
  ·simp at h2; subst h2; rfl
  ·rfl
 ·rfl
theorem tx_first1 {x y:Int} (h:(v_first [x,y] != 0)=false):x = 0∧y = 0 := by
 rw [tx_first2] at h
 rcases int0 x with ⟨h0,e,_⟩ | ⟨h0,e,_⟩
 ·rw [e] at h; exact ⟨h0,by simpa using h⟩
 ·rw [e] at h; simp only [cond_true] at h; rw [e] at h; cases h
def C_Z11:Cons := [(126,[],con_Z25),(52,[],con_Z4),(53,[],con_Zm)]
theorem hC_Z11:ConsOk Tryz.prog C_Z11 := cC ok_Z25 <| cC ok_Z4 <| cC ok_Zm <| ConsOk.nil
def w_Z11 (p0:gF) (_p1:PUnit) (K:Int→Prop):Prop := (∃ n0,(loopP (fun (y1:Int) k2 => ((((decide (y1 < (p0.length:Int)))=true) →((zz0≤y1) ∧((y1 < (p0.length:Int)) ∧((((y1 == 0)=false) →((y1 == 0)=(y1 == 0))) ∧((((y1 == 0)=false) →((y1 == 0)=(y1 == 0))) ∧((((y1 == 0)=false) →((y1 == 0)=(y1 == 0))) ∧((((y1 == 0)=false) →((y1 == 0)=(y1 == 0))) ∧((((y1 == 0)=false) →(zz0≤(max zz0 (IntKind.i64.wrap (y1 - 1))))) ∧((((y1 == 0)=false) →((max zz0 (IntKind.i64.wrap (y1 - 1))) < (p0.length:Int))) ∧((((y1 == 0)=false) →((y1 == 0)=(y1 == 0))) ∧((((y1 == 0)=false) →((y1 == 0)=(y1 == 0))) ∧((((y1 == 0)=false) →((y1 == 0)=(y1 == 0))) ∧(((y1 == 0)=(y1 == 0)) ∧((lenOk ((s_Z4 (s_Zh (p0.getD y1.toNat zz0) zz1 (20:Int)) (2:Int)) :: ((s_Z4 (cond (y1 == 0) true (decide ((p0.getD y1.toNat zz0) > (p0.getD (Int.toNat (max zz0 (IntKind.i64.wrap (y1 - 1)))) zz0)))) (9:Int)) :: ([]:List Int)))) ∧(((((v_first ((s_Z4 (s_Zh (p0.getD y1.toNat zz0) zz1 (20:Int)) (2:Int)) :: ((s_Z4 (cond (y1 == 0) true (decide ((p0.getD y1.toNat zz0) > (p0.getD (Int.toNat (max zz0 (IntKind.i64.wrap (y1 - 1)))) zz0)))) (9:Int)) :: ([]:List Int)))) != 0)=true) →(K (v_first ((s_Z4 (s_Zh (p0.getD y1.toNat zz0) zz1 (20:Int)) (2:Int)) :: ((s_Z4 (cond (y1 == 0) true (decide ((p0.getD y1.toNat zz0) > (p0.getD (Int.toNat (max zz0 (IntKind.i64.wrap (y1 - 1)))) zz0)))) (9:Int)) :: ([]:List Int)))))) ∧((((v_first ((s_Z4 (s_Zh (p0.getD y1.toNat zz0) zz1 (20:Int)) (2:Int)) :: ((s_Z4 (cond (y1 == 0) true (decide ((p0.getD y1.toNat zz0) > (p0.getD (Int.toNat (max zz0 (IntKind.i64.wrap (y1 - 1)))) zz0)))) (9:Int)) :: ([]:List Int)))) != 0)=false) →(k2 (IntKind.i64.wrap (y1 + 1))))))))))))))))))) ∧(((decide (y1 < (p0.length:Int)))=false) →(K zz0)))) n0 zz0))
theorem w_Z11_eq (p0:gF) (p1:PUnit) (K:Int→Prop):tfn F_Z11 A_Z11 C_Z11 P_Z11 R_Z11 (p0,p1) K = w_Z11 p0 p1 K := by kernel_rfl
def st_Z11_0 (p0:gF) (_p1:PUnit) (y0:Int):Int ⊕ Int := (cond (decide (y0 < (p0.length:Int))) (cond ((v_first ((s_Z4 (s_Zh (p0.getD y0.toNat (0:Int)) (1:Int) (20:Int)) (2:Int)) :: ((s_Z4 (cond (y0 == 0) true (decide ((p0.getD y0.toNat (0:Int)) > (p0.getD (Int.toNat (max (0:Int) (IntKind.i64.wrap (y0 - 1)))) (0:Int))))) (9:Int)) :: ([]:List Int)))) != 0) (Sum.inr (v_first ((s_Z4 (s_Zh (p0.getD y0.toNat (0:Int)) (1:Int) (20:Int)) (2:Int)) :: ((s_Z4 (cond (y0 == 0) true (decide ((p0.getD y0.toNat (0:Int)) > (p0.getD (Int.toNat (max (0:Int) (IntKind.i64.wrap (y0 - 1)))) (0:Int))))) (9:Int)) :: ([]:List Int))))) (Sum.inl (IntKind.i64.wrap (y0 + 1)))) (Sum.inr (0:Int)))
abbrev sp_Z11_0 (p0:gF) (_p1:PUnit) (y0:Int):List Prop := [(((decide (y0 < (p0.length:Int)))=true)→((0:Int)≤y0)),(((decide (y0 < (p0.length:Int)))=true)→(y0 < (p0.length:Int))),(((decide (y0 < (p0.length:Int)))=true)→(((y0 == 0)=false)→((0:Int)≤(max (0:Int) (IntKind.i64.wrap (y0 - 1)))))),(((decide (y0 < (p0.length:Int)))=true)→(((y0 == 0)=false)→((max (0:Int) (IntKind.i64.wrap (y0 - 1))) < (p0.length:Int))))]
def s_Z11 (p0:gF) (p1:PUnit):Int := (lpv (0:Int) (st_Z11_0 p0 p1) (0:Int))
abbrev pre_Z11 (p0:gF) (p1:PUnit):List Prop := [(OkL (st_Z11_0 p0 p1) (sp_Z11_0 p0 p1) (0:Int))]
theorem d_Z11 (p0:gF) (p1:PUnit) (K:Int→Prop) (hp:∀ p∈pre_Z11 p0 p1,p) (h:K (s_Z11 p0 p1)):w_Z11 p0 p1 K := by
 unfold w_Z11
 unfold s_Z11 at h
 obtain ⟨hp0,_⟩ := conj_of hp
 exact (loop_gen (hp0) h (fun y0 k0 hp h => by
 unfold st_Z11_0 at h; obtain ⟨hp0,hp1,hp2,hp3,_⟩ := conj_of hp
 exact (br' h (fun e1 h => ⟨(hp0 e1),(hp1 e1),rf,rf,rf,rf,(hp2 e1),(hp3 e1),rf,rf,rf,rfl,(lenOk_of 2 rfl (by decide)),(br' h (fun e2 h => h)
  (fun e2 h => h))⟩)
  (fun e1 h => h))))
/-- What is wrong with an ascending list of numbers within bounds. -/
def v_ls1 (lo hi:Int) (l:gF) (i:Int) (n:Int):Option Int := cond (s_Z3 n lo hi) (cond (cond (i == 0) true (decide (n > l.getD (i - 1).toNat 0))) none (some 9)) (some 2)
def v_ls (lo hi:Int) (l:gF):Int := v_scan (v_ls1 lo hi l) 0 0 l
theorem v_first_c (x:Int) (r:gF):v_first (x :: r)=cond (x != 0) x (v_first r) := rfl
theorem v_first_1 (x:Int):v_first [x]=x := by
 rw [v_first_c]
 rcases int0 x with ⟨h,e,_⟩ | ⟨h,e,_⟩ <;> rw [e]
 ·rw [h]; rfl
 ·rfl
theorem l_Z11_0 (p0:gF) (p1:PUnit) (hl:lenOk p0):OkL (st_Z11_0 p0 p1) (sp_Z11_0 p0 p1) 0∧lpv (0:Int) (st_Z11_0 p0 p1) 0 = v_scan (v_ls1 1 20 p0) (0:Int) 0 p0 := by
 refine scan_is p0 0 (v_ls1 1 20 p0) (0:Int) hl ?_ ?_
 ·refine ⟨by simp only [sp_Z11_0,fM,decide_eq_true_eq]; simp,by simp [st_Z11_0]⟩
 ·intro j hj
  have hj' : (j:Int) < p0.length := by omega
  have hw := wrap_nat (show (j:Int)≤9223372036854775806 by unfold lenOk at hl; omega)
  have hw2:IntKind.i64.wrap ((j:Int) - 1)=(j:Int) - 1 := wrap_id (by omega) (by unfold lenOk at hl; omega)
  refine ⟨by simp only [sp_Z11_0,fM,decide_eq_true_eq,Int.toNat_natCast]; rw [hw2]; and_intros <;> first | (intro p hp; cases hp; done) | (intros; first | omega | (simp_all; done) | (simp_all; omega)),?_⟩
  simp only [st_Z11_0,hj',decide_true,Int.toNat_natCast,cond_true,hw]
  unfold v_ls1
  simp only [tx_unless,tx_first2,tx_withinG]
  rcases Nat.eq_zero_or_pos j with h0 | h0
  ·subst h0
   cases s_Z3 (p0.getD 0 0) 1 20 <;> rfl
  ·have hz:((j:Int) == 0)=false := beq_eq_false_iff_ne.2 (by omega)
   have hm:(max 0 ((j:Int) - 1)).toNat = ((j:Int) - 1).toNat := by rw [Int.max_eq_right (by omega)]
   rw [hz,hw2,hm]
   cases s_Z3 (p0.getD j 0) 1 20 <;> cases decide (p0.getD j 0 > p0.getD ((j:Int) - 1).toNat 0) <;> rfl
abbrev t_Z11 (p0:gF) (_p1:PUnit):Int := v_ls 1 20 p0
abbrev qre_Z11 (p0:gF) (_p1:PUnit):List Prop := [lenOk p0]
theorem pp_Z11 (p0:gF) (p1:PUnit) (hq:∀ p∈qre_Z11 p0 p1,p):∀ p∈pre_Z11 p0 p1,p := by
 obtain ⟨h1,_⟩ := conj_of hq
 simp only [pre_Z11,fM]
 exact ⟨(l_Z11_0 p0 p1 h1).1,(by intro p hp; cases hp)⟩
theorem tt_Z11 (p0:gF) (p1:PUnit) (hq:∀ p∈qre_Z11 p0 p1,p):s_Z11 p0 p1 = t_Z11 p0 p1 := by
 obtain ⟨h1,_⟩ := conj_of hq
 exact (l_Z11_0 p0 p1 h1).2

abbrev con_Z11:Con := ⟨P_Z11,R_Z11,fun x => qre_Z11 x.1 x.2,fun x => t_Z11 x.1 x.2⟩
theorem ok_Z11:ConOk Tryz.prog 129 con_Z11 := okG k_Z11 e_Z11 hC_Z11 fun x hx => tf_of (w_Z11_eq x.1 x.2 _) (d_Z11 x.1 x.2 _ (pp_Z11 x.1 x.2 hx) (tt_Z11 x.1 x.2 hx))
def C_Z18:Cons := [(127,[],con_Z26),(52,[],con_Z4),(53,[],con_Zm)]
theorem hC_Z18:ConsOk Tryz.prog C_Z18 := cC ok_Z26 <| cC ok_Z4 <| cC ok_Zm <| ConsOk.nil
def w_Z18 (p0:gF) (_p1:PUnit) (K:Int→Prop):Prop := (∃ n0,(loopP (fun (y1:Int) k2 => ((((decide (y1 < (p0.length:Int)))=true) →((zz0≤y1) ∧((y1 < (p0.length:Int)) ∧((((y1 == 0)=false) →((y1 == 0)=(y1 == 0))) ∧((((y1 == 0)=false) →((y1 == 0)=(y1 == 0))) ∧((((y1 == 0)=false) →((y1 == 0)=(y1 == 0))) ∧((((y1 == 0)=false) →((y1 == 0)=(y1 == 0))) ∧((((y1 == 0)=false) →(zz0≤(max zz0 (IntKind.i64.wrap (y1 - 1))))) ∧((((y1 == 0)=false) →((max zz0 (IntKind.i64.wrap (y1 - 1))) < (p0.length:Int))) ∧((((y1 == 0)=false) →((y1 == 0)=(y1 == 0))) ∧((((y1 == 0)=false) →((y1 == 0)=(y1 == 0))) ∧((((y1 == 0)=false) →((y1 == 0)=(y1 == 0))) ∧(((y1 == 0)=(y1 == 0)) ∧((lenOk ((s_Z4 (s_Zh (p0.getD y1.toNat zz0) zz0 (10:Int)) (2:Int)) :: ((s_Z4 (cond (y1 == 0) true (decide ((p0.getD y1.toNat zz0) > (p0.getD (Int.toNat (max zz0 (IntKind.i64.wrap (y1 - 1)))) zz0)))) (9:Int)) :: ([]:List Int)))) ∧(((((v_first ((s_Z4 (s_Zh (p0.getD y1.toNat zz0) zz0 (10:Int)) (2:Int)) :: ((s_Z4 (cond (y1 == 0) true (decide ((p0.getD y1.toNat zz0) > (p0.getD (Int.toNat (max zz0 (IntKind.i64.wrap (y1 - 1)))) zz0)))) (9:Int)) :: ([]:List Int)))) != 0)=true) →(K (v_first ((s_Z4 (s_Zh (p0.getD y1.toNat zz0) zz0 (10:Int)) (2:Int)) :: ((s_Z4 (cond (y1 == 0) true (decide ((p0.getD y1.toNat zz0) > (p0.getD (Int.toNat (max zz0 (IntKind.i64.wrap (y1 - 1)))) zz0)))) (9:Int)) :: ([]:List Int)))))) ∧((((v_first ((s_Z4 (s_Zh (p0.getD y1.toNat zz0) zz0 (10:Int)) (2:Int)) :: ((s_Z4 (cond (y1 == 0) true (decide ((p0.getD y1.toNat zz0) > (p0.getD (Int.toNat (max zz0 (IntKind.i64.wrap (y1 - 1)))) zz0)))) (9:Int)) :: ([]:List Int)))) != 0)=false) →(k2 (IntKind.i64.wrap (y1 + 1))))))))))))))))))) ∧(((decide (y1 < (p0.length:Int)))=false) →(K zz0)))) n0 zz0))
theorem w_Z18_eq (p0:gF) (p1:PUnit) (K:Int→Prop):tfn F_Z18 A_Z18 C_Z18 P_Z18 R_Z18 (p0,p1) K = w_Z18 p0 p1 K := by kernel_rfl
def st_Z18_0 (p0:gF) (_p1:PUnit) (y0:Int):Int ⊕ Int := (cond (decide (y0 < (p0.length:Int))) (cond ((v_first ((s_Z4 (s_Zh (p0.getD y0.toNat (0:Int)) (0:Int) (10:Int)) (2:Int)) :: ((s_Z4 (cond (y0 == 0) true (decide ((p0.getD y0.toNat (0:Int)) > (p0.getD (Int.toNat (max (0:Int) (IntKind.i64.wrap (y0 - 1)))) (0:Int))))) (9:Int)) :: ([]:List Int)))) != 0) (Sum.inr (v_first ((s_Z4 (s_Zh (p0.getD y0.toNat (0:Int)) (0:Int) (10:Int)) (2:Int)) :: ((s_Z4 (cond (y0 == 0) true (decide ((p0.getD y0.toNat (0:Int)) > (p0.getD (Int.toNat (max (0:Int) (IntKind.i64.wrap (y0 - 1)))) (0:Int))))) (9:Int)) :: ([]:List Int))))) (Sum.inl (IntKind.i64.wrap (y0 + 1)))) (Sum.inr (0:Int)))
abbrev sp_Z18_0 (p0:gF) (_p1:PUnit) (y0:Int):List Prop := [(((decide (y0 < (p0.length:Int)))=true)→((0:Int)≤y0)),(((decide (y0 < (p0.length:Int)))=true)→(y0 < (p0.length:Int))),(((decide (y0 < (p0.length:Int)))=true)→(((y0 == 0)=false)→((0:Int)≤(max (0:Int) (IntKind.i64.wrap (y0 - 1)))))),(((decide (y0 < (p0.length:Int)))=true)→(((y0 == 0)=false)→((max (0:Int) (IntKind.i64.wrap (y0 - 1))) < (p0.length:Int))))]
def s_Z18 (p0:gF) (p1:PUnit):Int := (lpv (0:Int) (st_Z18_0 p0 p1) (0:Int))
abbrev pre_Z18 (p0:gF) (p1:PUnit):List Prop := [(OkL (st_Z18_0 p0 p1) (sp_Z18_0 p0 p1) (0:Int))]
theorem d_Z18 (p0:gF) (p1:PUnit) (K:Int→Prop) (hp:∀ p∈pre_Z18 p0 p1,p) (h:K (s_Z18 p0 p1)):w_Z18 p0 p1 K := by
 unfold w_Z18
 unfold s_Z18 at h
 obtain ⟨hp0,_⟩ := conj_of hp
 exact (loop_gen (hp0) h (fun y0 k0 hp h => by
 unfold st_Z18_0 at h; obtain ⟨hp0,hp1,hp2,hp3,_⟩ := conj_of hp
 exact (br' h (fun e1 h => ⟨(hp0 e1),(hp1 e1),rf,rf,rf,rf,(hp2 e1),(hp3 e1),rf,rf,rf,rfl,(lenOk_of 2 rfl (by decide)),(br' h (fun e2 h => h)
  (fun e2 h => h))⟩)
  (fun e1 h => h))))
theorem l_Z18_0 (p0:gF) (p1:PUnit) (hl:lenOk p0):OkL (st_Z18_0 p0 p1) (sp_Z18_0 p0 p1) 0∧lpv (0:Int) (st_Z18_0 p0 p1) 0 = v_scan (v_ls1 0 10 p0) (0:Int) 0 p0 := by
 refine scan_is p0 0 (v_ls1 0 10 p0) (0:Int) hl ?_ ?_
 ·refine ⟨by simp only [sp_Z18_0,fM,decide_eq_true_eq]; simp,by simp [st_Z18_0]⟩
 ·intro j hj
  have hj' : (j:Int) < p0.length := by omega
  have hw := wrap_nat (show (j:Int)≤9223372036854775806 by unfold lenOk at hl; omega)
  have hw2:IntKind.i64.wrap ((j:Int) - 1)=(j:Int) - 1 := wrap_id (by omega) (by unfold lenOk at hl; omega)
  refine ⟨by simp only [sp_Z18_0,fM,decide_eq_true_eq,Int.toNat_natCast]; rw [hw2]; and_intros <;> first | (intro p hp; cases hp; done) | (intros; first | omega | (simp_all; done) | (simp_all; omega)),?_⟩
  simp only [st_Z18_0,hj',decide_true,Int.toNat_natCast,cond_true,hw]
  unfold v_ls1
  simp only [tx_unless,tx_first2,tx_withinG]
  rcases Nat.eq_zero_or_pos j with h0 | h0
  ·subst h0
   cases s_Z3 (p0.getD 0 0) 0 10 <;> rfl
  ·have hz:((j:Int) == 0)=false := beq_eq_false_iff_ne.2 (by omega)
   have hm:(max 0 ((j:Int) - 1)).toNat = ((j:Int) - 1).toNat := by rw [Int.max_eq_right (by omega)]
   rw [hz,hw2,hm]
   cases s_Z3 (p0.getD j 0) 0 10 <;> cases decide (p0.getD j 0 > p0.getD ((j:Int) - 1).toNat 0) <;> rfl
abbrev t_Z18 (p0:gF) (_p1:PUnit):Int := v_ls 0 10 p0
abbrev qre_Z18 (p0:gF) (_p1:PUnit):List Prop := [lenOk p0]
theorem pp_Z18 (p0:gF) (p1:PUnit) (hq:∀ p∈qre_Z18 p0 p1,p):∀ p∈pre_Z18 p0 p1,p := by
 obtain ⟨h1,_⟩ := conj_of hq
 simp only [pre_Z18,fM]
 exact ⟨(l_Z18_0 p0 p1 h1).1,(by intro p hp; cases hp)⟩
theorem tt_Z18 (p0:gF) (p1:PUnit) (hq:∀ p∈qre_Z18 p0 p1,p):s_Z18 p0 p1 = t_Z18 p0 p1 := by
 obtain ⟨h1,_⟩ := conj_of hq
 exact (l_Z18_0 p0 p1 h1).2

abbrev con_Z18:Con := ⟨P_Z18,R_Z18,fun x => qre_Z18 x.1 x.2,fun x => t_Z18 x.1 x.2⟩
theorem ok_Z18:ConOk Tryz.prog 129 con_Z18 := okG k_Z18 e_Z18 hC_Z18 fun x hx => tf_of (w_Z18_eq x.1 x.2 _) (d_Z18 x.1 x.2 _ (pp_Z18 x.1 x.2 hx) (tt_Z18 x.1 x.2 hx))
def C_Zu:Cons := []
theorem hC_Zu:ConsOk Tryz.prog C_Zu := ConsOk.nil
def w_Zu (p0:gF) (p1:gF) (K:Bool→Prop):Prop := (((((p0.length:Int) != (p1.length:Int))=true) →(K false)) ∧((((p0.length:Int) != (p1.length:Int))=false) →(∃ n0,(loopP (fun (y1:Int) k2 => ((((decide (y1 < (p0.length:Int)))=true) →((zz0≤y1) ∧((y1 < (p0.length:Int)) ∧((zz0≤y1) ∧((y1 < (p1.length:Int)) ∧(((((p0.getD y1.toNat zz0) != (p1.getD y1.toNat zz0))=true) →(K false)) ∧((((p0.getD y1.toNat zz0) != (p1.getD y1.toNat zz0))=false) →(k2 (IntKind.i64.wrap (y1 + 1)))))))))) ∧(((decide (y1 < (p0.length:Int)))=false) →(K true)))) n0 zz0))))
theorem w_Zu_eq (p0:gF) (p1:gF) (K:Bool→Prop):tfn F_Zu A_Zu C_Zu P_Zu R_Zu (p0,p1) K = w_Zu p0 p1 K := by kernel_rfl
def st_Zu_0 (p0:gF) (p1:gF) (y1:Int):Int ⊕ Bool := (cond (decide (y1 < (p0.length:Int))) (cond ((p0.getD y1.toNat (0:Int)) != (p1.getD y1.toNat (0:Int))) (Sum.inr false) (Sum.inl (IntKind.i64.wrap (y1 + 1)))) (Sum.inr true))
abbrev sp_Zu_0 (p0:gF) (p1:gF) (y1:Int):List Prop := [(((decide (y1 < (p0.length:Int)))=true)→((0:Int)≤y1)),(((decide (y1 < (p0.length:Int)))=true)→(y1 < (p0.length:Int))),(((decide (y1 < (p0.length:Int)))=true)→(y1 < (p1.length:Int)))]
def s_Zu (p0:gF) (p1:gF):Bool := (cond ((p0.length:Int) != (p1.length:Int)) false (lpv false (st_Zu_0 p0 p1) (0:Int)))
abbrev pre_Zu (p0:gF) (p1:gF):List Prop := [((((p0.length:Int) != (p1.length:Int))=false)→(OkL (st_Zu_0 p0 p1) (sp_Zu_0 p0 p1) (0:Int)))]
theorem d_Zu (p0:gF) (p1:gF) (K:Bool→Prop) (hp:∀ p∈pre_Zu p0 p1,p) (h:K (s_Zu p0 p1)):w_Zu p0 p1 K := by
 unfold w_Zu
 unfold s_Zu at h
 obtain ⟨hp0,_⟩ := conj_of hp
 exact (br' h (fun e0 h => h)
  (fun e0 h => (loop_gen (hp0 e0) h (fun y1 k1 hp h => by
 unfold st_Zu_0 at h; obtain ⟨hp0,hp1,hp2,_⟩ := conj_of hp
 exact (br' h (fun e2 h => ⟨(hp0 e2),(hp1 e2),(hp0 e2),(hp2 e2),(br' h (fun e3 h => h)
  (fun e3 h => h))⟩)
  (fun e2 h => h))))))
theorem l_Zu_0 (p0 p1:gF) (hl:lenOk p0) (he:p0.length = p1.length):OkL (st_Zu_0 p0 p1) (sp_Zu_0 p0 p1) 0∧lpv false (st_Zu_0 p0 p1) 0 = v_scan (fun i x => cond (!((x == (p1.getD i.toNat 0)))) (some false) none) true 0 p0 := by
 refine scan_is p0 0 (fun i x => cond (!((x == (p1.getD i.toNat 0)))) (some false) none) true hl ?_ ?_
 ·refine ⟨by simp only [sp_Zu_0,fM,decide_eq_true_eq]; simp,by simp [st_Zu_0]⟩
 ·intro j hj
  have hj' : (j:Int) < p0.length := by omega
  refine ⟨by simp only [sp_Zu_0,fM,decide_eq_true_eq,Int.toNat_natCast]; simp <;> omega,?_⟩
  simp only [st_Zu_0,hj',decide_true,Int.toNat_natCast,cond_true,wrap_nat (show (j:Int)≤9223372036854775806 by unfold lenOk at hl; omega)]
  generalize p0.getD j 0 = x
  generalize p1.getD j 0 = z
  simp only [bne]
  cases (x == z) <;> rfl
abbrev t_Zu (p0 p1:gF):Bool := decide (p0 = p1)
abbrev qre_Zu (p0 _p1:gF):List Prop := [lenOk p0]
theorem pp_Zu (p0 p1:gF) (hq:∀ p∈qre_Zu p0 p1,p):∀ p∈pre_Zu p0 p1,p := by
 simp only [pre_Zu,fM]
 refine ⟨fun h => (l_Zu_0 p0 p1 (conj_of hq).1 ?_).1,by simp⟩
 have h' : (p0.length:Int)=p1.length := by simpa using h
 omega
theorem tt_Zu (p0 p1:gF) (hq:∀ p∈qre_Zu p0 p1,p):s_Zu p0 p1 = t_Zu p0 p1 := by
 unfold s_Zu t_Zu
 by_cases h:p0.length = p1.length
 ·rw [show ((p0.length:Int) != (p1.length:Int))=false by simp [h]]
  refine (l_Zu_0 p0 p1 (conj_of hq).1 h).2.trans ?_
  exact v_scan_eq 0 (fun x y => (x == y)) (fun x y => by by_cases h:x = y <;> simp [h]) p0 p1 h
 ·rw [show ((p0.length:Int) != (p1.length:Int))=true by simp; omega]
  have:p0 ≠ p1 := fun e => h (congrArg List.length e)
  simp [this]

abbrev con_Zu:Con := ⟨P_Zu,R_Zu,fun x => qre_Zu x.1 x.2,fun x => t_Zu x.1 x.2⟩
theorem ok_Zu:ConOk Tryz.prog 130 con_Zu := okG k_Zu e_Zu hC_Zu fun x hx => tf_of (w_Zu_eq x.1 x.2 _) (d_Zu x.1 x.2 _ (pp_Zu x.1 x.2 hx) (tt_Zu x.1 x.2 hx))
def C_Zy:Cons := []
theorem hC_Zy:ConsOk Tryz.prog C_Zy := ConsOk.nil
def w_Zy (p0:gF) (K:(List Int)→Prop):Prop := (∃ n0,(loopP (fun (y1:Int) k2 => ((((decide (y1 > 0))=true) →((decide (y1 > 0))=(decide (y1 > 0)))) ∧((((decide (y1 > 0))=true) →((decide (y1 > 0))=(decide (y1 > 0)))) ∧((((decide (y1 > 0))=true) →((decide (y1 > 0))=(decide (y1 > 0)))) ∧((((decide (y1 > 0))=true) →(zz0≤(IntKind.i64.wrap (y1 - 1)))) ∧((((decide (y1 > 0))=true) →((IntKind.i64.wrap (y1 - 1)) < (p0.length:Int))) ∧((((decide (y1 > 0))=true) →((decide (y1 > 0))=(decide (y1 > 0)))) ∧((((decide (y1 > 0))=true) →((decide (y1 > 0))=(decide (y1 > 0)))) ∧(((decide (y1 > 0))=(decide (y1 > 0))) ∧((((cond (decide (y1 > 0)) ((p0.getD (Int.toNat (IntKind.i64.wrap (y1 - 1))) zz0) == 0) false)=true) →(k2 (IntKind.i64.wrap (y1 - 1)))) ∧(((cond (decide (y1 > 0)) ((p0.getD (Int.toNat (IntKind.i64.wrap (y1 - 1))) zz0) == 0) false)=false) →((zz0≤y1) ∧((y1≤(p0.length:Int)) ∧(K (List.take y1.toNat p0))))))))))))))) n0 (p0.length:Int)))
theorem w_Zy_eq (p0:gF) (K:(List Int)→Prop):tfn F_Zy A_Zy C_Zy P_Zy R_Zy p0 K = w_Zy p0 K := by kernel_rfl
def st_Zy_0 (p0:gF) (y0:Int):Int ⊕ (List Int) := (cond (cond (decide (y0 > 0)) ((p0.getD (Int.toNat (IntKind.i64.wrap (y0 - 1))) (0:Int)) == 0) false) (Sum.inl (IntKind.i64.wrap (y0 - 1))) (Sum.inr (List.take y0.toNat p0)))
abbrev sp_Zy_0 (p0:gF) (y0:Int):List Prop := [(((decide (y0 > 0))=true)→((0:Int)≤(IntKind.i64.wrap (y0 - 1)))),(((decide (y0 > 0))=true)→((IntKind.i64.wrap (y0 - 1)) < (p0.length:Int))),(((cond (decide (y0 > 0)) ((p0.getD (Int.toNat (IntKind.i64.wrap (y0 - 1))) (0:Int)) == 0) false)=false)→((0:Int)≤y0)),(((cond (decide (y0 > 0)) ((p0.getD (Int.toNat (IntKind.i64.wrap (y0 - 1))) (0:Int)) == 0) false)=false)→(y0≤(p0.length:Int)))]
def s_Zy (p0:gF):(List Int) := (lpv [] (st_Zy_0 p0) (p0.length:Int))
abbrev pre_Zy (p0:gF):List Prop := [(OkL (st_Zy_0 p0) (sp_Zy_0 p0) (p0.length:Int))]
theorem d_Zy (p0:gF) (K:(List Int)→Prop) (hp:∀ p∈pre_Zy p0,p) (h:K (s_Zy p0)):w_Zy p0 K := by
 unfold w_Zy
 unfold s_Zy at h
 obtain ⟨hp0,_⟩ := conj_of hp
 exact (loop_gen (hp0) h (fun y0 k0 hp h => by
 unfold st_Zy_0 at h; obtain ⟨hp0,hp1,hp2,hp3,_⟩ := conj_of hp
 exact ⟨rf,rf,rf,(hp0),(hp1),rf,rf,rfl,(br' h (fun e1 h => h)
  (fun e1 h => ⟨(hp2 e1),(hp3 e1),h⟩))⟩))
/-! Digits to the base 10^9,the lowest one first. -/
def v_val:List Int→Int
 | [] => 0
 | d :: r => d + 1000000000 * v_val r
def v_dgok (l:gF):Prop := ∀ d∈l,0≤d∧d < 1000000000
def v_digs (n:Nat):List Int := if h:n = 0 then [] else ((n % 1000000000:Nat):Int) :: v_digs (n / 1000000000)
termination_by n
decreasing_by exact Nat.div_lt_self (Nat.pos_of_ne_zero h) (by decide)
theorem v_digs_0:v_digs 0 = [] := by unfold v_digs; rfl
theorem v_digs_pos {n:Nat} (h:n ≠ 0):v_digs n = ((n % 1000000000:Nat):Int) :: v_digs (n / 1000000000) := by rw [v_digs,dif_neg h]
theorem v_digs_ok (n:Nat):v_dgok (v_digs n) := by
 induction n using Nat.strongRecOn with
 | _ n ih =>
  by_cases h:n = 0
  ·subst h; rw [v_digs_0]; intro d hd; cases hd
  ·rw [v_digs_pos h]
   intro d hd
   rcases List.mem_cons.1 hd with rfl | hd
   ·omega
   ·exact ih _ (Nat.div_lt_self (Nat.pos_of_ne_zero h) (by decide)) d hd
theorem v_digs_val (n:Nat):v_val (v_digs n)=n := by
 induction n using Nat.strongRecOn with
 | _ n ih =>
  by_cases h:n = 0
  ·subst h; rw [v_digs_0]; rfl
  ·rw [v_digs_pos h]
   show _ + 1000000000 * v_val _ = _
   rw [ih _ (Nat.div_lt_self (Nat.pos_of_ne_zero h) (by decide))]
   omega
theorem v_val_nn:∀ {l:List Int},v_dgok l→0≤v_val l
 | [],_ => Int.le_refl _
 | d :: r,h => by
  have := h d (by simp)
  have := v_val_nn (l := r) fun x hx => h x (by simp [hx])
  show 0≤d + 1000000000 * v_val r
  omega
/-- What so many digits can say. -/
def v_pow (k:Nat):Int := 1000000000 ^ k
theorem v_pow_0:v_pow 0 = 1 := rfl
theorem v_pow_s (k:Nat):v_pow (k + 1)=1000000000 * v_pow k := by unfold v_pow; rw [Int.pow_succ,Int.mul_comm]
theorem v_pow_pos (k:Nat):1≤v_pow k := by
 induction k with
 | zero => exact Int.le_refl _
 | succ k ih => rw [v_pow_s]; omega
theorem v_pow_add (a b:Nat):v_pow (a + b)=v_pow a * v_pow b := by unfold v_pow; rw [Int.pow_add]
theorem v_pow_le {a b:Nat} (h:a≤b):v_pow a≤v_pow b := by
 obtain ⟨c,rfl⟩ : ∃ c,b = a + c := ⟨b - a,by omega⟩
 rw [v_pow_add]
 have h1 := v_pow_pos a
 have h2 := v_pow_pos c
 have := Int.mul_le_mul_of_nonneg_left h2 (show 0≤v_pow a by omega)
 omega
theorem v_val_lt:∀ {l:List Int},v_dgok l→v_val l < v_pow l.length
 | [],_ => by decide
 | d :: r,h => by
  have := h d (by simp)
  have := v_val_lt (l := r) fun x hx => h x (by simp [hx])
  show d + 1000000000 * v_val r < v_pow (r.length + 1)
  rw [v_pow_s]; omega
theorem v_digs_low (n:Nat):v_digs n = [] ∨ v_pow ((v_digs n).length - 1)≤n := by
 induction n using Nat.strongRecOn with
 | _ n ih =>
  by_cases h:n = 0
  ·subst h; exact .inl v_digs_0
  ·right
   rw [v_digs_pos h,List.length_cons,Nat.add_sub_cancel]
   rcases ih (n / 1000000000) (Nat.div_lt_self (Nat.pos_of_ne_zero h) (by decide)) with e | e
   ·rw [e]; show (1:Int)≤n; omega
   ·generalize hL:(v_digs (n / 1000000000)).length = L at *
    rcases Nat.eq_zero_or_pos L with h0 | h0
    ·rw [h0]; show (1:Int)≤n; omega
    ·rw [show L = L - 1 + 1 by omega,v_pow_s]
     omega
theorem v_digs_high (n:Nat):(n:Int) < v_pow (v_digs n).length := by
 have := v_val_lt (v_digs_ok n)
 rwa [v_digs_val] at this
theorem v_pow_lt {a b:Nat} (h:v_pow a < v_pow b):a < b := by
 rcases Nat.lt_or_ge a b with g | g
 ·exact g
 ·have := v_pow_le g; omega
theorem v_digs_len {n k:Nat} (h:(n:Int) < v_pow k):(v_digs n).length≤k := by
 rcases v_digs_low n with e | e
 ·rw [e]; simp
 ·have := v_pow_lt (show v_pow ((v_digs n).length - 1) < v_pow k by omega)
  omega
theorem v_digs_len_lt {m n:Nat} (h:(v_digs m).length < (v_digs n).length):m < n := by
 have h1 := v_digs_high m
 rcases v_digs_low n with e | e
 ·rw [e] at h; simp at h
 ·have := v_pow_le (show (v_digs m).length≤(v_digs n).length - 1 by omega)
  omega
/-- Without zeros at the end. -/
def v_trim:List Int→List Int
 | [] => []
 | d :: r => match v_trim r with
  | [] => cond (d == 0) [] [d]
  | x :: q => d :: x :: q
theorem v_trim_is:∀ {l:List Int},v_dgok l→v_trim l = v_digs (v_val l).toNat
 | [],_ => by rw [show (v_val []).toNat = 0 from rfl,v_digs_0]; rfl
 | d :: r,h => by
  have hd := h d (by simp)
  have hr:v_dgok r := fun x hx => h x (by simp [hx])
  have hn := v_val_nn hr
  have ih := v_trim_is hr
  have e:v_val (d :: r)=d + 1000000000 * v_val r := rfl
  have e1:(d + 1000000000 * v_val r).toNat % 1000000000 = d.toNat := by omega
  have e2:(d + 1000000000 * v_val r).toNat / 1000000000 = (v_val r).toNat := by omega
  rw [e]
  unfold v_trim
  rw [ih]
  by_cases hz:v_val r = 0
  ·rw [hz,show (0:Int).toNat = 0 from rfl,v_digs_0]
   by_cases hd0:d = 0
   ·subst hd0; rw [show ((0:Int) + 1000000000 * 0).toNat = 0 from rfl,v_digs_0]; rfl
   ·rw [hz] at e1 e2
    rw [v_digs_pos (by omega),e1,e2,show (0:Int).toNat = 0 from rfl,v_digs_0,Int.toNat_of_nonneg hd.1,show (d == 0)=false from beq_eq_false_iff_ne.2 hd0]; rfl
  ·rw [v_digs_pos (n := (d + 1000000000 * v_val r).toNat) (by omega),e1,e2,Int.toNat_of_nonneg hd.1]
   cases hq:v_digs (v_val r).toNat with
   | nil =>
    have := v_digs_val (v_val r).toNat
    rw [hq] at this
    have:(0:Int)=((v_val r).toNat:Int) := this
    omega
   | cons x q => rfl
theorem v_val_append:∀ (a b:gF),v_val (a ++ b)=v_val a + v_pow a.length * v_val b
 | [],b => by show v_val b = 0 + 1 * v_val b; omega
 | d :: a,b => by
  show d + 1000000000 * v_val (a ++ b)=d + 1000000000 * v_val a + v_pow (a.length + 1) * v_val b
  rw [v_val_append a b,v_pow_s,Int.mul_add,Int.mul_assoc]; omega
theorem v_val_zeros:∀ n,v_val (List.replicate n 0)=0
 | 0 => rfl
 | n + 1 => by rw [List.replicate_succ]; show (0:Int) + 1000000000 * v_val _ = 0; rw [v_val_zeros n]; rfl
theorem v_val_set:∀ (l:gF) (i:Nat) (x:Int),i < l.length→v_val (l.set i x)=v_val l + v_pow i * (x - l.getD i 0)
 | [],i,x,h => by simp at h
 | d :: r,0,x,_ => by
  show x + 1000000000 * v_val r = d + 1000000000 * v_val r + 1 * (x - d)
  omega
 | d :: r,i + 1,x,h => by
  show d + 1000000000 * v_val (r.set i x)=d + 1000000000 * v_val r + v_pow (i + 1) * (x - r.getD i 0)
  rw [v_val_set r i x (by simpa using h),v_pow_s,Int.mul_add,Int.mul_assoc]; omega
theorem v_val_split (l:gF) (i:Nat) (h:i < l.length):v_val l = v_val (l.take i) + v_pow i * (l.getD i 0 + 1000000000 * v_val (l.drop (i + 1))) := by
 have e:l = l.take i ++ (l.getD i 0 :: l.drop (i + 1)) := by rw [← drop_getD 0 h,List.take_append_drop]
 have := v_val_append (l.take i) (l.getD i 0 :: l.drop (i + 1))
 rw [← e] at this
 rw [this,List.length_take,Nat.min_eq_left (Nat.le_of_lt h)]; rfl
/-- A whole number,as its sign and its digits. -/
def v_wide (n:Int):Int×List Int := (n.sign,v_digs n.natAbs)
def v_wval (p:Int×List Int):Int := p.1 * v_val p.2
theorem v_wval_wide (n:Int):v_wval (v_wide n)=n := by
 unfold v_wval v_wide
 simp only
 rw [v_digs_val]
 exact Int.sign_mul_natAbs n
theorem v_val_take_s {l:List Int} {i:Nat} (h:i < l.length):v_val (l.take (i + 1))=v_val (l.take i) + v_pow i * l.getD i 0 := by
 have e:l.take (i + 1)=l.take i ++ [l.getD i 0] := by
  rw [List.take_succ_eq_append_getElem h,List.getD_eq_getElem?_getD,List.getElem?_eq_getElem h]; rfl
 rw [e,v_val_append,List.length_take,Nat.min_eq_left (Nat.le_of_lt h)]
 show _ + v_pow i * (l.getD i 0 + 1000000000 * 0)=_
 rw [Int.mul_zero,Int.add_zero]
theorem v_dgok_take {l:List Int} (h:v_dgok l) (i:Nat):v_dgok (l.take i) := fun d hd => h d (List.mem_of_mem_take hd)
theorem v_dgok_drop {l:List Int} (h:v_dgok l) (i:Nat):v_dgok (l.drop i) := fun d hd => h d (List.mem_of_mem_drop hd)
theorem v_dgok_get {l:List Int} (h:v_dgok l) (i:Nat):0≤l.getD i 0∧l.getD i 0 < 1000000000 := by
 rcases Nat.lt_or_ge i l.length with hi | hi
 ·exact h _ (getD_mem' 0 hi)
 ·rw [List.getD_eq_getElem?_getD,List.getElem?_eq_none hi]; simp
theorem v_dgok_snoc {l:List Int} {x:Int} (h:v_dgok l) (hx:0≤x∧x < 1000000000):v_dgok (l ++ [x]) := fun d hd => by
 rcases List.mem_append.1 hd with hd | hd
 ·exact h d hd
 ·simp at hd; subst hd; exact hx
theorem v_dgok_set {l:List Int} {x:Int} {i:Nat} (h:v_dgok l) (hx:0≤x∧x < 1000000000):v_dgok (l.set i x) := fun d hd => by
 rcases List.mem_or_eq_of_mem_set hd with hd | rfl
 ·exact h d hd
 ·exact hx
theorem v_val_snoc (l:gF) (x:Int):v_val (l ++ [x])=v_val l + v_pow l.length * x := by
 rw [v_val_append]
 show _ + v_pow l.length * (x + 1000000000 * 0)=_
 rw [Int.mul_zero,Int.add_zero]
theorem v_dcmp_lt {a b:List Int} (ha:v_dgok a) (hb:v_dgok b) {i:Nat} (hia:i < a.length) (hib:i < b.length) (hd:a.drop (i + 1)=b.drop (i + 1)) (h:a.getD i 0 < b.getD i 0):v_val a < v_val b := by
 rw [v_val_split a i hia,v_val_split b i hib,hd]
 have h1 := v_val_lt (v_dgok_take ha i)
 rw [List.length_take,Nat.min_eq_left (Nat.le_of_lt hia)] at h1
 have h2 := v_val_nn (v_dgok_take hb i)
 have h3 := v_pow_pos i
 have := Int.mul_le_mul_of_nonneg_left (show 1≤b.getD i 0 - a.getD i 0 by omega) (show 0≤v_pow i by omega)
 rw [Int.mul_add,Int.mul_add]
 rw [Int.mul_sub] at this
 omega
/-- Rounds from a number down to 0; t: what is carried besides. -/
theorem down_is {τ σ ρ:Type} {dd:ρ} {st:σ→σ ⊕ ρ} {sp:σ→List Prop} (mk:Int→τ→σ) (n:Nat) (I:Nat→τ→Prop) (F:Nat→τ→ρ) (hl:n≤4611686018427387904)
  (hn:∀ t,I 0 t→(∀ p∈sp (mk (-1) t),p)∧st (mk (-1) t) = .inr (F 0 t))
  (hc:∀ (j:Nat) (t:τ),j < n→I (j + 1) t→(∀ p∈sp (mk j t),p)∧((∃ t',st (mk j t) = .inl (mk ((j:Int) - 1) t')∧I j t'∧F j t' = F (j + 1) t) ∨ st (mk j t) = .inr (F (j + 1) t))) (t:τ) (h:I n t):OkL st sp (mk ((n:Int) - 1) t)∧lpv dd st (mk ((n:Int) - 1) t)=F n t := by
 have key:∀ (j f:Nat) (t:τ),j≤n→j < f→I j t→OkN st sp f (mk ((j:Int) - 1) t)∧runL dd st f (mk ((j:Int) - 1) t)=F j t := by
  intro j
  induction j with
  | zero =>
   intro f t _ hf hi
   obtain ⟨g1,g2⟩ := hn t hi
   cases f with
   | zero => omega
   | succ f => unfold OkN runL; rw [show ((0:Nat):Int) - 1 = -1 from rfl,g2]; exact ⟨⟨g1,trivial⟩,rfl⟩
  | succ j ih =>
   intro f t hjn hf hi
   obtain ⟨g1,g2⟩ := hc j t (by omega) hi
   cases f with
   | zero => omega
   | succ f =>
    unfold OkN runL
    rw [show ((j + 1:Nat):Int) - 1 = (j:Int) by omega]
    rcases g2 with ⟨t',e,i',f'⟩ | e
    ·rw [e]
     obtain ⟨q1,q2⟩ := ih f t' (by omega) (by omega) i'
     exact ⟨⟨g1,q1⟩,by rw [← f']; exact q2⟩
    ·rw [e]; exact ⟨⟨g1,trivial⟩,rfl⟩
 exact key n fuel t (Nat.le_refl _) (by unfold fuel; omega) h
/-- What holds at each round,and falls,ends in what is asked. -/
theorem loop_post {σ ρ:Type} {d:ρ} {st:σ→σ ⊕ ρ} {sp:σ→List Prop} (I:σ→Prop) (μ:σ→Nat) (R:ρ→Prop)
  (h:∀ x,I x→(∀ p∈sp x,p)∧match st x with | .inl y => I y∧μ y < μ x | .inr r => R r) {x:σ} (hx:I x) (hm:μ x < fuel):OkL st sp x∧R (lpv d st x) := by
 have key:∀ (n:Nat) (x:σ),I x→μ x < n→OkN st sp n x∧R (runL d st n x) := by
  intro n
  induction n with
  | zero => intro x _ hn; omega
  | succ n ih =>
   intro x hi hn
   obtain ⟨h1,h2⟩ := h x hi
   unfold OkN runL
   cases hst:st x with
   | inl y =>
    rw [hst] at h2
    obtain ⟨q1,q2⟩ := ih y h2.1 (by omega)
    exact ⟨⟨h1,q1⟩,q2⟩
   | inr r => rw [hst] at h2; exact ⟨⟨h1,trivial⟩,h2⟩
 exact key fuel x hx hm
theorem for_post {τ σ ρ:Type} {dd:ρ} {st:σ→σ ⊕ ρ} {sp:σ→List Prop} (mk:Int→τ→σ) (a n:Nat) (I:Nat→τ→Prop) (R:ρ→Prop) (ha:a≤n) (hl:n≤4611686018427387904)
  (hn:∀ t,I n t→(∀ p∈sp (mk n t),p)∧∃ r,st (mk n t) = .inr r∧R r)
  (hc:∀ (j:Nat) (t:τ),a≤j→j < n→I j t→(∀ p∈sp (mk j t),p)∧((∃ t',st (mk j t) = .inl (mk ((j + 1:Nat):Int) t')∧I (j + 1) t') ∨ ∃ r,st (mk j t) = .inr r∧R r)) (t:τ) (h:I a t):OkL st sp (mk a t)∧R (lpv dd st (mk a t)) := by
 have key:∀ (m j f:Nat) (t:τ),a≤j→m + j = n→m < f→I j t→OkN st sp f (mk j t)∧R (runL dd st f (mk j t)) := by
  intro m
  induction m with
  | zero =>
   intro j f t _ hj hf hi
   have:j = n := by omega
   subst this
   obtain ⟨g1,r,g2,g3⟩ := hn t hi
   cases f with
   | zero => omega
   | succ f => unfold OkN runL; rw [g2]; exact ⟨⟨g1,trivial⟩,g3⟩
  | succ m ih =>
   intro j f t haj hj hf hi
   obtain ⟨g1,g2⟩ := hc j t haj (by omega) hi
   cases f with
   | zero => omega
   | succ f =>
    unfold OkN runL
    rcases g2 with ⟨t',e,i'⟩ | ⟨r,e,g3⟩
    ·rw [e]
     obtain ⟨q1,q2⟩ := ih (j + 1) f t' (by omega) (by omega) (by omega) i'
     exact ⟨⟨g1,q1⟩,q2⟩
    ·rw [e]; exact ⟨⟨g1,trivial⟩,g3⟩
 exact key (n - a) a fuel t (Nat.le_refl _) (by omega) (by unfold fuel; omega) h
/-- A sum,digit by digit: a round. -/
theorem v_add_round {out:List Int} {s R X:Int} (h:v_val out + v_pow out.length * (s + 1000000000 * R)=X):v_val (out ++ [s % 1000000000]) + v_pow (out.length + 1) * (s / 1000000000 + R)=X := by
 rw [v_val_snoc,v_pow_s,← h]
 have e:s = 1000000000 * (s / 1000000000) + s % 1000000000 := (Int.mul_ediv_add_emod s 1000000000).symm
 generalize s / 1000000000 = q at *
 generalize s % 1000000000 = r at *
 subst e
 grind
/-- A product,digit by digit: a round. -/
theorem v_mul_round {out b:List Int} {i k:Nat} {x c s V:Int} (hk:k < b.length) (ho:i + k < out.length) (hs:s = out.getD (i + k) 0 + x * b.getD k 0 + c)
  (h:v_val out + c * v_pow (i + k)=V + x * v_pow i * v_val (b.take k)):v_val (out.set (i + k) (s % 1000000000)) + (s / 1000000000) * v_pow (i + k + 1)=V + x * v_pow i * v_val (b.take (k + 1)) := by
 rw [v_val_set _ _ _ ho,v_val_take_s hk,v_pow_s,v_pow_add]
 rw [v_pow_add] at h
 have e:s = 1000000000 * (s / 1000000000) + s % 1000000000 := (Int.mul_ediv_add_emod s 1000000000).symm
 generalize s / 1000000000 = q at *
 generalize s % 1000000000 = r at *
 generalize out.getD (i + k) 0 = o at *
 generalize b.getD k 0 = d at *
 generalize v_pow i = P at *
 generalize v_pow k = Q at *
 generalize v_val out = X at *
 generalize v_val (b.take k)=Y at *
 grind
theorem v_mul_small {o x d c:Int} (ho:0≤o∧o < 1000000000) (hx:0≤x∧x < 1000000000) (hd:0≤d∧d < 1000000000) (hc:0≤c∧c < 1000000000):0≤x * d∧x * d≤999999998000000001∧0≤o + x * d + c∧(o + x * d + c) / 1000000000 < 1000000000 := by
 have h1:0≤x * d := Int.mul_nonneg hx.1 hd.1
 have h2:0≤(999999999 - x) * (999999999 + d) := Int.mul_nonneg (by omega) (by omega)
 have h3:0≤(999999999 + x) * (999999999 - d) := Int.mul_nonneg (by omega) (by omega)
 have h4:0≤(999999999 - x) * (999999999 - d) := Int.mul_nonneg (by omega) (by omega)
 simp only [Int.sub_mul,Int.mul_sub,Int.mul_add,Int.add_mul] at h2 h3 h4
 omega
theorem v_trim_z:∀ (l:gF),v_trim (l ++ [0])=v_trim l
 | [] => rfl
 | d :: r => by
  rw [List.cons_append]
  unfold v_trim
  rw [v_trim_z r]
theorem v_trim_n {d:Int} (h:d ≠ 0):∀ (l:gF),v_trim (l ++ [d])=l ++ [d]
 | [] => by
  show (match v_trim [] with | [] => cond (d == 0) [] [d] | x :: q => d :: x :: q)=_
  rw [show v_trim []=[] from rfl]
  simp only
  rw [show (d == 0)=false from beq_eq_false_iff_ne.2 h]; rfl
 | x :: r => by
  rw [List.cons_append]
  unfold v_trim
  rw [v_trim_n h r]
  cases r <;> rfl
theorem l_Zy_0 (p0:gF) (h:p0.length≤10000000000000):OkL (st_Zy_0 p0) (sp_Zy_0 p0) (p0.length:Int)∧lpv ([]:List Int) (st_Zy_0 p0) (p0.length:Int)=v_trim p0 := by
 refine loop_is (fun (y:Int) => 0≤y∧y≤p0.length∧v_trim (p0.take y.toNat)=v_trim p0) (fun (y:Int) => y.toNat) (fun _ => v_trim p0) ?_ ⟨by omega,Int.le_refl _,by rw [Int.toNat_natCast,List.take_length]⟩ (by unfold fuel; omega)
 rintro y ⟨h1,h2,h3⟩
 rcases Int.lt_or_le 0 y with h0 | h0
 ·have hw:IntKind.i64.wrap (y - 1)=y - 1 := wrap_id (by omega) (by omega)
  have hk:(y - 1).toNat < p0.length := by omega
  have ht := take_snoc hk
  rw [show (y - 1).toNat + 1 = y.toNat by omega] at ht
  simp only [sp_Zy_0,st_Zy_0,hw,decide_eq_true (show y > 0 from h0),fM,cond_true]
  refine ⟨⟨fun _ => by omega,fun _ => by omega,fun _ => by omega,fun _ => h2,by simp⟩,?_⟩
  rcases int0 (p0.getD (y - 1).toNat 0) with ⟨z,_,e⟩ | ⟨z,_,e⟩ <;> rw [e]
  ·simp only [cond_true]
   refine ⟨⟨by omega,by omega,?_⟩,by omega,trivial⟩
   rw [← h3,ht,z,v_trim_z]
  ·simp only [cond_false]
   rw [← h3,ht,v_trim_n z]
 ·have:y = 0 := by omega
  subst this
  simp only [sp_Zy_0,st_Zy_0,decide_eq_false (show ¬ (0:Int) > 0 by omega),fM,cond_false]
  refine ⟨⟨fun h => (by cases h),fun h => (by cases h),fun _ => Int.le_refl _,fun _ => h2,by simp⟩,?_⟩
  rw [← h3]; rfl
abbrev t_Zy (p0:gF):List Int := v_trim p0
abbrev qre_Zy (p0:gF):List Prop := [p0.length≤10000000000000]
theorem pp_Zy (p0:gF) (hq:∀ p∈qre_Zy p0,p):∀ p∈pre_Zy p0,p := by
 simp only [pre_Zy,fM]
 exact ⟨(l_Zy_0 p0 (conj_of hq).1).1,by simp⟩
theorem tt_Zy (p0:gF) (hq:∀ p∈qre_Zy p0,p):s_Zy p0 = t_Zy p0 := by
 exact (l_Zy_0 p0 (conj_of hq).1).2

abbrev con_Zy:Con := ⟨P_Zy,R_Zy,fun x => qre_Zy x,fun x => t_Zy x⟩
theorem ok_Zy:ConOk Tryz.prog 139 con_Zy := okG k_Zy e_Zy hC_Zy fun x hx => tf_of (w_Zy_eq x _) (d_Zy x _ (pp_Zy x hx) (tt_Zy x hx))
def C_Zz:Cons := []
theorem hC_Zz:ConsOk Tryz.prog C_Zz := ConsOk.nil
def w_Zz (p0:gF) (p1:gF) (K:Int→Prop):Prop := (((((p0.length:Int) != (p1.length:Int))=true) →((((decide ((p0.length:Int) < (p1.length:Int)))=true) →(K (-1:Int))) ∧(((decide ((p0.length:Int) < (p1.length:Int)))=false) →(K zz1)))) ∧((((p0.length:Int) != (p1.length:Int))=false) →(∃ n0,(loopP (fun (y1:Int) k2 => ((((decide (y1 ≥ 0))=true) →((zz0≤y1) ∧((y1 < (p0.length:Int)) ∧((zz0≤y1) ∧((y1 < (p1.length:Int)) ∧((((decide ((p0.getD y1.toNat zz0) < (p1.getD y1.toNat zz0)))=true) →(K (-1:Int))) ∧(((decide ((p0.getD y1.toNat zz0) < (p1.getD y1.toNat zz0)))=false) →((zz0≤y1) ∧((y1 < (p0.length:Int)) ∧((zz0≤y1) ∧((y1 < (p1.length:Int)) ∧((((decide ((p0.getD y1.toNat zz0) > (p1.getD y1.toNat zz0)))=true) →(K zz1)) ∧(((decide ((p0.getD y1.toNat zz0) > (p1.getD y1.toNat zz0)))=false) →(k2 (IntKind.i64.wrap (y1 - 1)))))))))))))))) ∧(((decide (y1 ≥ 0))=false) →(K zz0)))) n0 (IntKind.i64.wrap ((p0.length:Int) - 1))))))
theorem w_Zz_eq (p0:gF) (p1:gF) (K:Int→Prop):tfn F_Zz A_Zz C_Zz P_Zz R_Zz (p0,p1) K = w_Zz p0 p1 K := by kernel_rfl
def st_Zz_0 (p0:gF) (p1:gF) (y2:Int):Int ⊕ Int := (cond (decide (y2 ≥ 0)) (cond (decide ((p0.getD y2.toNat (0:Int)) < (p1.getD y2.toNat (0:Int)))) (Sum.inr (-1:Int)) (cond (decide ((p0.getD y2.toNat (0:Int)) > (p1.getD y2.toNat (0:Int)))) (Sum.inr (1:Int)) (Sum.inl (IntKind.i64.wrap (y2 - 1))))) (Sum.inr (0:Int)))
abbrev sp_Zz_0 (p0:gF) (p1:gF) (y2:Int):List Prop := [(((decide (y2 ≥ 0))=true)→((0:Int)≤y2)),(((decide (y2 ≥ 0))=true)→(y2 < (p0.length:Int))),(((decide (y2 ≥ 0))=true)→(y2 < (p1.length:Int))),(((decide (y2 ≥ 0))=true)→(((decide ((p0.getD y2.toNat (0:Int)) < (p1.getD y2.toNat (0:Int))))=false)→((0:Int)≤y2))),(((decide (y2 ≥ 0))=true)→(((decide ((p0.getD y2.toNat (0:Int)) < (p1.getD y2.toNat (0:Int))))=false)→(y2 < (p0.length:Int)))),(((decide (y2 ≥ 0))=true)→(((decide ((p0.getD y2.toNat (0:Int)) < (p1.getD y2.toNat (0:Int))))=false)→(y2 < (p1.length:Int))))]
def s_Zz (p0:gF) (p1:gF):Int := (cond ((p0.length:Int) != (p1.length:Int)) (cond (decide ((p0.length:Int) < (p1.length:Int))) (-1:Int) (1:Int)) (lpv (0:Int) (st_Zz_0 p0 p1) (IntKind.i64.wrap ((p0.length:Int) - 1))))
abbrev pre_Zz (p0:gF) (p1:gF):List Prop := [((((p0.length:Int) != (p1.length:Int))=false)→(OkL (st_Zz_0 p0 p1) (sp_Zz_0 p0 p1) (IntKind.i64.wrap ((p0.length:Int) - 1))))]
theorem d_Zz (p0:gF) (p1:gF) (K:Int→Prop) (hp:∀ p∈pre_Zz p0 p1,p) (h:K (s_Zz p0 p1)):w_Zz p0 p1 K := by
 unfold w_Zz
 unfold s_Zz at h
 obtain ⟨hp0,_⟩ := conj_of hp
 exact (br' h (fun e0 h => (br' h (fun e1 h => h)
  (fun e1 h => h)))
  (fun e0 h => (loop_gen (hp0 e0) h (fun y2 k2 hp h => by
 unfold st_Zz_0 at h; obtain ⟨hp0,hp1,hp2,hp3,hp4,hp5,_⟩ := conj_of hp
 exact (br' h (fun e3 h => ⟨(hp0 e3),(hp1 e3),(hp0 e3),(hp2 e3),(br' h (fun e4 h => h)
  (fun e4 h => ⟨(hp3 e3 e4),(hp4 e3 e4),(hp3 e3 e4),(hp5 e3 e4),(br' h (fun e5 h => h)
  (fun e5 h => h))⟩))⟩)
  (fun e3 h => h))))))
/-- Digits that are those of their number. -/
structure v_can (l:gF):Prop where
 eq:l = v_digs (v_val l).toNat
 len:l.length≤1000000000000
theorem v_can.ok {l:List Int} (h:v_can l):v_dgok l := by rw [h.eq]; exact v_digs_ok _
theorem v_can.lt {a b:List Int} (ha:v_can a) (hb:v_can b) (h:a.length < b.length):v_val a < v_val b := by
 have h1 := v_val_nn ha.ok
 have h2 := v_val_nn hb.ok
 have := v_digs_len_lt (m := (v_val a).toNat) (n := (v_val b).toNat) (by rw [← ha.eq,← hb.eq]; exact h)
 omega
theorem l_Zz_0 (p0 p1:gF) (h1:v_can p0) (h2:v_can p1) (hl:p0.length = p1.length):OkL (st_Zz_0 p0 p1) (sp_Zz_0 p0 p1) (IntKind.i64.wrap ((p0.length:Int) - 1))∧lpv (0:Int) (st_Zz_0 p0 p1) (IntKind.i64.wrap ((p0.length:Int) - 1))=v_cmp (v_val p0) (v_val p1) := by
 have hlen := h1.len
 rw [wrap_id (n := (p0.length:Int) - 1) (by omega) (by omega)]
 refine down_is (dd := (0:Int)) (fun i (_:Unit) => i) p0.length (fun j _ => p0.drop j = p1.drop j) (fun _ _ => v_cmp (v_val p0) (v_val p1)) (by omega) ?_ ?_ () (by rw [List.drop_length,hl,List.drop_length])
 ·intro _ h
  simp only [List.drop_zero] at h
  subst h
  simp only [sp_Zz_0,st_Zz_0,fM,show decide ((-1:Int) ≥ 0)=false from rfl,cond_false]
  refine ⟨⟨fun h => (by cases h),fun h => (by cases h),fun h => (by cases h),fun h => (by cases h),fun h => (by cases h),fun h => (by cases h),by simp⟩,?_⟩
  unfold v_cmp
  rw [decide_eq_false (by omega)]; rfl
 ·intro j _ hj h
  have hj1:j < p1.length := by omega
  have hd:decide ((j:Int) ≥ 0)=true := decide_eq_true (by omega)
  have hw:IntKind.i64.wrap ((j:Int) - 1)=(j:Int) - 1 := wrap_id (by omega) (by omega)
  simp only [sp_Zz_0,st_Zz_0,fM,hd,cond_true,Int.toNat_natCast,hw]
  refine ⟨⟨fun _ => by omega,fun _ => by omega,fun _ => by omega,fun _ _ => by omega,fun _ _ => by omega,fun _ _ => by omega,by simp⟩,?_⟩
  rcases Int.lt_trichotomy (p0.getD j 0) (p1.getD j 0) with c | c | c
  ·right
   rw [decide_eq_true c,cond_true]
   have := v_dcmp_lt h1.ok h2.ok hj hj1 h c
   unfold v_cmp
   rw [decide_eq_true this]; rfl
  ·left
   rw [decide_eq_false (show ¬ p0.getD j 0 < p1.getD j 0 by omega),decide_eq_false (show ¬ p0.getD j 0 > p1.getD j 0 by omega),cond_false,cond_false]
   exact ⟨(),rfl,by rw [drop_getD 0 hj,drop_getD 0 hj1,h,c],trivial⟩
  ·right
   rw [decide_eq_false (show ¬ p0.getD j 0 < p1.getD j 0 by omega),decide_eq_true (show p0.getD j 0 > p1.getD j 0 from c),cond_true,cond_false]
   have := v_dcmp_lt h2.ok h1.ok hj1 hj h.symm c
   unfold v_cmp
   rw [decide_eq_false (show ¬ v_val p0 < v_val p1 by omega),decide_eq_true (show v_val p0 > v_val p1 from this)]; rfl
abbrev t_Zz (p0:gF) (p1:gF):Int := v_cmp (v_val p0) (v_val p1)
abbrev qre_Zz (p0:gF) (p1:gF):List Prop := [v_can p0,v_can p1]
theorem pp_Zz (p0:gF) (p1:gF) (hq:∀ p∈qre_Zz p0 p1,p):∀ p∈pre_Zz p0 p1,p := by
 obtain ⟨h1,h2,_⟩ := conj_of hq
 simp only [pre_Zz,fM]
 exact ⟨fun h => (l_Zz_0 p0 p1 h1 h2 (by simp at h; omega)).1,by simp⟩
theorem tt_Zz (p0:gF) (p1:gF) (hq:∀ p∈qre_Zz p0 p1,p):s_Zz p0 p1 = t_Zz p0 p1 := by
 obtain ⟨h1,h2,_⟩ := conj_of hq
 unfold s_Zz t_Zz
 rcases Nat.lt_trichotomy p0.length p1.length with h | h | h
 ·rw [show ((p0.length:Int) != (p1.length:Int))=true from bne_iff_ne.2 (by omega),decide_eq_true (by omega)]
  have := h1.lt h2 h
  unfold v_cmp
  rw [decide_eq_true this]; rfl
 ·have e := (l_Zz_0 p0 p1 h1 h2 h).2
  rw [e,h,bne_self_eq_false,cond_false]
 ·rw [show ((p0.length:Int) != (p1.length:Int))=true from bne_iff_ne.2 (by omega),decide_eq_false (by omega)]
  have := h2.lt h1 h
  unfold v_cmp
  rw [decide_eq_false (by omega),decide_eq_true (show v_val p0 > v_val p1 from this)]; rfl

abbrev con_Zz:Con := ⟨P_Zz,R_Zz,fun x => qre_Zz x.1 x.2,fun x => t_Zz x.1 x.2⟩
theorem ok_Zz:ConOk Tryz.prog 144 con_Zz := okG k_Zz e_Zz hC_Zz fun x hx => tf_of (w_Zz_eq x.1 x.2 _) (d_Zz x.1 x.2 _ (pp_Zz x.1 x.2 hx) (tt_Zz x.1 x.2 hx))
def C_Z1a:Cons := [(139,[],con_Zy)]
theorem hC_Z1a:ConsOk Tryz.prog C_Z1a := cC ok_Zy <| ConsOk.nil
def w_Z1a (p0:Int) (p1:gF) (K:(Int×(List Int))→Prop):Prop := ((p1.length≤10000000000000) ∧(((((((v_trim p1).length:Nat):Int) == 0)=true) →(K (zz0,(v_trim p1)))) ∧((((((v_trim p1).length:Nat):Int) == 0)=false) →(K (p0,(v_trim p1))))))
theorem w_Z1a_eq (p0:Int) (p1:gF) (K:(Int×(List Int))→Prop):tfn F_Z1a A_Z1a C_Z1a P_Z1a R_Z1a (p0,p1) K = w_Z1a p0 p1 K := by kernel_rfl
def s_Z1a (p0:Int) (p1:gF):(Int×(List Int)) := (cond ((((v_trim p1).length:Nat):Int) == 0) ((0:Int),(v_trim p1)) (p0,(v_trim p1)))
abbrev pre_Z1a (_p0:Int) (p1:gF):List Prop := [(p1.length≤10000000000000)]
theorem d_Z1a (p0:Int) (p1:gF) (K:(Int×(List Int))→Prop) (hp:∀ p∈pre_Z1a p0 p1,p) (h:K (s_Z1a p0 p1)):w_Z1a p0 p1 K := by
 unfold w_Z1a
 unfold s_Z1a at h
 obtain ⟨hp0,_⟩ := conj_of hp
 exact ⟨(hp0),(br' h (fun e0 h => h)
  (fun e0 h => h))⟩
/-- A sign that fits digits. -/
def v_sgn (s:Int) (l:gF):Prop := s = 1 ∨ s = -1 ∨ v_val l = 0
abbrev t_Z1a (p0:Int) (p1:gF):Int×List Int := v_wide (p0 * v_val p1)
abbrev qre_Z1a (p0:Int) (p1:gF):List Prop := [v_sgn p0 p1,v_dgok p1,p1.length≤10000000000000]
theorem pp_Z1a (p0:Int) (p1:gF) (hq:∀ p∈qre_Z1a p0 p1,p):∀ p∈pre_Z1a p0 p1,p := by
 obtain ⟨_,_,h3,_⟩ := conj_of hq
 simp only [pre_Z1a,fM]
 exact ⟨h3,by simp⟩
theorem tt_Z1a (p0:Int) (p1:gF) (hq:∀ p∈qre_Z1a p0 p1,p):s_Z1a p0 p1 = t_Z1a p0 p1 := by
 obtain ⟨h1,h2,_⟩ := conj_of hq
 have hn := v_val_nn h2
 unfold s_Z1a t_Z1a v_wide
 rw [v_trim_is h2]
 rcases Decidable.em (v_val p1 = 0) with z | z
 ·rw [z,Int.mul_zero,show (0:Int).toNat = 0 from rfl]
  show cond (((v_digs 0).length:Int) == 0) ((0:Int),v_digs 0) (p0,v_digs 0)=((0:Int),v_digs 0)
  rw [v_digs_0]; rfl
 ·have hp:v_digs (v_val p1).toNat ≠ [] := by rw [v_digs_pos (by omega)]; simp
  have hl:((v_digs (v_val p1).toNat).length:Int) ≠ 0 := by have := List.length_pos_iff.2 hp; omega
  rw [show (((v_digs (v_val p1).toNat).length:Int) == 0)=false from beq_eq_false_iff_ne.2 hl]
  rcases h1 with rfl | rfl | h1
  ·rw [Int.one_mul,Int.sign_eq_one_of_pos (by omega)]
   simp only [cond_false]
   congr 2
   omega
  ·rw [show -1 * v_val p1 = -(v_val p1) by omega,Int.sign_eq_neg_one_of_neg (by omega)]
   simp only [cond_false]
   congr 2
   omega
  ·exact absurd h1 z

abbrev con_Z1a:Con := ⟨P_Z1a,R_Z1a,fun x => qre_Z1a x.1 x.2,fun x => t_Z1a x.1 x.2⟩
theorem ok_Z1a:ConOk Tryz.prog 124 con_Z1a := okG k_Z1a e_Z1a hC_Z1a fun x hx => tf_of (w_Z1a_eq x.1 x.2 _) (d_Z1a x.1 x.2 _ (pp_Z1a x.1 x.2 hx) (tt_Z1a x.1 x.2 hx))
def C_Z1b:Cons := []
theorem hC_Z1b:ConsOk Tryz.prog C_Z1b := ConsOk.nil
def w_Z1b (p0:gE) (K:(Int×(List Int))→Prop):Prop := (K ((IntKind.i64.wrap (zz0 - p0.1)),p0.2))
theorem w_Z1b_eq (p0:gE) (K:(Int×(List Int))→Prop):tfn F_Z1b A_Z1b C_Z1b P_Z1b R_Z1b p0 K = w_Z1b p0 K := by kernel_rfl
def s_Z1b (p0:gE):(Int×(List Int)) := ((IntKind.i64.wrap ((0:Int) - p0.1)),p0.2)
abbrev pre_Z1b (_p0:gE):List Prop := []
theorem d_Z1b (p0:gE) (K:(Int×(List Int))→Prop) (_hp:∀ p∈pre_Z1b p0,p) (h:K (s_Z1b p0)):w_Z1b p0 K := by
 unfold w_Z1b
 unfold s_Z1b at h
 exact h
/-- A number that is as it should be. -/
structure v_wok (p:Int×List Int):Prop where
 eq:p = v_wide (v_wval p)
 ln:p.2.length≤1000000000000
/-- How many digits a number has. -/
def v_dl (n:Int):Nat := (v_digs n.natAbs).length
theorem v_wok.ex {p:Int×List Int} (h:v_wok p):∃ n:Int,p = v_wide n∧v_dl n≤1000000000000 := ⟨_,h.eq,by have := h.ln; rw [h.eq] at this; exact this⟩
theorem v_wok_of {n:Int} (h:v_dl n≤1000000000000):v_wok (v_wide n) := ⟨by rw [v_wval_wide],h⟩
theorem v_digs_mono {m n:Nat} (h:m≤n):(v_digs m).length≤(v_digs n).length := by
 rcases Nat.lt_or_ge (v_digs n).length (v_digs m).length with k | k
 ·have := v_digs_len_lt k; omega
 ·exact k
theorem v_dl_mono {m n:Int} (h:m.natAbs≤n.natAbs):v_dl m≤v_dl n := v_digs_mono h
theorem v_dl_mul (m n:Int):v_dl (m * n)≤v_dl m + v_dl n := by
 unfold v_dl
 refine v_digs_len ?_
 have h1 := v_digs_high m.natAbs
 have h2 := v_digs_high n.natAbs
 rw [Int.natAbs_mul,v_pow_add,Int.natCast_mul]
 rcases Int.lt_or_le 0 (n.natAbs:Int) with k | k
 ·exact Int.lt_of_lt_of_le (Int.mul_lt_mul_of_pos_right h1 k) (Int.mul_le_mul_of_nonneg_left (Int.le_of_lt h2) (by have := v_pow_pos (v_digs m.natAbs).length; omega))
 ·have:(n.natAbs:Int)=0 := by omega
  rw [this,Int.mul_zero,← v_pow_add]
  have := v_pow_pos ((v_digs m.natAbs).length + (v_digs n.natAbs).length); omega
theorem v_dl_add (m n:Int):v_dl (m + n)≤max (v_dl m) (v_dl n) + 1 := by
 unfold v_dl
 refine v_digs_len ?_
 have h1 := v_digs_high m.natAbs
 have h2 := v_digs_high n.natAbs
 have h3 := v_pow_le (Nat.le_max_left (v_digs m.natAbs).length (v_digs n.natAbs).length)
 have h4 := v_pow_le (Nat.le_max_right (v_digs m.natAbs).length (v_digs n.natAbs).length)
 have h5 := v_pow_pos (max (v_digs m.natAbs).length (v_digs n.natAbs).length)
 rw [v_pow_s]; omega
theorem v_dl_neg (n:Int):v_dl (-n)=v_dl n := by unfold v_dl; rw [Int.natAbs_neg]
theorem v_wide_1 (n:Int):(v_wide n).1 = n.sign := rfl
theorem v_wide_val (n:Int):v_val (v_wide n).2 = n.natAbs := v_digs_val _
theorem v_wide_ok (n:Int):v_dgok (v_wide n).2 := v_digs_ok _
theorem v_wide_len (n:Int):(v_wide n).2.length = v_dl n := rfl
theorem v_wide_can {n:Int} (h:v_dl n≤1000000000000):v_can (v_wide n).2 := ⟨by rw [v_wide_val,Int.toNat_natCast]; rfl,h⟩
theorem v_sign_abs (n:Int):n.sign * (n.natAbs:Int)=n := Int.sign_mul_natAbs n
theorem v_sign3 (n:Int):(n < 0∧n.sign = -1∧(n.sign == 0)=false) ∨ (n = 0∧n.sign = 0∧(n.sign == 0)=true) ∨ (0 < n∧n.sign = 1∧(n.sign == 0)=false) := by
 rcases Int.lt_trichotomy n 0 with h | h | h
 ·have e := Int.sign_eq_neg_one_of_neg h; exact .inl ⟨h,e,by rw [e]; rfl⟩
 ·subst h; exact .inr (.inl ⟨rfl,rfl,rfl⟩)
 ·have e := Int.sign_eq_one_of_pos h; exact .inr (.inr ⟨h,e,by rw [e]; rfl⟩)
theorem v_cmp_sign (a b:Int):(a - b).sign = v_cmp a b := by
 unfold v_cmp
 rcases Int.lt_trichotomy a b with h | h | h
 ·rw [decide_eq_true h,Int.sign_eq_neg_one_of_neg (by omega)]; rfl
 ·subst h; rw [Int.sub_self,decide_eq_false (by omega)]; rfl
 ·rw [decide_eq_false (show ¬ a < b by omega),decide_eq_true (show a > b from h),Int.sign_eq_one_of_pos (by omega)]; rfl
abbrev t_Z1b (p0:Int×List Int):Int×List Int := v_wide (-(v_wval p0))
abbrev qre_Z1b (p0:Int×List Int):List Prop := [v_wok p0]
theorem pp_Z1b (p0:Int×List Int) (_hq:∀ p∈qre_Z1b p0,p):∀ p∈pre_Z1b p0,p := by
 simp [pre_Z1b]
theorem tt_Z1b (p0:Int×List Int) (hq:∀ p∈qre_Z1b p0,p):s_Z1b p0 = t_Z1b p0 := by
 obtain ⟨n,rfl,h⟩ := (conj_of hq).1.ex
 unfold s_Z1b t_Z1b
 rw [v_wval_wide]
 unfold v_wide
 rw [Int.natAbs_neg,Int.sign_neg]
 rcases v_sign3 n with ⟨_,e,_⟩ | ⟨_,e,_⟩ | ⟨_,e,_⟩ <;> rw [e] <;> rfl

abbrev con_Z1b:Con := ⟨P_Z1b,R_Z1b,fun x => qre_Z1b x,fun x => t_Z1b x⟩
theorem ok_Z1b:ConOk Tryz.prog 138 con_Z1b := okG k_Z1b e_Z1b hC_Z1b fun x hx => tf_of (w_Z1b_eq x _) (d_Z1b x _ (pp_Z1b x hx) (tt_Z1b x hx))
def C_Z1o:Cons := []
theorem hC_Z1o:ConsOk Tryz.prog C_Z1o := ConsOk.nil
def w_Z1o (p0:gF) (p1:Int) (K:Int→Prop):Prop := ((((decide (p1 < (p0.length:Int)))=true) →((zz0≤p1) ∧((p1 < (p0.length:Int)) ∧(K (p0.getD p1.toNat zz0))))) ∧(((decide (p1 < (p0.length:Int)))=false) →(K zz0)))
theorem w_Z1o_eq (p0:gF) (p1:Int) (K:Int→Prop):tfn F_Z1o A_Z1o C_Z1o P_Z1o R_Z1o (p0,p1) K = w_Z1o p0 p1 K := by kernel_rfl
def s_Z1o (p0:gF) (p1:Int):Int := (cond (decide (p1 < (p0.length:Int))) (p0.getD p1.toNat (0:Int)) (0:Int))
abbrev pre_Z1o (p0:gF) (p1:Int):List Prop := [(((decide (p1 < (p0.length:Int)))=true)→((0:Int)≤p1)),(((decide (p1 < (p0.length:Int)))=true)→(p1 < (p0.length:Int)))]
theorem d_Z1o (p0:gF) (p1:Int) (K:Int→Prop) (hp:∀ p∈pre_Z1o p0 p1,p) (h:K (s_Z1o p0 p1)):w_Z1o p0 p1 K := by
 unfold w_Z1o
 unfold s_Z1o at h
 obtain ⟨hp0,hp1,_⟩ := conj_of hp
 exact (br' h (fun e0 h => ⟨(hp0 e0),(hp1 e0),h⟩)
  (fun e0 h => h))
abbrev t_Z1o (p0:gF) (p1:Int):Int := p0.getD p1.toNat 0
abbrev qre_Z1o (_p0:gF) (p1:Int):List Prop := [0≤p1]
theorem pp_Z1o (p0:gF) (p1:Int) (hq:∀ p∈qre_Z1o p0 p1,p):∀ p∈pre_Z1o p0 p1,p := by
 have h := (conj_of hq).1
 simp only [pre_Z1o,fM]
 exact ⟨fun _ => h,fun c => of_decide_eq_true c,by simp⟩
theorem tt_Z1o (p0:gF) (p1:Int) (hq:∀ p∈qre_Z1o p0 p1,p):s_Z1o p0 p1 = t_Z1o p0 p1 := by
 have h := (conj_of hq).1
 unfold s_Z1o t_Z1o
 rcases Int.lt_or_le p1 p0.length with c | c
 ·rw [decide_eq_true c]; rfl
 ·rw [decide_eq_false (by omega),gd_out 0 (by omega)]; rfl

abbrev con_Z1o:Con := ⟨P_Z1o,R_Z1o,fun x => qre_Z1o x.1 x.2,fun x => t_Z1o x.1 x.2⟩
theorem ok_Z1o:ConOk Tryz.prog 147 con_Z1o := okG k_Z1o e_Z1o hC_Z1o fun x hx => tf_of (w_Z1o_eq x.1 x.2 _) (d_Z1o x.1 x.2 _ (pp_Z1o x.1 x.2 hx) (tt_Z1o x.1 x.2 hx))
def C_Zn:Cons := [(147,[],con_Z1o)]
theorem hC_Zn:ConsOk Tryz.prog C_Zn := cC ok_Z1o <| ConsOk.nil
abbrev q0_Zn (p0:gF) (p1:gF) (y1:(Int×((List Int)×Int))) := (cond (decide (y1.1 < (p0.length:Int))) true (decide (y1.1 < (p1.length:Int))))
def w_Zn (p0:gF) (p1:gF) (K:(List Int)→Prop):Prop := (∃ n0,(loopP (fun (y1:(Int×((List Int)×Int))) k2 => ((((decide (y1.1 < (p0.length:Int)))=false) →((decide (y1.1 < (p0.length:Int)))=(decide (y1.1 < (p0.length:Int))))) ∧((((decide (y1.1 < (p0.length:Int)))=false) →((decide (y1.1 < (p0.length:Int)))=(decide (y1.1 < (p0.length:Int))))) ∧((((decide (y1.1 < (p0.length:Int)))=false) →((decide (y1.1 < (p0.length:Int)))=(decide (y1.1 < (p0.length:Int))))) ∧(((decide (y1.1 < (p0.length:Int)))=(decide (y1.1 < (p0.length:Int)))) ∧((((q0_Zn p0 p1 y1)=false) →((q0_Zn p0 p1 y1)=(q0_Zn p0 p1 y1))) ∧(((q0_Zn p0 p1 y1)=(q0_Zn p0 p1 y1)) ∧((((cond (q0_Zn p0 p1 y1) true (decide (y1.2.2 > zz0)))=true) →((zz0≤y1.1) ∧((zz0≤y1.1) ∧((((y1.2.1.length + (List.length ((Int.tmod (wi ((wi ((p0.getD y1.1.toNat zz0) + (p1.getD y1.1.toNat zz0))) + y1.2.2)) (1000000000:Int)) :: ([]:List Int)))) * 8)≤140737488355328) ∧(k2 ((wi (y1.1 + zz1)),((y1.2.1 ++ ((Int.tmod (wi ((wi ((p0.getD y1.1.toNat zz0) + (p1.getD y1.1.toNat zz0))) + y1.2.2)) (1000000000:Int)) :: ([]:List Int))),(wi (Int.tdiv (wi ((wi ((p0.getD y1.1.toNat zz0) + (p1.getD y1.1.toNat zz0))) + y1.2.2)) (1000000000:Int)))))))))) ∧(((cond (q0_Zn p0 p1 y1) true (decide (y1.2.2 > zz0)))=false) →(K y1.2.1)))))))))) n0 (zz0,(([]:List Int),zz0))))
theorem w_Zn_eq (p0:gF) (p1:gF) (K:(List Int)→Prop):tfn F_Zn A_Zn C_Zn P_Zn R_Zn (p0,p1) K = w_Zn p0 p1 K := by kernel_rfl
def st_Zn_0 (p0:gF) (p1:gF) (y0:(Int×((List Int)×Int))):(Int×((List Int)×Int)) ⊕ (List Int) := (cond (cond (cond (decide (y0.1 < (p0.length:Int))) true (decide (y0.1 < (p1.length:Int)))) true (decide (y0.2.2 > 0))) (Sum.inl ((IntKind.i64.wrap (y0.1 + 1)),((y0.2.1 ++ ((Int.tmod (IntKind.i64.wrap ((IntKind.i64.wrap ((p0.getD y0.1.toNat (0:Int)) + (p1.getD y0.1.toNat (0:Int)))) + y0.2.2)) (1000000000:Int)) :: ([]:List Int))),(IntKind.i64.wrap (Int.tdiv (IntKind.i64.wrap ((IntKind.i64.wrap ((p0.getD y0.1.toNat (0:Int)) + (p1.getD y0.1.toNat (0:Int)))) + y0.2.2)) (1000000000:Int)))))) (Sum.inr y0.2.1))
abbrev sp_Zn_0 (p0:gF) (p1:gF) (y0:(Int×((List Int)×Int))):List Prop := [(((cond (cond (decide (y0.1 < (p0.length:Int))) true (decide (y0.1 < (p1.length:Int)))) true (decide (y0.2.2 > 0)))=true)→((0:Int)≤y0.1)),(((cond (cond (decide (y0.1 < (p0.length:Int))) true (decide (y0.1 < (p1.length:Int)))) true (decide (y0.2.2 > 0)))=true)→(((y0.2.1.length + (List.length ((Int.tmod (IntKind.i64.wrap ((IntKind.i64.wrap ((p0.getD y0.1.toNat (0:Int)) + (p1.getD y0.1.toNat (0:Int)))) + y0.2.2)) (1000000000:Int)) :: ([]:List Int)))) * 8)≤140737488355328))]
def s_Zn (p0:gF) (p1:gF):(List Int) := (lpv [] (st_Zn_0 p0 p1) ((0:Int),(([]:List Int),(0:Int))))
abbrev pre_Zn (p0:gF) (p1:gF):List Prop := [(OkL (st_Zn_0 p0 p1) (sp_Zn_0 p0 p1) ((0:Int),(([]:List Int),(0:Int))))]
theorem d_Zn (p0:gF) (p1:gF) (K:(List Int)→Prop) (hp:∀ p∈pre_Zn p0 p1,p) (h:K (s_Zn p0 p1)):w_Zn p0 p1 K := by
 unfold w_Zn
 unfold s_Zn at h
 obtain ⟨hp0,_⟩ := conj_of hp
 exact (loop_gen (hp0) h (fun y0 k0 hp h => by
 unfold st_Zn_0 at h; obtain ⟨hp0,hp1,_⟩ := conj_of hp
 exact ⟨rf,rf,rf,rfl,rf,rfl,(br' h (fun e1 h => ⟨(hp0 e1),(hp0 e1),(hp1 e1),h⟩)
  (fun e1 h => h))⟩))
abbrev con_Zn:Con := ⟨P_Zn,R_Zn,fun x => pre_Zn x.1 x.2,fun x => s_Zn x.1 x.2⟩
theorem ok_Zn:ConOk Tryz.prog 143 con_Zn := okG k_Zn e_Zn hC_Zn fun x hx => tf_of (w_Zn_eq x.1 x.2 _) (d_Zn x.1 x.2 _ hx rfl)
theorem l_Zn (p0 p1:gF) (h1:v_dgok p0) (h2:v_dgok p1) (l1:p0.length≤1000000000000) (l2:p1.length≤1000000000000):OkL (st_Zn_0 p0 p1) (sp_Zn_0 p0 p1) (0,[],0)∧(v_dgok (s_Zn p0 p1)∧v_val (s_Zn p0 p1)=v_val p0 + v_val p1∧(s_Zn p0 p1).length≤1000000000001) := by
 unfold s_Zn
 refine loop_post (st := st_Zn_0 p0 p1) (sp := sp_Zn_0 p0 p1) (fun (y:Int×List Int×Int) => ∃ i:Nat,y.1 = i∧y.2.1.length = i∧v_dgok y.2.1∧(0≤y.2.2∧y.2.2≤1)∧v_val y.2.1 + v_pow i * (y.2.2 + (v_val (p0.drop i) + v_val (p1.drop i)))=v_val p0 + v_val p1∧i≤max p0.length p1.length + 1∧(i = max p0.length p1.length + 1→y.2.2 = 0)) (fun y => (max p0.length p1.length + 1 - y.1).toNat) (fun r => v_dgok r∧v_val r = v_val p0 + v_val p1∧r.length≤1000000000001) ?_ ⟨0,rfl,rfl,(fun d hd => by cases hd),⟨Int.le_refl _,by decide⟩,?_,Nat.zero_le _,fun _ => rfl⟩ (by unfold fuel; simp only; omega)
 ·rintro ⟨_,out,c⟩ ⟨i,rfl,g1,g2,g3,g4,g5,g6⟩
  simp only at g1 g2 g3 g4 g6
  have d0 := v_dgok_get h1 i
  have d1 := v_dgok_get h2 i
  have hb:(cond (cond (decide ((i:Int) < p0.length)) true (decide ((i:Int) < p1.length))) true (decide (c > 0)))=true→i≤max p0.length p1.length := by
   intro hb
   rcases Nat.lt_or_ge (max p0.length p1.length) i with k | k
   ·have hz := g6 (by omega)
    subst hz
    rw [decide_eq_false (show ¬ (i:Int) < p0.length by omega),decide_eq_false (show ¬ (i:Int) < p1.length by omega)] at hb
    cases hb
   ·exact k
  have w1:IntKind.i64.wrap (IntKind.i64.wrap (p0.getD i 0 + p1.getD i 0) + c)=p0.getD i 0 + p1.getD i 0 + c := by rw [w_add_l]; exact wrap_id (by omega) (by omega)
  simp only [sp_Zn_0,st_Zn_0,fM,Int.toNat_natCast,w1]
  cases hc:(cond (cond (decide ((i:Int) < p0.length)) true (decide ((i:Int) < p1.length))) true (decide (c > 0)))
  ·refine ⟨by and_intros <;> first | (intro p hp; cases hp; done) | (intro h; cases h; done) | (intros; omega) | (intros; simp; omega),?_⟩
   simp only [cond_false]
   have e0:¬ (i:Int) < p0.length := fun k => by rw [decide_eq_true k] at hc; cases hc
   rw [decide_eq_false e0] at hc
   have e1:¬ (i:Int) < p1.length := fun k => by rw [decide_eq_true k] at hc; cases hc
   rw [decide_eq_false e1] at hc
   have e2:¬ c > 0 := fun k => by rw [decide_eq_true k] at hc; cases hc
   rw [List.drop_eq_nil_of_le (show p0.length≤i by omega),List.drop_eq_nil_of_le (show p1.length≤i by omega),show c = 0 by omega] at g4
   have e3:v_val ([]:List Int)=0 := rfl
   rw [e3,Int.add_zero,Int.add_zero,Int.mul_zero,Int.add_zero] at g4
   exact ⟨g2,g4,by omega⟩
  ·have hi := hb hc
   refine ⟨by and_intros <;> first | (intro p hp; cases hp; done) | (intros; omega) | (intros; simp; omega),?_⟩
   simp only [cond_true]
   have nn:0≤p0.getD i 0 + p1.getD i 0 + c := by omega
   rw [Int.tmod_eq_emod_of_nonneg nn,Int.tdiv_eq_ediv_of_nonneg nn]
   have q1 := Int.emod_nonneg (p0.getD i 0 + p1.getD i 0 + c) (show (1000000000:Int) ≠ 0 by decide)
   have q2 := Int.emod_lt_of_pos (p0.getD i 0 + p1.getD i 0 + c) (show (0:Int) < 1000000000 by decide)
   have q3:0≤(p0.getD i 0 + p1.getD i 0 + c) / 1000000000∧(p0.getD i 0 + p1.getD i 0 + c) / 1000000000≤1 := by omega
   rw [wrap_id (n := (p0.getD i 0 + p1.getD i 0 + c) / 1000000000) (by omega) (by omega),wrap_nat (by omega)]
   refine ⟨⟨i + 1,rfl,by simp [g1],v_dgok_snoc g2 ⟨q1,q2⟩,q3,?_,by omega,fun h => ?_⟩,by omega⟩
   ·rw [← g1]
    refine v_add_round ?_
    rw [g1,← g4]
    have s0:v_val (p0.drop i)=p0.getD i 0 + 1000000000 * v_val (p0.drop (i + 1)) := by
     rcases Nat.lt_or_ge i p0.length with k | k
     ·rw [drop_getD 0 k]; rfl
     ·rw [gd_out 0 k,List.drop_eq_nil_of_le k,List.drop_eq_nil_of_le (by omega)]; rfl
    have s1:v_val (p1.drop i)=p1.getD i 0 + 1000000000 * v_val (p1.drop (i + 1)) := by
     rcases Nat.lt_or_ge i p1.length with k | k
     ·rw [drop_getD 0 k]; rfl
     ·rw [gd_out 0 k,List.drop_eq_nil_of_le k,List.drop_eq_nil_of_le (by omega)]; rfl
    rw [s0,s1]
    generalize v_pow i = P
    grind
   ·have e0:p0.getD i 0 = 0 := gd_out 0 (by omega)
    have e1:p1.getD i 0 = 0 := gd_out 0 (by omega)
    rw [e0,e1]; omega
 ·show (0:Int) + 1 * (0 + (v_val p0 + v_val p1))=_
  omega
def C_Zo:Cons := [(147,[],con_Z1o),(139,[],con_Zy)]
theorem hC_Zo:ConsOk Tryz.prog C_Zo := cC ok_Z1o <| cC ok_Zy <| ConsOk.nil
abbrev q0_Zo (p0:gF) (p1:gF) (y1:(Int×((List Int)×Int))) := ((p0.getD y1.1.toNat zz0) - (p1.getD y1.1.toNat zz0))
def w_Zo (p0:gF) (p1:gF) (K:(List Int)→Prop):Prop := (∃ n0,(loopP (fun (y1:(Int×((List Int)×Int))) k2 => ((((decide (y1.1 < (p0.length:Int)))=true) →((zz0≤y1.1) ∧((y1.1 < (p0.length:Int)) ∧((zz0≤y1.1) ∧((((decide ((wi ((wi (q0_Zo p0 p1 y1)) - y1.2.2)) < zz0))=true) →((((y1.2.1.length + (List.length ((wi ((wi ((wi (q0_Zo p0 p1 y1)) - y1.2.2)) + 1000000000)) :: ([]:List Int)))) * 8)≤140737488355328) ∧(k2 ((wi (y1.1 + zz1)),((y1.2.1 ++ ((wi ((wi ((wi (q0_Zo p0 p1 y1)) - y1.2.2)) + 1000000000)) :: ([]:List Int))),zz1))))) ∧(((decide ((wi ((wi (q0_Zo p0 p1 y1)) - y1.2.2)) < zz0))=false) →((((y1.2.1.length + (List.length ((wi ((wi (q0_Zo p0 p1 y1)) - y1.2.2)) :: ([]:List Int)))) * 8)≤140737488355328) ∧(k2 ((wi (y1.1 + zz1)),((y1.2.1 ++ ((wi ((wi (q0_Zo p0 p1 y1)) - y1.2.2)) :: ([]:List Int))),zz0)))))))))) ∧(((decide (y1.1 < (p0.length:Int)))=false) →((y1.2.1.length≤10000000000000) ∧(K (v_trim y1.2.1)))))) n0 (zz0,(([]:List Int),zz0))))
theorem w_Zo_eq (p0:gF) (p1:gF) (K:(List Int)→Prop):tfn F_Zo A_Zo C_Zo P_Zo R_Zo (p0,p1) K = w_Zo p0 p1 K := by kernel_rfl
def st_Zo_0 (p0:gF) (p1:gF) (y0:(Int×((List Int)×Int))):(Int×((List Int)×Int)) ⊕ (List Int) := (cond (decide (y0.1 < (p0.length:Int))) (cond (decide ((IntKind.i64.wrap ((IntKind.i64.wrap ((p0.getD y0.1.toNat (0:Int)) - (p1.getD y0.1.toNat (0:Int)))) - y0.2.2)) < 0)) (Sum.inl ((IntKind.i64.wrap (y0.1 + 1)),((y0.2.1 ++ ((IntKind.i64.wrap ((IntKind.i64.wrap ((IntKind.i64.wrap ((p0.getD y0.1.toNat (0:Int)) - (p1.getD y0.1.toNat (0:Int)))) - y0.2.2)) + 1000000000)) :: ([]:List Int))),(1:Int)))) (Sum.inl ((IntKind.i64.wrap (y0.1 + 1)),((y0.2.1 ++ ((IntKind.i64.wrap ((IntKind.i64.wrap ((p0.getD y0.1.toNat (0:Int)) - (p1.getD y0.1.toNat (0:Int)))) - y0.2.2)) :: ([]:List Int))),(0:Int))))) (Sum.inr (v_trim y0.2.1)))
abbrev sp_Zo_0 (p0:gF) (p1:gF) (y0:(Int×((List Int)×Int))):List Prop := [(((decide (y0.1 < (p0.length:Int)))=true)→((0:Int)≤y0.1)),(((decide (y0.1 < (p0.length:Int)))=true)→(y0.1 < (p0.length:Int))),(((decide (y0.1 < (p0.length:Int)))=true)→(((decide ((IntKind.i64.wrap ((IntKind.i64.wrap ((p0.getD y0.1.toNat (0:Int)) - (p1.getD y0.1.toNat (0:Int)))) - y0.2.2)) < 0))=true)→(((y0.2.1.length + (List.length ((IntKind.i64.wrap ((IntKind.i64.wrap ((IntKind.i64.wrap ((p0.getD y0.1.toNat (0:Int)) - (p1.getD y0.1.toNat (0:Int)))) - y0.2.2)) + 1000000000)) :: ([]:List Int)))) * 8)≤140737488355328))),(((decide (y0.1 < (p0.length:Int)))=true)→(((decide ((IntKind.i64.wrap ((IntKind.i64.wrap ((p0.getD y0.1.toNat (0:Int)) - (p1.getD y0.1.toNat (0:Int)))) - y0.2.2)) < 0))=false)→(((y0.2.1.length + (List.length ((IntKind.i64.wrap ((IntKind.i64.wrap ((p0.getD y0.1.toNat (0:Int)) - (p1.getD y0.1.toNat (0:Int)))) - y0.2.2)) :: ([]:List Int)))) * 8)≤140737488355328))),(((decide (y0.1 < (p0.length:Int)))=false)→(y0.2.1.length≤10000000000000))]
def s_Zo (p0:gF) (p1:gF):(List Int) := (lpv [] (st_Zo_0 p0 p1) ((0:Int),(([]:List Int),(0:Int))))
abbrev pre_Zo (p0:gF) (p1:gF):List Prop := [(OkL (st_Zo_0 p0 p1) (sp_Zo_0 p0 p1) ((0:Int),(([]:List Int),(0:Int))))]
theorem d_Zo (p0:gF) (p1:gF) (K:(List Int)→Prop) (hp:∀ p∈pre_Zo p0 p1,p) (h:K (s_Zo p0 p1)):w_Zo p0 p1 K := by
 unfold w_Zo
 unfold s_Zo at h
 obtain ⟨hp0,_⟩ := conj_of hp
 exact (loop_gen (hp0) h (fun y0 k0 hp h => by
 unfold st_Zo_0 at h; obtain ⟨hp0,hp1,hp2,hp3,hp4,_⟩ := conj_of hp
 exact (br' h (fun e1 h => ⟨(hp0 e1),(hp1 e1),(hp0 e1),(br' h (fun e2 h => ⟨(hp2 e1 e2),h⟩)
  (fun e2 h => ⟨(hp3 e1 e2),h⟩))⟩)
  (fun e1 h => ⟨(hp4 e1),h⟩))))
theorem l_Zo (p0 p1:gF) (h1:v_dgok p0) (h2:v_dgok p1) (l1:p0.length≤5000000000000) (hle:v_val p1≤v_val p0):OkL (st_Zo_0 p0 p1) (sp_Zo_0 p0 p1) (0,[],0)∧lpv [] (st_Zo_0 p0 p1) (0,[],0)=v_digs (v_val p0 - v_val p1).toNat := by
 refine for_post (dd := []) (st := st_Zo_0 p0 p1) (sp := sp_Zo_0 p0 p1) (fun i (t:List Int×Int) => (i,t)) 0 p0.length (fun j t => t.1.length = j∧v_dgok t.1∧(0≤t.2∧t.2≤1)∧v_val (p0.take j) - v_val (p1.take j)=v_val t.1 - t.2 * v_pow j) (fun r => r = v_digs (v_val p0 - v_val p1).toNat) (Nat.zero_le _) (by omega) ?_ ?_ ([],0) ⟨rfl,(fun d hd => by cases hd),⟨Int.le_refl _,by decide⟩,rfl⟩
 ·rintro ⟨out,c⟩ ⟨g1,g2,g3,g4⟩
  simp only at g1 g2 g3 g4
  have hd:decide ((p0.length:Int) < p0.length)=false := decide_eq_false (by omega)
  simp only [sp_Zo_0,st_Zo_0,fM,hd,cond_false]
  refine ⟨by and_intros <;> first | (intro p hp; cases hp; done) | (intro h; cases h; done) | (intros; omega),_,rfl,?_⟩
  rw [v_trim_is g2]
  rw [List.take_length] at g4
  have b1:v_val p1 = v_val (p1.take p0.length) := by
   have e := v_val_append (p1.take p0.length) (p1.drop p0.length)
   rw [List.take_append_drop] at e
   have n1 := v_val_nn (v_dgok_take h2 p0.length)
   have n2 := v_val_nn (v_dgok_drop h2 p0.length)
   have n3 := v_val_lt h1
   rcases Nat.lt_or_ge p0.length p1.length with k | k
   ·rw [List.length_take,Nat.min_eq_left (by omega)] at e
    have:v_val (p1.drop p0.length)=0 := by
     rcases Int.lt_or_le 0 (v_val (p1.drop p0.length)) with q | q
     ·have := Int.mul_le_mul_of_nonneg_left (show 1≤v_val (p1.drop p0.length) by omega) (show 0≤v_pow p0.length by have := v_pow_pos p0.length; omega)
      omega
     ·omega
    rw [this,Int.mul_zero] at e; omega
   ·rw [List.take_of_length_le k]
  have n4 := v_val_lt g2
  have n5 := v_val_nn g2
  rw [g1] at n4
  have hc:c = 0 := by
   rcases Int.lt_or_le 0 c with q | q
   ·have:c = 1 := by omega
    rw [this,Int.one_mul] at g4; omega
   ·omega
  rw [hc,Int.zero_mul] at g4
  congr 2
  omega
 ·rintro j ⟨out,c⟩ _ hj ⟨g1,g2,g3,g4⟩
  simp only at g1 g2 g3 g4
  have d0 := v_dgok_get h1 j
  have d1 := v_dgok_get h2 j
  have hd:decide ((j:Int) < p0.length)=true := decide_eq_true (by omega)
  have w1:IntKind.i64.wrap (IntKind.i64.wrap (p0.getD j 0 - p1.getD j 0) - c)=p0.getD j 0 - p1.getD j 0 - c := by rw [w_sub_l]; exact wrap_id (by omega) (by omega)
  have w2:IntKind.i64.wrap (p0.getD j 0 - p1.getD j 0 - c + 1000000000)=p0.getD j 0 - p1.getD j 0 - c + 1000000000 := wrap_id (by omega) (by omega)
  have t0 := v_val_take_s hj
  have t1:v_val (p1.take (j + 1))=v_val (p1.take j) + v_pow j * p1.getD j 0 := by
   rcases Nat.lt_or_ge j p1.length with k | k
   ·exact v_val_take_s k
   ·rw [List.take_of_length_le k,List.take_of_length_le (by omega),gd_out 0 k,Int.mul_zero,Int.add_zero]
  simp only [sp_Zo_0,st_Zo_0,fM,hd,cond_true,Int.toNat_natCast,w1,w2,wrap_nat (show (j:Int)≤9223372036854775806 by omega)]
  refine ⟨by and_intros <;> first | (intro p hp; cases hp; done) | (intro h; cases h; done) | (intros; omega) | (intros; simp; omega),.inl ?_⟩
  rcases dec0 (a := p0.getD j 0 - p1.getD j 0 - c) (b := 0) with ⟨k,e,_⟩ | ⟨k,e,_⟩ <;> rw [e]
  ·refine ⟨(out ++ [p0.getD j 0 - p1.getD j 0 - c + 1000000000],1),rfl,by simp [g1],v_dgok_snoc g2 ⟨by omega,by omega⟩,⟨by simp only; omega,Int.le_refl _⟩,?_⟩
   simp only
   rw [t0,t1,v_val_snoc,g1,v_pow_s]
   generalize v_pow j = P at *
   grind
  ·refine ⟨(out ++ [p0.getD j 0 - p1.getD j 0 - c],0),rfl,by simp [g1],v_dgok_snoc g2 ⟨by omega,by omega⟩,⟨Int.le_refl _,by simp only; omega⟩,?_⟩
   simp only
   rw [t0,t1,v_val_snoc,g1,v_pow_s]
   generalize v_pow j = P at *
   grind
abbrev t_Zo (p0:gF) (p1:gF):List Int := v_digs (v_val p0 - v_val p1).toNat
abbrev qre_Zo (p0:gF) (p1:gF):List Prop := [v_dgok p0,v_dgok p1,p0.length≤5000000000000,v_val p1≤v_val p0]
theorem pp_Zo (p0:gF) (p1:gF) (hq:∀ p∈qre_Zo p0 p1,p):∀ p∈pre_Zo p0 p1,p := by
 obtain ⟨h1,h2,h3,h4,_⟩ := conj_of hq
 simp only [pre_Zo,fM]
 exact ⟨(l_Zo p0 p1 h1 h2 h3 h4).1,by simp⟩
theorem tt_Zo (p0:gF) (p1:gF) (hq:∀ p∈qre_Zo p0 p1,p):s_Zo p0 p1 = t_Zo p0 p1 := by
 obtain ⟨h1,h2,h3,h4,_⟩ := conj_of hq
 exact (l_Zo p0 p1 h1 h2 h3 h4).2

abbrev con_Zo:Con := ⟨P_Zo,R_Zo,fun x => qre_Zo x.1 x.2,fun x => t_Zo x.1 x.2⟩
theorem ok_Zo:ConOk Tryz.prog 145 con_Zo := okG k_Zo e_Zo hC_Zo fun x hx => tf_of (w_Zo_eq x.1 x.2 _) (d_Zo x.1 x.2 _ (pp_Zo x.1 x.2 hx) (tt_Zo x.1 x.2 hx))
def C_Z1n:Cons := [(143,[],con_Zn),(124,[],con_Z1a),(144,[],con_Zz),(145,[],con_Zo)]
theorem hC_Z1n:ConsOk Tryz.prog C_Z1n := cC ok_Zn <| cC ok_Z1a <| cC ok_Zz <| cC ok_Zo <| ConsOk.nil
def w_Z1n (p0:gE) (p1:gE) (K:(Int×(List Int))→Prop):Prop := ((((p0.1 == 0)=true) →(K p1)) ∧(((p0.1 == 0)=false) →((((p1.1 == 0)=true) →(K p0)) ∧(((p1.1 == 0)=false) →((((p0.1 == p1.1)=true) →((OkL (st_Zn_0 p0.2 p1.2) (sp_Zn_0 p0.2 p1.2) (zz0,(([]:List Int),zz0))) ∧((v_sgn p0.1 (s_Zn p0.2 p1.2)) ∧((v_dgok (s_Zn p0.2 p1.2)) ∧(((List.length (s_Zn p0.2 p1.2))≤10000000000000) ∧(K (v_wide (p0.1 * (v_val (s_Zn p0.2 p1.2)))))))))) ∧(((p0.1 == p1.1)=false) →((v_can p0.2) ∧((v_can p1.2) ∧(((((v_cmp (v_val p0.2) (v_val p1.2)) == 0)=true) →(K (zz0,([]:List Int)))) ∧((((v_cmp (v_val p0.2) (v_val p1.2)) == 0)=false) →((((decide ((v_cmp (v_val p0.2) (v_val p1.2)) > 0))=true) →((v_dgok p0.2) ∧((v_dgok p1.2) ∧((p0.2.length≤5000000000000) ∧(((v_val p1.2)≤(v_val p0.2)) ∧((v_sgn p0.1 (v_digs (Int.toNat ((v_val p0.2) - (v_val p1.2))))) ∧((v_dgok (v_digs (Int.toNat ((v_val p0.2) - (v_val p1.2))))) ∧(((List.length (v_digs (Int.toNat ((v_val p0.2) - (v_val p1.2)))))≤10000000000000) ∧(K (v_wide (p0.1 * (v_val (v_digs (Int.toNat ((v_val p0.2) - (v_val p1.2)))))))))))))))) ∧(((decide ((v_cmp (v_val p0.2) (v_val p1.2)) > 0))=false) →((v_dgok p1.2) ∧((v_dgok p0.2) ∧((p1.2.length≤5000000000000) ∧(((v_val p0.2)≤(v_val p1.2)) ∧((v_sgn p1.1 (v_digs (Int.toNat ((v_val p1.2) - (v_val p0.2))))) ∧((v_dgok (v_digs (Int.toNat ((v_val p1.2) - (v_val p0.2))))) ∧(((List.length (v_digs (Int.toNat ((v_val p1.2) - (v_val p0.2)))))≤10000000000000) ∧(K (v_wide (p1.1 * (v_val (v_digs (Int.toNat ((v_val p1.2) - (v_val p0.2)))))))))))))))))))))))))))
theorem w_Z1n_eq (p0:gE) (p1:gE) (K:(Int×(List Int))→Prop):tfn F_Z1n A_Z1n C_Z1n P_Z1n R_Z1n (p0,p1) K = w_Z1n p0 p1 K := by kernel_rfl
def s_Z1n (p0:gE) (p1:gE):(Int×(List Int)) := (cond (p0.1 == 0) p1 (cond (p1.1 == 0) p0 (cond (p0.1 == p1.1) (v_wide (p0.1 * (v_val (s_Zn p0.2 p1.2)))) (cond ((v_cmp (v_val p0.2) (v_val p1.2)) == 0) ((0:Int),([]:List Int)) (cond (decide ((v_cmp (v_val p0.2) (v_val p1.2)) > 0)) (v_wide (p0.1 * (v_val (v_digs (Int.toNat ((v_val p0.2) - (v_val p1.2))))))) (v_wide (p1.1 * (v_val (v_digs (Int.toNat ((v_val p1.2) - (v_val p0.2))))))))))))
abbrev pre_Z1n (p0:gE) (p1:gE):List Prop := [(((p0.1 == 0)=false)→(((p1.1 == 0)=false)→(((p0.1 == p1.1)=true)→(OkL (st_Zn_0 p0.2 p1.2) (sp_Zn_0 p0.2 p1.2) ((0:Int),(([]:List Int),(0:Int))))))),(((p0.1 == 0)=false)→(((p1.1 == 0)=false)→(((p0.1 == p1.1)=true)→(v_sgn p0.1 (s_Zn p0.2 p1.2))))),(((p0.1 == 0)=false)→(((p1.1 == 0)=false)→(((p0.1 == p1.1)=true)→(v_dgok (s_Zn p0.2 p1.2))))),(((p0.1 == 0)=false)→(((p1.1 == 0)=false)→(((p0.1 == p1.1)=true)→((List.length (s_Zn p0.2 p1.2))≤10000000000000)))),(((p0.1 == 0)=false)→(((p1.1 == 0)=false)→(((p0.1 == p1.1)=false)→(v_can p0.2)))),(((p0.1 == 0)=false)→(((p1.1 == 0)=false)→(((p0.1 == p1.1)=false)→(v_can p1.2)))),(((p0.1 == 0)=false)→(((p1.1 == 0)=false)→(((p0.1 == p1.1)=false)→((((v_cmp (v_val p0.2) (v_val p1.2)) == 0)=false)→(((decide ((v_cmp (v_val p0.2) (v_val p1.2)) > 0))=true)→(v_dgok p0.2)))))),(((p0.1 == 0)=false)→(((p1.1 == 0)=false)→(((p0.1 == p1.1)=false)→((((v_cmp (v_val p0.2) (v_val p1.2)) == 0)=false)→(((decide ((v_cmp (v_val p0.2) (v_val p1.2)) > 0))=true)→(v_dgok p1.2)))))),(((p0.1 == 0)=false)→(((p1.1 == 0)=false)→(((p0.1 == p1.1)=false)→((((v_cmp (v_val p0.2) (v_val p1.2)) == 0)=false)→(((decide ((v_cmp (v_val p0.2) (v_val p1.2)) > 0))=true)→(p0.2.length≤5000000000000)))))),(((p0.1 == 0)=false)→(((p1.1 == 0)=false)→(((p0.1 == p1.1)=false)→((((v_cmp (v_val p0.2) (v_val p1.2)) == 0)=false)→(((decide ((v_cmp (v_val p0.2) (v_val p1.2)) > 0))=true)→((v_val p1.2)≤(v_val p0.2))))))),(((p0.1 == 0)=false)→(((p1.1 == 0)=false)→(((p0.1 == p1.1)=false)→((((v_cmp (v_val p0.2) (v_val p1.2)) == 0)=false)→(((decide ((v_cmp (v_val p0.2) (v_val p1.2)) > 0))=true)→(v_sgn p0.1 (v_digs (Int.toNat ((v_val p0.2) - (v_val p1.2)))))))))),(((p0.1 == 0)=false)→(((p1.1 == 0)=false)→(((p0.1 == p1.1)=false)→((((v_cmp (v_val p0.2) (v_val p1.2)) == 0)=false)→(((decide ((v_cmp (v_val p0.2) (v_val p1.2)) > 0))=true)→(v_dgok (v_digs (Int.toNat ((v_val p0.2) - (v_val p1.2)))))))))),(((p0.1 == 0)=false)→(((p1.1 == 0)=false)→(((p0.1 == p1.1)=false)→((((v_cmp (v_val p0.2) (v_val p1.2)) == 0)=false)→(((decide ((v_cmp (v_val p0.2) (v_val p1.2)) > 0))=true)→((List.length (v_digs (Int.toNat ((v_val p0.2) - (v_val p1.2)))))≤10000000000000)))))),(((p0.1 == 0)=false)→(((p1.1 == 0)=false)→(((p0.1 == p1.1)=false)→((((v_cmp (v_val p0.2) (v_val p1.2)) == 0)=false)→(((decide ((v_cmp (v_val p0.2) (v_val p1.2)) > 0))=false)→(v_dgok p1.2)))))),(((p0.1 == 0)=false)→(((p1.1 == 0)=false)→(((p0.1 == p1.1)=false)→((((v_cmp (v_val p0.2) (v_val p1.2)) == 0)=false)→(((decide ((v_cmp (v_val p0.2) (v_val p1.2)) > 0))=false)→(v_dgok p0.2)))))),(((p0.1 == 0)=false)→(((p1.1 == 0)=false)→(((p0.1 == p1.1)=false)→((((v_cmp (v_val p0.2) (v_val p1.2)) == 0)=false)→(((decide ((v_cmp (v_val p0.2) (v_val p1.2)) > 0))=false)→(p1.2.length≤5000000000000)))))),(((p0.1 == 0)=false)→(((p1.1 == 0)=false)→(((p0.1 == p1.1)=false)→((((v_cmp (v_val p0.2) (v_val p1.2)) == 0)=false)→(((decide ((v_cmp (v_val p0.2) (v_val p1.2)) > 0))=false)→((v_val p0.2)≤(v_val p1.2))))))),(((p0.1 == 0)=false)→(((p1.1 == 0)=false)→(((p0.1 == p1.1)=false)→((((v_cmp (v_val p0.2) (v_val p1.2)) == 0)=false)→(((decide ((v_cmp (v_val p0.2) (v_val p1.2)) > 0))=false)→(v_sgn p1.1 (v_digs (Int.toNat ((v_val p1.2) - (v_val p0.2)))))))))),(((p0.1 == 0)=false)→(((p1.1 == 0)=false)→(((p0.1 == p1.1)=false)→((((v_cmp (v_val p0.2) (v_val p1.2)) == 0)=false)→(((decide ((v_cmp (v_val p0.2) (v_val p1.2)) > 0))=false)→(v_dgok (v_digs (Int.toNat ((v_val p1.2) - (v_val p0.2)))))))))),(((p0.1 == 0)=false)→(((p1.1 == 0)=false)→(((p0.1 == p1.1)=false)→((((v_cmp (v_val p0.2) (v_val p1.2)) == 0)=false)→(((decide ((v_cmp (v_val p0.2) (v_val p1.2)) > 0))=false)→((List.length (v_digs (Int.toNat ((v_val p1.2) - (v_val p0.2)))))≤10000000000000))))))]
theorem d_Z1n (p0:gE) (p1:gE) (K:(Int×(List Int))→Prop) (hp:∀ p∈pre_Z1n p0 p1,p) (h:K (s_Z1n p0 p1)):w_Z1n p0 p1 K := by
 unfold w_Z1n
 unfold s_Z1n at h
 obtain ⟨hp0,hp1,hp2,hp3,hp4,hp5,hp6,hp7,hp8,hp9,hp10,hp11,hp12,hp13,hp14,hp15,hp16,hp17,hp18,hp19,_⟩ := conj_of hp
 exact (br' h (fun e0 h => h)
  (fun e0 h => (br' h (fun e1 h => h)
  (fun e1 h => (br' h (fun e2 h => ⟨(hp0 e0 e1 e2),(hp1 e0 e1 e2),(hp2 e0 e1 e2),(hp3 e0 e1 e2),h⟩)
  (fun e2 h => ⟨(hp4 e0 e1 e2),(hp5 e0 e1 e2),(br' h (fun e3 h => h)
  (fun e3 h => (br' h (fun e4 h => ⟨(hp6 e0 e1 e2 e3 e4),(hp7 e0 e1 e2 e3 e4),(hp8 e0 e1 e2 e3 e4),(hp9 e0 e1 e2 e3 e4),(hp10 e0 e1 e2 e3 e4),(hp11 e0 e1 e2 e3 e4),(hp12 e0 e1 e2 e3 e4),h⟩)
  (fun e4 h => ⟨(hp13 e0 e1 e2 e3 e4),(hp14 e0 e1 e2 e3 e4),(hp15 e0 e1 e2 e3 e4),(hp16 e0 e1 e2 e3 e4),(hp17 e0 e1 e2 e3 e4),(hp18 e0 e1 e2 e3 e4),(hp19 e0 e1 e2 e3 e4),h⟩))))⟩))))))
abbrev t_Z1n (p0:Int×List Int) (p1:Int×List Int):Int×List Int := v_wide (v_wval p0 + v_wval p1)
abbrev qre_Z1n (p0:Int×List Int) (p1:Int×List Int):List Prop := [v_wok p0,v_wok p1]
theorem pp_Z1n (p0:Int×List Int) (p1:Int×List Int) (hq:∀ p∈qre_Z1n p0 p1,p):∀ p∈pre_Z1n p0 p1,p := by
 obtain ⟨h1,h2,_⟩ := conj_of hq
 obtain ⟨m,rfl,hm⟩ := h1.ex
 obtain ⟨n,rfl,hn⟩ := h2.ex
 simp only [pre_Z1n,fM,v_wide_1,v_wide_val]
 obtain ⟨a1,a2,a3,a4⟩ := l_Zn _ _ (v_wide_ok m) (v_wide_ok n) hm hn
 have c1 := v_wide_can hm
 have c2 := v_wide_can hn
 have k1 := v_wide_ok m
 have k2 := v_wide_ok n
 have dl1:(v_digs ((m.natAbs:Int) - n.natAbs).toNat).length≤10000000000000 := Nat.le_trans (v_digs_mono (n := m.natAbs) (by omega)) (Nat.le_trans hm (by decide))
 have dl2:(v_digs ((n.natAbs:Int) - m.natAbs).toNat).length≤10000000000000 := Nat.le_trans (v_digs_mono (n := n.natAbs) (by omega)) (Nat.le_trans hn (by decide))
 have sg:∀ (x:Int) (l:gF),(x.sign == 0)=false→v_sgn x.sign l := fun x l h => by
  rcases v_sign3 x with ⟨_,e,f⟩ | ⟨_,e,f⟩ | ⟨_,e,f⟩
  ·exact .inr (.inl e)
  ·rw [f] at h; cases h
  ·exact .inl e
 have cgt:∀ a b:Int,decide (v_cmp a b > 0)=true→b≤a := fun a b h => by have := v_cmp_gt.1 (of_decide_eq_true h); omega
 have clt:∀ a b:Int,decide (v_cmp a b > 0)=false→a≤b := fun a b h => by
  have h := of_decide_eq_false h
  rcases Int.lt_or_le b a with k | k
  ·exact absurd (v_cmp_gt.2 k) h
  ·exact k
 have hm5:(v_wide m).2.length≤5000000000000 := Nat.le_trans hm (by decide)
 have hn5:(v_wide n).2.length≤5000000000000 := Nat.le_trans hn (by decide)
 refine ⟨fun _ _ _ => a1,fun h _ _ => sg _ _ h,fun _ _ _ => a2,fun _ _ _ => by omega,fun _ _ _ => c1,fun _ _ _ => c2,?_⟩
 refine ⟨fun _ _ _ _ _ => k1,fun _ _ _ _ _ => k2,fun _ _ _ _ _ => hm5,fun _ _ _ _ h => cgt _ _ h,fun h _ _ _ _ => sg _ _ h,fun _ _ _ _ _ => v_digs_ok _,fun _ _ _ _ _ => dl1,?_⟩
 exact ⟨fun _ _ _ _ _ => k2,fun _ _ _ _ _ => k1,fun _ _ _ _ _ => hn5,fun _ _ _ _ h => clt _ _ h,fun _ h _ _ _ => sg _ _ h,fun _ _ _ _ _ => v_digs_ok _,fun _ _ _ _ _ => dl2,by simp⟩
theorem tt_Z1n (p0:Int×List Int) (p1:Int×List Int) (hq:∀ p∈qre_Z1n p0 p1,p):s_Z1n p0 p1 = t_Z1n p0 p1 := by
 obtain ⟨h1,h2,_⟩ := conj_of hq
 obtain ⟨m,rfl,hm⟩ := h1.ex
 obtain ⟨n,rfl,hn⟩ := h2.ex
 unfold s_Z1n t_Z1n
 obtain ⟨_,_,a3,_⟩ := l_Zn _ _ (v_wide_ok m) (v_wide_ok n) hm hn
 rw [v_wval_wide,v_wval_wide,a3]
 simp only [v_wide_1,v_wide_val,v_digs_val]
 rcases v_sign3 m with ⟨k1,e1,f1⟩ | ⟨k1,e1,f1⟩ | ⟨k1,e1,f1⟩ <;> rw [f1]
 ·rcases v_sign3 n with ⟨k2,e2,f2⟩ | ⟨k2,e2,f2⟩ | ⟨k2,e2,f2⟩ <;> rw [f2]
  ·rw [e1,e2]
   simp only [cond_false,beq_self_eq_true,cond_true]
   congr 1; omega
  ·subst k2; simp
  ·rw [e1,e2]
   simp only [cond_false,show ((-1:Int) == 1)=false from rfl]
   unfold v_cmp
   rcases Int.lt_trichotomy (m.natAbs:Int) n.natAbs with c | c | c
   ·rw [decide_eq_true c]
    simp only [cond_true,show ((-1:Int) == 0)=false from rfl,show decide ((-1:Int) > 0)=false from rfl,cond_false]
    congr 1; omega
   ·rw [decide_eq_false (show ¬ (m.natAbs:Int) < n.natAbs by omega),decide_eq_false (show ¬ (m.natAbs:Int) > n.natAbs by omega)]
    simp only [cond_false,beq_self_eq_true,cond_true]
    rw [show m + n = 0 by omega]
    unfold v_wide
    rw [show Int.natAbs 0 = 0 from rfl,v_digs_0]; rfl
   ·rw [decide_eq_false (show ¬ (m.natAbs:Int) < n.natAbs by omega),decide_eq_true (show (m.natAbs:Int) > n.natAbs from c)]
    simp only [cond_true,cond_false,show ((1:Int) == 0)=false from rfl,show decide ((1:Int) > 0)=true from rfl]
    congr 1; omega
 ·subst k1; simp
 ·rcases v_sign3 n with ⟨k2,e2,f2⟩ | ⟨k2,e2,f2⟩ | ⟨k2,e2,f2⟩ <;> rw [f2]
  ·rw [e1,e2]
   simp only [cond_false,show ((1:Int) == -1)=false from rfl]
   unfold v_cmp
   rcases Int.lt_trichotomy (m.natAbs:Int) n.natAbs with c | c | c
   ·rw [decide_eq_true c]
    simp only [cond_true,show ((-1:Int) == 0)=false from rfl,show decide ((-1:Int) > 0)=false from rfl,cond_false]
    congr 1; omega
   ·rw [decide_eq_false (show ¬ (m.natAbs:Int) < n.natAbs by omega),decide_eq_false (show ¬ (m.natAbs:Int) > n.natAbs by omega)]
    simp only [cond_false,beq_self_eq_true,cond_true]
    rw [show m + n = 0 by omega]
    unfold v_wide
    rw [show Int.natAbs 0 = 0 from rfl,v_digs_0]; rfl
   ·rw [decide_eq_false (show ¬ (m.natAbs:Int) < n.natAbs by omega),decide_eq_true (show (m.natAbs:Int) > n.natAbs from c)]
    simp only [cond_true,cond_false,show ((1:Int) == 0)=false from rfl,show decide ((1:Int) > 0)=true from rfl]
    congr 1; omega
  ·subst k2; simp
  ·rw [e1,e2]
   simp only [cond_false,beq_self_eq_true,cond_true]
   congr 1; omega

abbrev con_Z1n:Con := ⟨P_Z1n,R_Z1n,fun x => qre_Z1n x.1 x.2,fun x => t_Z1n x.1 x.2⟩
theorem ok_Z1n:ConOk Tryz.prog 137 con_Z1n := okG k_Z1n e_Z1n hC_Z1n fun x hx => tf_of (w_Z1n_eq x.1 x.2 _) (d_Z1n x.1 x.2 _ (pp_Z1n x.1 x.2 hx) (tt_Z1n x.1 x.2 hx))
def C_Zc:Cons := [(124,[],con_Z1a)]
theorem hC_Zc:ConsOk Tryz.prog C_Zc := cC ok_Z1a <| ConsOk.nil
def w_Zc (p0:gE) (p1:gE) (K:(Int×(List Int))→Prop):Prop := ((zz0≤(IntKind.i64.wrap ((IntKind.i64.wrap ((p0.2.length:Int) + (p1.2.length:Int))) + 1))) ∧((((8:Int) * (IntKind.i64.wrap ((IntKind.i64.wrap ((p0.2.length:Int) + (p1.2.length:Int))) + 1)))≤281474976710656) ∧(((IntKind.i64.wrap ((IntKind.i64.wrap ((p0.2.length:Int) + (p1.2.length:Int))) + 1))≤9223372036854775807) ∧(∃ n0,(loopP (fun (y1:gE) k2 => ((((decide (y1.1 < (p0.2.length:Int)))=true) →(∃ n3,(loopP (fun (y4:(Int×(Int×(List Int)))) k5 => ((((decide (y4.1 < (p1.2.length:Int)))=true) →((zz0≤(IntKind.i64.wrap (y1.1 + y4.1))) ∧(((IntKind.i64.wrap (y1.1 + y4.1)) < (y4.2.2.length:Int)) ∧((zz0≤y1.1) ∧((y1.1 < (p0.2.length:Int)) ∧((zz0≤y4.1) ∧((y4.1 < (p1.2.length:Int)) ∧((zz0≤(IntKind.i64.wrap (y1.1 + y4.1))) ∧(((IntKind.i64.wrap (y1.1 + y4.1)) < (y4.2.2.length:Int)) ∧(k5 ((IntKind.i64.wrap (y4.1 + 1)),((IntKind.i64.wrap (Int.tdiv (IntKind.i64.wrap ((IntKind.i64.wrap ((y4.2.2.getD (Int.toNat (IntKind.i64.wrap (y1.1 + y4.1))) zz0) + (IntKind.i64.wrap ((p0.2.getD y1.1.toNat zz0) * (p1.2.getD y4.1.toNat zz0))))) + y4.2.1)) (1000000000:Int))),(List.set y4.2.2 (Int.toNat (IntKind.i64.wrap (y1.1 + y4.1))) (Int.tmod (IntKind.i64.wrap ((IntKind.i64.wrap ((y4.2.2.getD (Int.toNat (IntKind.i64.wrap (y1.1 + y4.1))) zz0) + (IntKind.i64.wrap ((p0.2.getD y1.1.toNat zz0) * (p1.2.getD y4.1.toNat zz0))))) + y4.2.1)) (1000000000:Int))))))))))))))) ∧(((decide (y4.1 < (p1.2.length:Int)))=false) →((zz0≤(IntKind.i64.wrap (y1.1 + (p1.2.length:Int)))) ∧(((IntKind.i64.wrap (y1.1 + (p1.2.length:Int))) < (y4.2.2.length:Int)) ∧((zz0≤(IntKind.i64.wrap (y1.1 + (p1.2.length:Int)))) ∧(((IntKind.i64.wrap (y1.1 + (p1.2.length:Int))) < (y4.2.2.length:Int)) ∧(k2 ((IntKind.i64.wrap (y1.1 + 1)),(List.set y4.2.2 (Int.toNat (IntKind.i64.wrap (y1.1 + (p1.2.length:Int)))) (IntKind.i64.wrap ((y4.2.2.getD (Int.toNat (IntKind.i64.wrap (y1.1 + (p1.2.length:Int)))) zz0) + y4.2.1)))))))))))) n3 (zz0,(zz0,y1.2))))) ∧(((decide (y1.1 < (p0.2.length:Int)))=false) →((v_sgn (IntKind.i64.wrap (p0.1 * p1.1)) y1.2) ∧((v_dgok y1.2) ∧((y1.2.length≤10000000000000) ∧(K (v_wide ((IntKind.i64.wrap (p0.1 * p1.1)) * (v_val y1.2)))))))))) n0 (zz0,(List.replicate (Int.toNat (IntKind.i64.wrap ((IntKind.i64.wrap ((p0.2.length:Int) + (p1.2.length:Int))) + 1))) zz0)))))))
theorem w_Zc_eq (p0:gE) (p1:gE) (K:(Int×(List Int))→Prop):tfn F_Zc A_Zc C_Zc P_Zc R_Zc (p0,p1) K = w_Zc p0 p1 K := by kernel_rfl
def st_Zc_0 (p0:gE) (p1:gE) (y0:gE) (y2:(Int×(Int×(List Int)))):(Int×(Int×(List Int))) ⊕ ((Int×(List Int)) ⊕ (Int×(List Int))) := (cond (decide (y2.1 < (p1.2.length:Int))) (Sum.inl ((IntKind.i64.wrap (y2.1 + 1)),((IntKind.i64.wrap (Int.tdiv (IntKind.i64.wrap ((IntKind.i64.wrap ((y2.2.2.getD (Int.toNat (IntKind.i64.wrap (y0.1 + y2.1))) (0:Int)) + (IntKind.i64.wrap ((p0.2.getD y0.1.toNat (0:Int)) * (p1.2.getD y2.1.toNat (0:Int)))))) + y2.2.1)) (1000000000:Int))),(List.set y2.2.2 (Int.toNat (IntKind.i64.wrap (y0.1 + y2.1))) (Int.tmod (IntKind.i64.wrap ((IntKind.i64.wrap ((y2.2.2.getD (Int.toNat (IntKind.i64.wrap (y0.1 + y2.1))) (0:Int)) + (IntKind.i64.wrap ((p0.2.getD y0.1.toNat (0:Int)) * (p1.2.getD y2.1.toNat (0:Int)))))) + y2.2.1)) (1000000000:Int)))))) (Sum.inr (Sum.inl ((IntKind.i64.wrap (y0.1 + 1)),(List.set y2.2.2 (Int.toNat (IntKind.i64.wrap (y0.1 + (p1.2.length:Int)))) (IntKind.i64.wrap ((y2.2.2.getD (Int.toNat (IntKind.i64.wrap (y0.1 + (p1.2.length:Int)))) (0:Int)) + y2.2.1)))))))
abbrev sp_Zc_0 (p0:gE) (p1:gE) (y0:gE) (y2:(Int×(Int×(List Int)))):List Prop := [(((decide (y2.1 < (p1.2.length:Int)))=true)→((0:Int)≤(IntKind.i64.wrap (y0.1 + y2.1)))),(((decide (y2.1 < (p1.2.length:Int)))=true)→((IntKind.i64.wrap (y0.1 + y2.1)) < (y2.2.2.length:Int))),(((decide (y2.1 < (p1.2.length:Int)))=true)→((0:Int)≤y0.1)),(((decide (y2.1 < (p1.2.length:Int)))=true)→(y0.1 < (p0.2.length:Int))),(((decide (y2.1 < (p1.2.length:Int)))=true)→((0:Int)≤y2.1)),(((decide (y2.1 < (p1.2.length:Int)))=true)→(y2.1 < (p1.2.length:Int))),(((decide (y2.1 < (p1.2.length:Int)))=false)→((0:Int)≤(IntKind.i64.wrap (y0.1 + (p1.2.length:Int))))),(((decide (y2.1 < (p1.2.length:Int)))=false)→((IntKind.i64.wrap (y0.1 + (p1.2.length:Int))) < (y2.2.2.length:Int)))]
def st_Zc_1 (p0:gE) (p1:gE) (y0:gE):(Int×(List Int)) ⊕ (Int×(List Int)) := (cond (decide (y0.1 < (p0.2.length:Int))) (lpv (Sum.inr ((0:Int),[])) (st_Zc_0 p0 p1 y0) ((0:Int),((0:Int),y0.2))) (Sum.inr (v_wide ((IntKind.i64.wrap (p0.1 * p1.1)) * (v_val y0.2)))))
abbrev sp_Zc_1 (p0:gE) (p1:gE) (y0:gE):List Prop := [(((decide (y0.1 < (p0.2.length:Int)))=true)→(OkL (st_Zc_0 p0 p1 y0) (sp_Zc_0 p0 p1 y0) ((0:Int),((0:Int),y0.2)))),(((decide (y0.1 < (p0.2.length:Int)))=false)→(v_sgn (IntKind.i64.wrap (p0.1 * p1.1)) y0.2)),(((decide (y0.1 < (p0.2.length:Int)))=false)→(v_dgok y0.2)),(((decide (y0.1 < (p0.2.length:Int)))=false)→(y0.2.length≤10000000000000))]
def s_Zc (p0:gE) (p1:gE):(Int×(List Int)) := (lpv ((0:Int),[]) (st_Zc_1 p0 p1) ((0:Int),(List.replicate (Int.toNat (IntKind.i64.wrap ((IntKind.i64.wrap ((p0.2.length:Int) + (p1.2.length:Int))) + 1))) (0:Int))))
abbrev pre_Zc (p0:gE) (p1:gE):List Prop := [((0:Int)≤(IntKind.i64.wrap ((IntKind.i64.wrap ((p0.2.length:Int) + (p1.2.length:Int))) + 1))),(((8:Int) * (IntKind.i64.wrap ((IntKind.i64.wrap ((p0.2.length:Int) + (p1.2.length:Int))) + 1)))≤281474976710656),((IntKind.i64.wrap ((IntKind.i64.wrap ((p0.2.length:Int) + (p1.2.length:Int))) + 1))≤9223372036854775807),(OkL (st_Zc_1 p0 p1) (sp_Zc_1 p0 p1) ((0:Int),(List.replicate (Int.toNat (IntKind.i64.wrap ((IntKind.i64.wrap ((p0.2.length:Int) + (p1.2.length:Int))) + 1))) (0:Int))))]
theorem d_Zc (p0:gE) (p1:gE) (K:(Int×(List Int))→Prop) (hp:∀ p∈pre_Zc p0 p1,p) (h:K (s_Zc p0 p1)):w_Zc p0 p1 K := by
 unfold w_Zc
 unfold s_Zc at h
 obtain ⟨hp0,hp1,hp2,hp3,_⟩ := conj_of hp
 exact ⟨(hp0),(hp1),(hp2),(loop_gen (hp3) h (fun y0 k0 hp h => by
 unfold st_Zc_1 at h; obtain ⟨hp0,hp1,hp2,hp3,_⟩ := conj_of hp
 exact (br' h (fun e1 h => (loop_gen (hp0 e1) h (fun y2 k2 hp h => by
 unfold st_Zc_0 at h; obtain ⟨hp0,hp1,hp2,hp3,hp4,hp5,hp6,hp7,_⟩ := conj_of hp
 exact (br' h (fun e3 h => ⟨(hp0 e3),(hp1 e3),(hp2 e3),(hp3 e3),(hp4 e3),(hp5 e3),(hp0 e3),(hp1 e3),h⟩)
  (fun e3 h => ⟨(hp6 e3),(hp7 e3),(hp6 e3),(hp7 e3),h⟩)))))
  (fun e1 h => ⟨(hp1 e1),(hp2 e1),(hp3 e1),h⟩))))⟩
theorem l_Zc_0 (p0 p1:Int×List Int) (d1:v_dgok p0.2) (d2:v_dgok p1.2) (l1:p0.2.length≤1000000000000) (l2:p1.2.length≤1000000000000) (j:Nat) (hj:j < p0.2.length) (out:gF) (ho:out.length = p0.2.length + p1.2.length + 1) (hd:v_dgok out) (hz:∀ m,j + p1.2.length≤m→out.getD m 0 = 0) :
  OkL (st_Zc_0 p0 p1 ((j:Int),out)) (sp_Zc_0 p0 p1 ((j:Int),out)) (0,0,out)∧(fun (r:(Int×List Int) ⊕ (Int×List Int)) => ∃ o2:List Int,r = .inl (((j + 1:Nat):Int),o2)∧o2.length = p0.2.length + p1.2.length + 1∧v_dgok o2∧v_val o2 = v_val out + p0.2.getD j 0 * v_pow j * v_val p1.2∧(∀ m,j + 1 + p1.2.length≤m→o2.getD m 0 = 0)) (lpv (.inr (0,[])) (st_Zc_0 p0 p1 ((j:Int),out)) (0,0,out)) := by
 refine @for_post (Int×List Int) (Int×Int×List Int) ((Int×List Int) ⊕ (Int×List Int)) (.inr (0,[])) (st_Zc_0 p0 p1 ((j:Int),out)) (sp_Zc_0 p0 p1 ((j:Int),out)) (fun i (t:Int×List Int) => (i,t)) 0 p1.2.length
  (fun k t => t.2.length = p0.2.length + p1.2.length + 1∧v_dgok t.2∧(0≤t.1∧t.1 < 1000000000)∧v_val t.2 + t.1 * v_pow (j + k)=v_val out + p0.2.getD j 0 * v_pow j * v_val (p1.2.take k)∧(∀ m,j + p1.2.length≤m→t.2.getD m 0 = 0))
  (fun r => ∃ o2:List Int,r = .inl (((j + 1:Nat):Int),o2)∧o2.length = p0.2.length + p1.2.length + 1∧v_dgok o2∧v_val o2 = v_val out + p0.2.getD j 0 * v_pow j * v_val p1.2∧(∀ m,j + 1 + p1.2.length≤m→o2.getD m 0 = 0)) (Nat.zero_le _) (by omega) ?_ ?_ (0,out) ⟨ho,hd,⟨Int.le_refl _,by simp only; omega⟩,?_,hz⟩
 ·rintro ⟨c,o⟩ ⟨g1,g2,g3,g4,g5⟩
  simp only at g1 g2 g3 g4 g5
  have hd:decide ((p1.2.length:Int) < p1.2.length)=false := decide_eq_false (by omega)
  have wi:IntKind.i64.wrap ((j:Int) + p1.2.length)=((j + p1.2.length:Nat):Int) := by rw [wrap_id (by omega) (by omega)]; omega
  have hz0 := g5 (j + p1.2.length) (Nat.le_refl _)
  simp only [sp_Zc_0,st_Zc_0,fM,hd,cond_false,wi,Int.toNat_natCast,hz0]
  refine ⟨by and_intros <;> first | (intro p hp; cases hp; done) | (intro h; cases h; done) | (intros; omega),_,rfl,o.set (j + p1.2.length) c,?_,by rw [List.length_set]; exact g1,v_dgok_set g2 g3,?_,fun m hm => ?_⟩
  ·rw [wrap_nat (by omega),Int.zero_add,wrap_id (n := c) (by omega) (by omega)]
  ·rw [v_val_set _ _ _ (by omega),hz0,Int.sub_zero,Int.mul_comm (v_pow _) c,g4,List.take_length]
  ·rw [gd_set (by omega),if_neg (by omega)]; exact g5 m (by omega)
 ·rintro k ⟨c,o⟩ _ hk ⟨g1,g2,g3,g4,g5⟩
  simp only at g1 g2 g3 g4 g5
  have hdd:decide ((k:Int) < p1.2.length)=true := decide_eq_true (by omega)
  have wi:IntKind.i64.wrap ((j:Int) + k)=((j + k:Nat):Int) := by rw [wrap_id (by omega) (by omega)]; omega
  obtain ⟨b1,b2,b3,b4⟩ := v_mul_small (v_dgok_get g2 (j + k)) (v_dgok_get d1 j) (v_dgok_get d2 k) g3
  have q0 := v_dgok_get g2 (j + k)
  have ws:IntKind.i64.wrap (IntKind.i64.wrap (o.getD (j + k) 0 + IntKind.i64.wrap (p0.2.getD j 0 * p1.2.getD k 0)) + c)=o.getD (j + k) 0 + p0.2.getD j 0 * p1.2.getD k 0 + c := by
   rw [w_add_r,w_add_l]; exact wrap_id (by omega) (by omega)
  simp only [sp_Zc_0,st_Zc_0,fM,hdd,cond_true,wi,Int.toNat_natCast,ws,wrap_nat (show (k:Int)≤9223372036854775806 by omega)]
  refine ⟨by and_intros <;> first | (intro p hp; cases hp; done) | (intro h; cases h; done) | (intros; omega),.inl ?_⟩
  rw [Int.tmod_eq_emod_of_nonneg b3,Int.tdiv_eq_ediv_of_nonneg b3]
  have r1 := Int.emod_nonneg (o.getD (j + k) 0 + p0.2.getD j 0 * p1.2.getD k 0 + c) (show (1000000000:Int) ≠ 0 by decide)
  have r2 := Int.emod_lt_of_pos (o.getD (j + k) 0 + p0.2.getD j 0 * p1.2.getD k 0 + c) (show (0:Int) < 1000000000 by decide)
  have r3:0≤(o.getD (j + k) 0 + p0.2.getD j 0 * p1.2.getD k 0 + c) / 1000000000 := Int.ediv_nonneg b3 (by decide)
  rw [wrap_id (n := (o.getD (j + k) 0 + p0.2.getD j 0 * p1.2.getD k 0 + c) / 1000000000) (by omega) (by omega)]
  refine ⟨(_,o.set (j + k) _),rfl,by rw [List.length_set]; exact g1,v_dgok_set g2 ⟨r1,r2⟩,⟨r3,b4⟩,?_,fun m hm => ?_⟩
  ·exact v_mul_round hk (by omega) rfl g4
  ·show (o.set (j + k) _).getD m 0 = 0
   rw [gd_set (by omega),if_neg (by omega)]; exact g5 m hm
 ·simp only [List.take_zero]
  show v_val out + 0 * v_pow (j + 0)=v_val out + p0.2.getD j 0 * v_pow j * 0
  omega
theorem l_Zc_1 (p0 p1:Int×List Int) (h1:v_wok p0) (h2:v_wok p1):OkL (st_Zc_1 p0 p1) (sp_Zc_1 p0 p1) (0,List.replicate (p0.2.length + p1.2.length + 1) 0)∧lpv (0,[]) (st_Zc_1 p0 p1) (0,List.replicate (p0.2.length + p1.2.length + 1) 0)=v_wide (v_wval p0 * v_wval p1) := by
 have l1 := h1.ln
 have l2 := h2.ln
 obtain ⟨a,ea,_⟩ := h1.ex
 obtain ⟨b,eb,_⟩ := h2.ex
 have d1:v_dgok p0.2 := by rw [ea]; exact v_wide_ok a
 have d2:v_dgok p1.2 := by rw [eb]; exact v_wide_ok b
 refine for_post (dd := (0,[])) (st := st_Zc_1 p0 p1) (sp := sp_Zc_1 p0 p1) (fun i (t:gF) => (i,t)) 0 p0.2.length
  (fun j t => t.length = p0.2.length + p1.2.length + 1∧v_dgok t∧v_val t = v_val (p0.2.take j) * v_val p1.2∧(∀ m,j + p1.2.length≤m→t.getD m 0 = 0)) (fun r => r = v_wide (v_wval p0 * v_wval p1)) (Nat.zero_le _) (by omega) ?_ ?_ _ ⟨by simp,?_,?_,fun m _ => gd_rep'⟩
 ·rintro o ⟨g1,g2,g3,_⟩
  have hd:decide ((p0.2.length:Int) < p0.2.length)=false := decide_eq_false (by omega)
  rw [List.take_length] at g3
  have s0:p0.1 = a.sign := by rw [ea]; rfl
  have s1:p1.1 = b.sign := by rw [eb]; rfl
  have x0:v_val p0.2 = a.natAbs := by rw [ea]; exact v_wide_val a
  have x1:v_val p1.2 = b.natAbs := by rw [eb]; exact v_wide_val b
  have hs:IntKind.i64.wrap (p0.1 * p1.1)=a.sign * b.sign := by
   rw [s0,s1]
   rcases v_sign3 a with ⟨_,e,_⟩ | ⟨_,e,_⟩ | ⟨_,e,_⟩ <;> rcases v_sign3 b with ⟨_,f,_⟩ | ⟨_,f,_⟩ | ⟨_,f,_⟩ <;> rw [e,f] <;> rfl
  simp only [sp_Zc_1,st_Zc_1,fM,hd,cond_false,hs]
  refine ⟨⟨fun h => (by cases h),fun _ => ?_,fun _ => g2,fun _ => by omega,by simp⟩,_,rfl,?_⟩
  ·rcases v_sign3 a with ⟨_,e,_⟩ | ⟨k,e,_⟩ | ⟨_,e,_⟩ <;> rcases v_sign3 b with ⟨_,f,_⟩ | ⟨k',f,_⟩ | ⟨_,f,_⟩ <;> rw [e,f]
   ·exact .inl rfl
   ·right; right; rw [g3,x1,k']; simp
   ·exact .inr (.inl rfl)
   ·right; right; rw [g3,x0,k]; simp
   ·right; right; rw [g3,x0,k]; simp
   ·right; right; rw [g3,x0,k]; simp
   ·exact .inr (.inl rfl)
   ·right; right; rw [g3,x1,k']; simp
   ·exact .inl rfl
  ·rw [g3,x0,x1]
   have := v_sign_abs a
   have := v_sign_abs b
   congr 1
   rw [show v_wval p0 = a by rw [ea,v_wval_wide],show v_wval p1 = b by rw [eb,v_wval_wide]]
   rw [Int.mul_assoc,← Int.mul_assoc b.sign,Int.mul_comm b.sign,Int.mul_assoc,← Int.mul_assoc,v_sign_abs,v_sign_abs]
 ·rintro j o _ hj ⟨g1,g2,g3,g4⟩
  obtain ⟨i1,o2,i2,i3,i4,i5,i6⟩ := l_Zc_0 p0 p1 d1 d2 l1 l2 j hj o g1 g2 g4
  have hd:decide ((j:Int) < p0.2.length)=true := decide_eq_true (by omega)
  simp only [sp_Zc_1,st_Zc_1,fM,hd,cond_true]
  refine ⟨⟨fun _ => i1,fun h => (by cases h),fun h => (by cases h),fun h => (by cases h),by simp⟩,.inl ⟨o2,i2,i3,i4,?_,i6⟩⟩
  rw [i5,g3,v_val_take_s hj,Int.add_mul,Int.mul_comm (v_pow j)]
 ·intro d hd
  rw [List.eq_of_mem_replicate hd]; exact ⟨Int.le_refl _,by decide⟩
 ·rw [v_val_zeros]
  show (0:Int)=0 * _
  rw [Int.zero_mul]
abbrev t_Zc (p0:Int×List Int) (p1:Int×List Int):Int×List Int := v_wide (v_wval p0 * v_wval p1)
abbrev qre_Zc (p0:Int×List Int) (p1:Int×List Int):List Prop := [v_wok p0,v_wok p1]
theorem pp_Zc (p0:Int×List Int) (p1:Int×List Int) (hq:∀ p∈qre_Zc p0 p1,p):∀ p∈pre_Zc p0 p1,p := by
 obtain ⟨h1,h2,_⟩ := conj_of hq
 have l1 := h1.ln
 have l2 := h2.ln
 have e := (l_Zc_1 p0 p1 h1 h2).1
 have w:IntKind.i64.wrap (IntKind.i64.wrap ((p0.2.length:Int) + p1.2.length) + 1)=((p0.2.length + p1.2.length + 1:Nat):Int) := by rw [w_add_l,wrap_id (by omega) (by omega)]; omega
 simp only [pre_Zc,fM,w,Int.toNat_natCast]
 exact ⟨by omega,by omega,by omega,e,by simp⟩
theorem tt_Zc (p0:Int×List Int) (p1:Int×List Int) (hq:∀ p∈qre_Zc p0 p1,p):s_Zc p0 p1 = t_Zc p0 p1 := by
 obtain ⟨h1,h2,_⟩ := conj_of hq
 have l1 := h1.ln
 have l2 := h2.ln
 have w:IntKind.i64.wrap (IntKind.i64.wrap ((p0.2.length:Int) + p1.2.length) + 1)=((p0.2.length + p1.2.length + 1:Nat):Int) := by rw [w_add_l,wrap_id (by omega) (by omega)]; omega
 unfold s_Zc t_Zc
 rw [w,Int.toNat_natCast]
 exact (l_Zc_1 p0 p1 h1 h2).2

abbrev con_Zc:Con := ⟨P_Zc,R_Zc,fun x => qre_Zc x.1 x.2,fun x => t_Zc x.1 x.2⟩
theorem ok_Zc:ConOk Tryz.prog 101 con_Zc := okG k_Zc e_Zc hC_Zc fun x hx => tf_of (w_Zc_eq x.1 x.2 _) (d_Zc x.1 x.2 _ (pp_Zc x.1 x.2 hx) (tt_Zc x.1 x.2 hx))
def C_Z1d:Cons := [(138,[],con_Z1b),(137,[],con_Z1n)]
theorem hC_Z1d:ConsOk Tryz.prog C_Z1d := cC ok_Z1b <| cC ok_Z1n <| ConsOk.nil
def w_Z1d (p0:gE) (p1:gE) (K:(Int×(List Int))→Prop):Prop := ((v_wok p1) ∧((v_wok p0) ∧((v_wok (v_wide (-(v_wval p1)))) ∧(K (v_wide ((v_wval p0) + (v_wval (v_wide (-(v_wval p1))))))))))
theorem w_Z1d_eq (p0:gE) (p1:gE) (K:(Int×(List Int))→Prop):tfn F_Z1d A_Z1d C_Z1d P_Z1d R_Z1d (p0,p1) K = w_Z1d p0 p1 K := by kernel_rfl
def s_Z1d (p0:gE) (p1:gE):(Int×(List Int)) := (v_wide ((v_wval p0) + (v_wval (v_wide (-(v_wval p1))))))
abbrev pre_Z1d (p0:gE) (p1:gE):List Prop := [(v_wok p1),(v_wok p0),(v_wok (v_wide (-(v_wval p1))))]
theorem d_Z1d (p0:gE) (p1:gE) (K:(Int×(List Int))→Prop) (hp:∀ p∈pre_Z1d p0 p1,p) (h:K (s_Z1d p0 p1)):w_Z1d p0 p1 K := by
 unfold w_Z1d
 unfold s_Z1d at h
 obtain ⟨hp0,hp1,hp2,_⟩ := conj_of hp
 exact ⟨(hp0),(hp1),(hp2),h⟩
abbrev t_Z1d (p0:Int×List Int) (p1:Int×List Int):Int×List Int := v_wide (v_wval p0 - v_wval p1)
abbrev qre_Z1d (p0:Int×List Int) (p1:Int×List Int):List Prop := [v_wok p0,v_wok p1]
theorem pp_Z1d (p0:Int×List Int) (p1:Int×List Int) (hq:∀ p∈qre_Z1d p0 p1,p):∀ p∈pre_Z1d p0 p1,p := by
 obtain ⟨h1,h2,_⟩ := conj_of hq
 obtain ⟨n,rfl,hn⟩ := h2.ex
 simp only [pre_Z1d,fM]
 exact ⟨h2,h1,by rw [v_wval_wide]; exact v_wok_of (by rw [v_dl_neg]; exact hn),by simp⟩
theorem tt_Z1d (p0:Int×List Int) (p1:Int×List Int) (hq:∀ p∈qre_Z1d p0 p1,p):s_Z1d p0 p1 = t_Z1d p0 p1 := by
 obtain ⟨h1,h2,_⟩ := conj_of hq
 unfold s_Z1d t_Z1d
 rw [v_wval_wide]; rfl

abbrev con_Z1d:Con := ⟨P_Z1d,R_Z1d,fun x => qre_Z1d x.1 x.2,fun x => t_Z1d x.1 x.2⟩
theorem ok_Z1d:ConOk Tryz.prog 123 con_Z1d := okG k_Z1d e_Z1d hC_Z1d fun x hx => tf_of (w_Z1d_eq x.1 x.2 _) (d_Z1d x.1 x.2 _ (pp_Z1d x.1 x.2 hx) (tt_Z1d x.1 x.2 hx))
def C_Z1c:Cons := []
theorem hC_Z1c:ConsOk Tryz.prog C_Z1c := ConsOk.nil
def w_Z1c (p0:Int) (K:Int→Prop):Prop := (K (max p0 (IntKind.i64.wrap (zz0 - p0))))
theorem w_Z1c_eq (p0:Int) (K:Int→Prop):tfn F_Z1c A_Z1c C_Z1c P_Z1c R_Z1c p0 K = w_Z1c p0 K := by kernel_rfl
def s_Z1c (p0:Int):Int := (max p0 (IntKind.i64.wrap ((0:Int) - p0)))
abbrev pre_Z1c (_p0:Int):List Prop := []
theorem d_Z1c (p0:Int) (K:Int→Prop) (_hp:∀ p∈pre_Z1c p0,p) (h:K (s_Z1c p0)):w_Z1c p0 K := by
 unfold w_Z1c
 unfold s_Z1c at h
 exact h
abbrev con_Z1c:Con := ⟨P_Z1c,R_Z1c,fun x => pre_Z1c x,fun x => s_Z1c x⟩
theorem ok_Z1c:ConOk Tryz.prog 91 con_Z1c := okG k_Z1c e_Z1c hC_Z1c fun x hx => tf_of (w_Z1c_eq x _) (d_Z1c x _ hx rfl)
def C_Zr:Cons := [(91,[],con_Z1c),(124,[],con_Z1a)]
theorem hC_Zr:ConsOk Tryz.prog C_Zr := cC ok_Z1c <| cC ok_Z1a <| ConsOk.nil
def w_Zr (p0:Int) (K:(Int×(List Int))→Prop):Prop := ((((decide (p0 < 0))=true) →(∃ n0,(loopP (fun (y1:gE) k2 => ((((y1.1 != 0)=true) →((((y1.2.length + (List.length ((s_Z1c (Int.tmod y1.1 (1000000000:Int))) :: ([]:List Int)))) * 8)≤140737488355328) ∧(k2 ((IntKind.i64.wrap (Int.tdiv y1.1 (1000000000:Int))),(y1.2 ++ ((s_Z1c (Int.tmod y1.1 (1000000000:Int))) :: ([]:List Int))))))) ∧(((y1.1 != 0)=false) →((v_sgn (-1:Int) y1.2) ∧((v_dgok y1.2) ∧((y1.2.length≤10000000000000) ∧(K (v_wide ((-1:Int) * (v_val y1.2)))))))))) n0 (p0,([]:List Int))))) ∧(((decide (p0 < 0))=false) →(∃ n3,(loopP (fun (y4:gE) k5 => ((((y4.1 != 0)=true) →((((y4.2.length + (List.length ((s_Z1c (Int.tmod y4.1 (1000000000:Int))) :: ([]:List Int)))) * 8)≤140737488355328) ∧(k5 ((IntKind.i64.wrap (Int.tdiv y4.1 (1000000000:Int))),(y4.2 ++ ((s_Z1c (Int.tmod y4.1 (1000000000:Int))) :: ([]:List Int))))))) ∧(((y4.1 != 0)=false) →((v_sgn zz1 y4.2) ∧((v_dgok y4.2) ∧((y4.2.length≤10000000000000) ∧(K (v_wide (zz1 * (v_val y4.2)))))))))) n3 (p0,([]:List Int))))))
theorem w_Zr_eq (p0:Int) (K:(Int×(List Int))→Prop):tfn F_Zr A_Zr C_Zr P_Zr R_Zr p0 K = w_Zr p0 K := by kernel_rfl
def st_Zr_0 (_p0:Int) (y1:gE):(Int×(List Int)) ⊕ (Int×(List Int)) := (cond (y1.1 != 0) (Sum.inl ((IntKind.i64.wrap (Int.tdiv y1.1 (1000000000:Int))),(y1.2 ++ ((s_Z1c (Int.tmod y1.1 (1000000000:Int))) :: ([]:List Int))))) (Sum.inr (v_wide ((-1:Int) * (v_val y1.2)))))
abbrev sp_Zr_0 (_p0:Int) (y1:gE):List Prop := [(((y1.1 != 0)=true)→(((y1.2.length + (List.length ((s_Z1c (Int.tmod y1.1 (1000000000:Int))) :: ([]:List Int)))) * 8)≤140737488355328)),(((y1.1 != 0)=false)→(v_sgn (-1:Int) y1.2)),(((y1.1 != 0)=false)→(v_dgok y1.2)),(((y1.1 != 0)=false)→(y1.2.length≤10000000000000))]
def st_Zr_1 (_p0:Int) (y3:gE):(Int×(List Int)) ⊕ (Int×(List Int)) := (cond (y3.1 != 0) (Sum.inl ((IntKind.i64.wrap (Int.tdiv y3.1 (1000000000:Int))),(y3.2 ++ ((s_Z1c (Int.tmod y3.1 (1000000000:Int))) :: ([]:List Int))))) (Sum.inr (v_wide ((1:Int) * (v_val y3.2)))))
abbrev sp_Zr_1 (_p0:Int) (y3:gE):List Prop := [(((y3.1 != 0)=true)→(((y3.2.length + (List.length ((s_Z1c (Int.tmod y3.1 (1000000000:Int))) :: ([]:List Int)))) * 8)≤140737488355328)),(((y3.1 != 0)=false)→(v_sgn (1:Int) y3.2)),(((y3.1 != 0)=false)→(v_dgok y3.2)),(((y3.1 != 0)=false)→(y3.2.length≤10000000000000))]
def s_Zr (p0:Int):(Int×(List Int)) := (cond (decide (p0 < 0)) (lpv ((0:Int),[]) (st_Zr_0 p0) (p0,([]:List Int))) (lpv ((0:Int),[]) (st_Zr_1 p0) (p0,([]:List Int))))
abbrev pre_Zr (p0:Int):List Prop := [(((decide (p0 < 0))=true)→(OkL (st_Zr_0 p0) (sp_Zr_0 p0) (p0,([]:List Int)))),(((decide (p0 < 0))=false)→(OkL (st_Zr_1 p0) (sp_Zr_1 p0) (p0,([]:List Int))))]
theorem d_Zr (p0:Int) (K:(Int×(List Int))→Prop) (hp:∀ p∈pre_Zr p0,p) (h:K (s_Zr p0)):w_Zr p0 K := by
 unfold w_Zr
 unfold s_Zr at h
 obtain ⟨hp0,hp1,_⟩ := conj_of hp
 exact (br' h (fun e0 h => (loop_gen (hp0 e0) h (fun y1 k1 hp h => by
 unfold st_Zr_0 at h; obtain ⟨hp0,hp1,hp2,hp3,_⟩ := conj_of hp
 exact (br' h (fun e2 h => ⟨(hp0 e2),h⟩)
  (fun e2 h => ⟨(hp1 e2),(hp2 e2),(hp3 e2),h⟩)))))
  (fun e0 h => (loop_gen (hp1 e0) h (fun y3 k3 hp h => by
 unfold st_Zr_1 at h; obtain ⟨hp0,hp1,hp2,hp3,_⟩ := conj_of hp
 exact (br' h (fun e4 h => ⟨(hp0 e4),h⟩)
  (fun e4 h => ⟨(hp1 e4),(hp2 e4),(hp3 e4),h⟩))))))
theorem v_size_tmod {n:Int} (h:v_fit n):s_Z1c (n.tmod 1000000000)=((n.natAbs % 1000000000:Nat):Int)∧IntKind.i64.wrap (n.tdiv 1000000000)=n.tdiv 1000000000∧(n.tdiv 1000000000).natAbs = n.natAbs / 1000000000 := by
 have h1:(n.tmod 1000000000).natAbs = n.natAbs % 1000000000 := by rw [Int.natAbs_tmod]; rfl
 have h2:(n.tdiv 1000000000).natAbs = n.natAbs / 1000000000 := by rw [Int.natAbs_tdiv]; rfl
 unfold v_fit at h
 refine ⟨?_,wrap_id (by omega) (by omega),h2⟩
 unfold s_Z1c
 rcases Int.lt_or_le (n.tmod 1000000000) 0 with c | c
 ·first
  | (rw [decide_eq_true c]; simp only [cond_true]; rw [wrap_id (by omega) (by omega)]; omega)
  | (rw [wrap_id (by omega) (by omega)]; omega)
 ·first
  | (rw [decide_eq_false (by omega)]; simp only [cond_false]; omega)
  | (rw [wrap_id (by omega) (by omega)]; omega)
theorem v_wof_loop {dd:Int×List Int} {st:Int×List Int→(Int×List Int) ⊕ (Int×List Int)} {sp:Int×List Int→List Prop} (s p0:Int) (hs:s = 1∧0≤p0 ∨ s = -1∧p0 < 0) (hf:v_fit p0)
  (hst:∀ y,st y = cond (y.1 != 0) (.inl (IntKind.i64.wrap (y.1.tdiv 1000000000),y.2 ++ [s_Z1c (y.1.tmod 1000000000)])) (.inr (v_wide (s * v_val y.2))))
  (hsp:∀ y,(y.1 ≠ 0→y.2.length≤2)→v_dgok y.2→y.2.length≤3→∀ p∈sp y,p):OkL st sp (p0,[])∧lpv dd st (p0,[])=v_wide p0 := by
 refine loop_is (fun (y:Int×List Int) => v_fit y.1∧v_dgok y.2∧y.2.length≤3∧(y.1.natAbs:Int) < v_pow (3 - y.2.length)∧v_val y.2 + v_pow y.2.length * y.1.natAbs = p0.natAbs) (fun (y:Int×List Int) => y.1.natAbs) (fun _ => v_wide p0) ?_ ⟨hf,(fun d hd => by cases hd),by simp,?_,?_⟩ (by unfold fuel; unfold v_fit at hf; simp only; omega)
 ·rintro ⟨n,l⟩ ⟨g1,g2,g3,g4,g5⟩
  simp only at g1 g2 g3 g4 g5
  have hl:n ≠ 0→l.length≤2 := fun hn => by
   rcases Nat.lt_or_ge 2 l.length with h | h
   ·rw [show 3 - l.length = 0 by omega,v_pow_0] at g4; omega
   ·exact h
  refine ⟨hsp _ hl g2 g3,?_⟩
  rw [hst]
  simp only
  rcases int0 n with ⟨z,e,_⟩ | ⟨z,e,_⟩ <;> rw [e]
  ·simp only [cond_false]
   subst z
   have e5:v_val l = p0.natAbs := by simpa using g5
   rw [e5]
   rcases hs with ⟨rfl,h⟩ | ⟨rfl,h⟩
   ·congr 1; omega
   ·congr 1; omega
  ·simp only [cond_true]
   have h2 := hl z
   obtain ⟨q1,q2,q3⟩ := v_size_tmod g1
   rw [q1,q2]
   have hdiv := Nat.div_add_mod n.natAbs 1000000000
   have hlt:n.natAbs / 1000000000 < n.natAbs := Nat.div_lt_self (by omega) (by decide)
   have hp:v_pow (3 - l.length)=1000000000 * v_pow (2 - l.length) := by rw [show 3 - l.length = 2 - l.length + 1 by omega,v_pow_s]
   refine ⟨⟨?_,v_dgok_snoc g2 ⟨by omega,by omega⟩,by simp; omega,?_,?_⟩,by rw [q3]; exact hlt,trivial⟩
   ·unfold v_fit at g1 ⊢; omega
   ·rw [q3,List.length_append,List.length_singleton,show 3 - (l.length + 1)=2 - l.length by omega]; omega
   ·rw [q3,v_val_snoc,List.length_append,List.length_singleton,v_pow_s,← g5]
    have:(n.natAbs:Int)=1000000000 * ((n.natAbs / 1000000000:Nat):Int) + ((n.natAbs % 1000000000:Nat):Int) := by omega
    rw [this]
    generalize ((n.natAbs / 1000000000:Nat):Int)=a
    generalize ((n.natAbs % 1000000000:Nat):Int)=b
    grind
 ·simp only [List.length_nil]
  have:v_pow (3 - 0)=1000000000000000000000000000 := by decide
  rw [this]
  unfold v_fit at hf; omega
 ·simp only [List.length_nil,v_pow_0]
  show 0 + 1 * (p0.natAbs:Int)=p0.natAbs
  omega
abbrev t_Zr (p0:Int):Int×List Int := v_wide p0
abbrev qre_Zr (p0:Int):List Prop := [v_fit p0]
theorem pp_Zr (p0:Int) (hq:∀ p∈qre_Zr p0,p):∀ p∈pre_Zr p0,p := by
 have hf := (conj_of hq).1
 simp only [pre_Zr,fM]
 refine ⟨fun h => ?_,fun h => ?_,by simp⟩
 ·exact (v_wof_loop (dd := (0,[])) (-1) p0 (.inr ⟨rfl,of_decide_eq_true h⟩) hf (fun y => rfl) (fun y h1 h2 h3 => by simp only [sp_Zr_0,fM]; exact ⟨fun h => by have := h1 (by simpa using h); simp; omega,fun _ => .inr (.inl rfl),fun _ => h2,fun _ => by omega,by simp⟩)).1
 ·have := of_decide_eq_false h
  exact (v_wof_loop (dd := (0,[])) 1 p0 (.inl ⟨rfl,by omega⟩) hf (fun y => rfl) (fun y h1 h2 h3 => by simp only [sp_Zr_1,fM]; exact ⟨fun h => by have := h1 (by simpa using h); simp; omega,fun _ => .inl rfl,fun _ => h2,fun _ => by omega,by simp⟩)).1
theorem tt_Zr (p0:Int) (hq:∀ p∈qre_Zr p0,p):s_Zr p0 = t_Zr p0 := by
 have hf := (conj_of hq).1
 unfold s_Zr t_Zr
 cases h:decide (p0 < 0)
 ·have h := of_decide_eq_false h
  have e:lpv (0,[]) (st_Zr_1 p0) (p0,[])=v_wide p0 := (v_wof_loop (dd := (0,[])) (sp := fun _ => []) 1 p0 (.inl ⟨rfl,by omega⟩) hf (fun y => rfl) (fun y _ _ _ => by simp)).2
  rw [e,cond_false]
 ·have e:lpv (0,[]) (st_Zr_0 p0) (p0,[])=v_wide p0 := (v_wof_loop (dd := (0,[])) (sp := fun _ => []) (-1) p0 (.inr ⟨rfl,of_decide_eq_true h⟩) hf (fun y => rfl) (fun y _ _ _ => by simp)).2
  rw [e,cond_true]

abbrev con_Zr:Con := ⟨P_Zr,R_Zr,fun x => qre_Zr x,fun x => t_Zr x⟩
theorem ok_Zr:ConOk Tryz.prog 116 con_Zr := okG k_Zr e_Zr hC_Zr fun x hx => tf_of (w_Zr_eq x _) (d_Zr x _ (pp_Zr x hx) (tt_Zr x hx))
def C_Zg:Cons := [(139,[],con_Zy),(124,[],con_Z1a),(116,[],con_Zr),(101,[],con_Zc),(144,[],con_Zz),(145,[],con_Zo),(123,[],con_Z1d)]
theorem hC_Zg:ConsOk Tryz.prog C_Zg := cC ok_Zy <| cC ok_Z1a <| cC ok_Zr <| cC ok_Zc <| cC ok_Zz <| cC ok_Zo <| cC ok_Z1d <| ConsOk.nil
abbrev q0_Zg (p0:gE) (y1:(Int×((List Int)×(List Int)))) := (v_trim (((p0.2.getD y1.1.toNat zz0) :: ([]:List Int)) ++ y1.2.1))
def w_Zg (p0:gE) (p1:gE) (K:(Int×(List Int))→Prop):Prop := ((((p0.1 == zz0)=true) →(K (zz0,([]:List Int)))) ∧(((p0.1 == zz0)=false) →((zz0≤(p0.2.length:Int)) ∧((((8:Int) * (p0.2.length:Int))≤281474976710656) ∧(((p0.2.length:Int)≤9223372036854775807) ∧(∃ n0,(loopP (fun (y1:(Int×((List Int)×(List Int)))) k2 => ((((decide (y1.1 ≥ zz0))=true) →((zz0≤y1.1) ∧((y1.1 < (p0.2.length:Int)) ∧(((((List.length ((p0.2.getD y1.1.toNat zz0) :: ([]:List Int))) + y1.2.1.length) * 8)≤140737488355328) ∧(((List.length (((p0.2.getD y1.1.toNat zz0) :: ([]:List Int)) ++ y1.2.1))≤10000000000000) ∧(∃ n3,(loopP (fun (y4:gG) k5 => ((((decide (y4.2 < y4.1))=true) →((v_sgn zz1 p1.2) ∧((v_dgok p1.2) ∧((p1.2.length≤10000000000000) ∧((v_fit (wi (Int.tdiv (wi ((wi (y4.2 + y4.1)) + zz1)) zz2))) ∧((v_wok (v_wide (zz1 * (v_val p1.2)))) ∧((v_wok (v_wide (wi (Int.tdiv (wi ((wi (y4.2 + y4.1)) + zz1)) zz2)))) ∧((v_can (v_wide ((v_wval (v_wide (zz1 * (v_val p1.2)))) * (v_wval (v_wide (wi (Int.tdiv (wi ((wi (y4.2 + y4.1)) + zz1)) zz2)))))).2) ∧((v_can (q0_Zg p0 y1)) ∧((((decide ((v_cmp (v_val (v_wide ((v_wval (v_wide (zz1 * (v_val p1.2)))) * (v_wval (v_wide (wi (Int.tdiv (wi ((wi (y4.2 + y4.1)) + zz1)) zz2)))))).2) (v_val (q0_Zg p0 y1)))≤zz0))=true) →(k5 (y4.1,(wi (Int.tdiv (wi ((wi (y4.2 + y4.1)) + zz1)) zz2))))) ∧(((decide ((v_cmp (v_val (v_wide ((v_wval (v_wide (zz1 * (v_val p1.2)))) * (v_wval (v_wide (wi (Int.tdiv (wi ((wi (y4.2 + y4.1)) + zz1)) zz2)))))).2) (v_val (q0_Zg p0 y1)))≤zz0))=false) →(k5 ((wi ((wi (Int.tdiv (wi ((wi (y4.2 + y4.1)) + zz1)) zz2)) - zz1)),y4.2))))))))))))) ∧(((decide (y4.2 < y4.1))=false) →((zz0≤y1.1) ∧((y1.1 < (y1.2.2.length:Int)) ∧((v_sgn zz1 p1.2) ∧((v_dgok p1.2) ∧((p1.2.length≤10000000000000) ∧((v_fit y4.2) ∧((v_wok (v_wide (zz1 * (v_val p1.2)))) ∧((v_wok (v_wide y4.2)) ∧((v_dgok (q0_Zg p0 y1)) ∧((v_dgok (v_wide ((v_wval (v_wide (zz1 * (v_val p1.2)))) * (v_wval (v_wide y4.2)))).2) ∧(((List.length (q0_Zg p0 y1))≤5000000000000) ∧(((v_val (v_wide ((v_wval (v_wide (zz1 * (v_val p1.2)))) * (v_wval (v_wide y4.2)))).2)≤(v_val (q0_Zg p0 y1))) ∧(k2 ((wi (y1.1 - zz1)),((v_digs (Int.toNat ((v_val (q0_Zg p0 y1)) - (v_val (v_wide ((v_wval (v_wide (zz1 * (v_val p1.2)))) * (v_wval (v_wide y4.2)))).2)))),(List.set y1.2.2 y1.1.toNat y4.2))))))))))))))))))) n3 ((999999999:Int),zz0)))))))) ∧(((decide (y1.1 ≥ zz0))=false) →((v_sgn p0.1 y1.2.2) ∧((v_dgok y1.2.2) ∧((y1.2.2.length≤10000000000000) ∧((((decide (p0.1 < zz0))=true) →((decide (p0.1 < zz0))=(decide (p0.1 < zz0)))) ∧((((decide (p0.1 < zz0))=true) →((decide (p0.1 < zz0))=(decide (p0.1 < zz0)))) ∧(((decide (p0.1 < zz0))=(decide (p0.1 < zz0))) ∧((((cond (decide (p0.1 < zz0)) (decide ((y1.2.1.length:Int) > zz0)) false)=true) →((v_fit zz1) ∧((v_wok (v_wide (p0.1 * (v_val y1.2.2)))) ∧((v_wok (v_wide zz1)) ∧(K (v_wide ((v_wval (v_wide (p0.1 * (v_val y1.2.2)))) - (v_wval (v_wide zz1))))))))) ∧(((cond (decide (p0.1 < zz0)) (decide ((y1.2.1.length:Int) > zz0)) false)=false) →(K (v_wide (p0.1 * (v_val y1.2.2))))))))))))))) n0 ((wi ((p0.2.length:Int) - zz1)),(([]:List Int),(List.replicate (Int.toNat (p0.2.length:Int)) zz0))))))))))
theorem w_Zg_eq (p0:gE) (p1:gE) (K:(Int×(List Int))→Prop):tfn F_Zg A_Zg C_Zg P_Zg R_Zg (p0,p1) K = w_Zg p0 p1 K := by kernel_rfl
def st_Zg_0 (p0:gE) (p1:gE) (y1:(Int×((List Int)×(List Int)))) (y3:gG):(Int×Int) ⊕ ((Int×((List Int)×(List Int))) ⊕ (Int×(List Int))) := (cond (decide (y3.2 < y3.1)) (cond (decide ((v_cmp (v_val (v_wide ((v_wval (v_wide ((1:Int) * (v_val p1.2)))) * (v_wval (v_wide (IntKind.i64.wrap (Int.tdiv (IntKind.i64.wrap ((IntKind.i64.wrap (y3.2 + y3.1)) + 1)) (2:Int))))))).2) (v_val (v_trim (((p0.2.getD y1.1.toNat (0:Int)) :: ([]:List Int)) ++ y1.2.1))))≤0)) (Sum.inl (y3.1,(IntKind.i64.wrap (Int.tdiv (IntKind.i64.wrap ((IntKind.i64.wrap (y3.2 + y3.1)) + 1)) (2:Int))))) (Sum.inl ((IntKind.i64.wrap ((IntKind.i64.wrap (Int.tdiv (IntKind.i64.wrap ((IntKind.i64.wrap (y3.2 + y3.1)) + 1)) (2:Int))) - 1)),y3.2))) (Sum.inr (Sum.inl ((IntKind.i64.wrap (y1.1 - 1)),((v_digs (Int.toNat ((v_val (v_trim (((p0.2.getD y1.1.toNat (0:Int)) :: ([]:List Int)) ++ y1.2.1))) - (v_val (v_wide ((v_wval (v_wide ((1:Int) * (v_val p1.2)))) * (v_wval (v_wide y3.2)))).2)))),(List.set y1.2.2 y1.1.toNat y3.2))))))
abbrev sp_Zg_0 (p0:gE) (p1:gE) (y1:(Int×((List Int)×(List Int)))) (y3:gG):List Prop := [(((decide (y3.2 < y3.1))=true)→(v_sgn (1:Int) p1.2)),(((decide (y3.2 < y3.1))=true)→(v_dgok p1.2)),(((decide (y3.2 < y3.1))=true)→(p1.2.length≤10000000000000)),(((decide (y3.2 < y3.1))=true)→(v_fit (IntKind.i64.wrap (Int.tdiv (IntKind.i64.wrap ((IntKind.i64.wrap (y3.2 + y3.1)) + 1)) (2:Int))))),(((decide (y3.2 < y3.1))=true)→(v_wok (v_wide ((1:Int) * (v_val p1.2))))),(((decide (y3.2 < y3.1))=true)→(v_wok (v_wide (IntKind.i64.wrap (Int.tdiv (IntKind.i64.wrap ((IntKind.i64.wrap (y3.2 + y3.1)) + 1)) (2:Int)))))),(((decide (y3.2 < y3.1))=true)→(v_can (v_wide ((v_wval (v_wide ((1:Int) * (v_val p1.2)))) * (v_wval (v_wide (IntKind.i64.wrap (Int.tdiv (IntKind.i64.wrap ((IntKind.i64.wrap (y3.2 + y3.1)) + 1)) (2:Int))))))).2)),(((decide (y3.2 < y3.1))=true)→(v_can (v_trim (((p0.2.getD y1.1.toNat (0:Int)) :: ([]:List Int)) ++ y1.2.1)))),(((decide (y3.2 < y3.1))=false)→((0:Int)≤y1.1)),(((decide (y3.2 < y3.1))=false)→(y1.1 < (y1.2.2.length:Int))),(((decide (y3.2 < y3.1))=false)→(v_sgn (1:Int) p1.2)),(((decide (y3.2 < y3.1))=false)→(v_dgok p1.2)),(((decide (y3.2 < y3.1))=false)→(p1.2.length≤10000000000000)),(((decide (y3.2 < y3.1))=false)→(v_fit y3.2)),(((decide (y3.2 < y3.1))=false)→(v_wok (v_wide ((1:Int) * (v_val p1.2))))),(((decide (y3.2 < y3.1))=false)→(v_wok (v_wide y3.2))),(((decide (y3.2 < y3.1))=false)→(v_dgok (v_trim (((p0.2.getD y1.1.toNat (0:Int)) :: ([]:List Int)) ++ y1.2.1)))),(((decide (y3.2 < y3.1))=false)→(v_dgok (v_wide ((v_wval (v_wide ((1:Int) * (v_val p1.2)))) * (v_wval (v_wide y3.2)))).2)),(((decide (y3.2 < y3.1))=false)→((List.length (v_trim (((p0.2.getD y1.1.toNat (0:Int)) :: ([]:List Int)) ++ y1.2.1)))≤5000000000000)),(((decide (y3.2 < y3.1))=false)→((v_val (v_wide ((v_wval (v_wide ((1:Int) * (v_val p1.2)))) * (v_wval (v_wide y3.2)))).2)≤(v_val (v_trim (((p0.2.getD y1.1.toNat (0:Int)) :: ([]:List Int)) ++ y1.2.1)))))]
def st_Zg_1 (p0:gE) (p1:gE) (y1:(Int×((List Int)×(List Int)))):(Int×((List Int)×(List Int))) ⊕ (Int×(List Int)) := (cond (decide (y1.1 ≥ 0)) (lpv (Sum.inr ((0:Int),[])) (st_Zg_0 p0 p1 y1) ((999999999:Int),(0:Int))) (cond (cond (decide (p0.1 < 0)) (decide ((y1.2.1.length:Int) > 0)) false) (Sum.inr (v_wide ((v_wval (v_wide (p0.1 * (v_val y1.2.2)))) - (v_wval (v_wide (1:Int)))))) (Sum.inr (v_wide (p0.1 * (v_val y1.2.2))))))
abbrev sp_Zg_1 (p0:gE) (p1:gE) (y1:(Int×((List Int)×(List Int)))):List Prop := [(((decide (y1.1 ≥ 0))=true)→((0:Int)≤y1.1)),(((decide (y1.1 ≥ 0))=true)→(y1.1 < (p0.2.length:Int))),(((decide (y1.1 ≥ 0))=true)→((((List.length ((p0.2.getD y1.1.toNat (0:Int)) :: ([]:List Int))) + y1.2.1.length) * 8)≤140737488355328)),(((decide (y1.1 ≥ 0))=true)→((List.length (((p0.2.getD y1.1.toNat (0:Int)) :: ([]:List Int)) ++ y1.2.1))≤10000000000000)),(((decide (y1.1 ≥ 0))=true)→(OkL (st_Zg_0 p0 p1 y1) (sp_Zg_0 p0 p1 y1) ((999999999:Int),(0:Int)))),(((decide (y1.1 ≥ 0))=false)→(v_sgn p0.1 y1.2.2)),(((decide (y1.1 ≥ 0))=false)→(v_dgok y1.2.2)),(((decide (y1.1 ≥ 0))=false)→(y1.2.2.length≤10000000000000)),(((decide (y1.1 ≥ 0))=false)→(((cond (decide (p0.1 < 0)) (decide ((y1.2.1.length:Int) > 0)) false)=true)→(v_fit (1:Int)))),(((decide (y1.1 ≥ 0))=false)→(((cond (decide (p0.1 < 0)) (decide ((y1.2.1.length:Int) > 0)) false)=true)→(v_wok (v_wide (p0.1 * (v_val y1.2.2)))))),(((decide (y1.1 ≥ 0))=false)→(((cond (decide (p0.1 < 0)) (decide ((y1.2.1.length:Int) > 0)) false)=true)→(v_wok (v_wide (1:Int)))))]
def s_Zg (p0:gE) (p1:gE):(Int×(List Int)) := (cond (p0.1 == 0) ((0:Int),([]:List Int)) (lpv ((0:Int),[]) (st_Zg_1 p0 p1) ((IntKind.i64.wrap ((p0.2.length:Int) - 1)),(([]:List Int),(List.replicate (Int.toNat (p0.2.length:Int)) (0:Int))))))
abbrev pre_Zg (p0:gE) (p1:gE):List Prop := [(((p0.1 == 0)=false)→((0:Int)≤(p0.2.length:Int))),(((p0.1 == 0)=false)→(((8:Int) * (p0.2.length:Int))≤281474976710656)),(((p0.1 == 0)=false)→((p0.2.length:Int)≤9223372036854775807)),(((p0.1 == 0)=false)→(OkL (st_Zg_1 p0 p1) (sp_Zg_1 p0 p1) ((IntKind.i64.wrap ((p0.2.length:Int) - 1)),(([]:List Int),(List.replicate (Int.toNat (p0.2.length:Int)) (0:Int))))))]
theorem d_Zg (p0:gE) (p1:gE) (K:(Int×(List Int))→Prop) (hp:∀ p∈pre_Zg p0 p1,p) (h:K (s_Zg p0 p1)):w_Zg p0 p1 K := by
 unfold w_Zg
 unfold s_Zg at h
 obtain ⟨hp0,hp1,hp2,hp3,_⟩ := conj_of hp
 exact (br' h (fun e0 h => h)
  (fun e0 h => ⟨(hp0 e0),(hp1 e0),(hp2 e0),(loop_gen (hp3 e0) h (fun y1 k1 hp h => by
 unfold st_Zg_1 at h; obtain ⟨hp0,hp1,hp2,hp3,hp4,hp5,hp6,hp7,hp8,hp9,hp10,_⟩ := conj_of hp
 exact (br' h (fun e2 h => ⟨(hp0 e2),(hp1 e2),(hp2 e2),(hp3 e2),(loop_gen (hp4 e2) h (fun y3 k3 hp h => by
 unfold st_Zg_0 at h; obtain ⟨hp0,hp1,hp2,hp3,hp4,hp5,hp6,hp7,hp8,hp9,hp10,hp11,hp12,hp13,hp14,hp15,hp16,hp17,hp18,hp19,_⟩ := conj_of hp
 exact (br' h (fun e4 h => ⟨(hp0 e4),(hp1 e4),(hp2 e4),(hp3 e4),(hp4 e4),(hp5 e4),(hp6 e4),(hp7 e4),(br' h (fun e5 h => h)
  (fun e5 h => h))⟩)
  (fun e4 h => ⟨(hp8 e4),(hp9 e4),(hp10 e4),(hp11 e4),(hp12 e4),(hp13 e4),(hp14 e4),(hp15 e4),(hp16 e4),(hp17 e4),(hp18 e4),(hp19 e4),h⟩))))⟩)
  (fun e2 h => ⟨(hp5 e2),(hp6 e2),(hp7 e2),rf,rf,rfl,(br' h (fun e6 h => ⟨(hp8 e2 e6),(hp9 e2 e6),(hp10 e2 e6),h⟩)
  (fun e6 h => h))⟩))))⟩))
theorem l_Zg_0 (p0 p1:Int×List Int) {b:Int} (hb:0 < b) (eb:p1.2 = (v_wide b).2) (lb:v_dl b≤500000000000) (d0:v_dgok p0.2) (j:Nat) (hj:j < p0.2.length) (hl:p0.2.length≤1000000000000) (L:Int) (hL:0≤L∧L < b) (q:gF) (hq:q.length = p0.2.length) :
  OkL (st_Zg_0 p0 p1 ((j:Int),(v_digs L.toNat,q))) (sp_Zg_0 p0 p1 ((j:Int),(v_digs L.toNat,q))) (999999999,0)∧lpv (.inr (0,[])) (st_Zg_0 p0 p1 ((j:Int),(v_digs L.toNat,q))) (999999999,0) = .inl ((j:Int) - 1,(v_digs ((p0.2.getD j 0 + 1000000000 * L) % b).toNat,q.set j ((p0.2.getD j 0 + 1000000000 * L) / b))) := by
 have hd := v_dgok_get d0 j
 obtain ⟨R,hR⟩ : ∃ R,R = p0.2.getD j 0 + 1000000000 * L := ⟨_,rfl⟩
 have hR0:0≤R := by omega
 have gd:v_dgok (p0.2.getD j 0 :: v_digs L.toNat) := fun x hx => by
  rcases List.mem_cons.1 hx with rfl | hx
  ·exact hd
  ·exact v_digs_ok _ x hx
 have hv:v_val (p0.2.getD j 0 :: v_digs L.toNat)=R := by
  show p0.2.getD j 0 + 1000000000 * v_val (v_digs L.toNat)=R
  rw [v_digs_val,hR]; omega
 have hT:v_trim ([p0.2.getD j 0] ++ v_digs L.toNat)=v_digs R.toNat := by
  rw [List.singleton_append,v_trim_is gd,hv]
 have hTv:v_val (v_digs R.toNat)=R := by rw [v_digs_val]; omega
 have hRb:R < 1000000000 * b := by omega
 have dR:(v_digs R.toNat).length≤500000000001 := by
  have h1:(v_digs R.toNat).length = v_dl R := by unfold v_dl; congr 2; omega
  have h2 := v_dl_mono (m := R) (n := 1000000000 * b) (by omega)
  have h3 := v_dl_mul 999999999 b
  have h4:v_dl 1000000000≤2 := v_digs_len (by decide)
  have h5 := v_dl_mono (m := R) (n := 999999999 * b + b) (by omega)
  have h6 := v_dl_mul 1000000000 b
  rw [h1]
  have h7:v_dl R≤v_dl b + 1 := by
   refine v_digs_len ?_
   have h8 := v_digs_high b.natAbs
   unfold v_dl
   rw [v_pow_s]; omega
  omega
 have hbv:v_val p1.2 = b := by rw [eb,v_wide_val]; omega
 have hbl:p1.2.length≤500000000000 := by rw [eb]; exact lb
 have hbg:v_dgok p1.2 := by rw [eb]; exact v_wide_ok b
 have e1 := Int.mul_ediv_add_emod R b
 have r1 := Int.emod_nonneg R (show b ≠ 0 by omega)
 have r2 := Int.emod_lt_of_pos R hb
 have hq1:R / b < 1000000000 := Int.ediv_lt_of_lt_mul hb (by omega)
 have hq0:0≤R / b := Int.ediv_nonneg hR0 (by omega)
 have wb:v_wok (v_wide b) := v_wok_of (by omega)
 have dm:∀ m:Int,0≤m∧m≤999999999→v_dl m≤1 := fun m hm => v_digs_len (by rw [v_pow_s,v_pow_0]; omega)
 have wm:∀ m:Int,0≤m∧m≤999999999→v_wok (v_wide m) := fun m hm => v_wok_of (by have := dm m hm; omega)
 have hval:∀ m:Int,0≤m∧m≤999999999→v_val (v_wide (b * m)).2 = b * m := fun m hm => by
  rw [v_wide_val]; have := Int.mul_nonneg (show 0≤b by omega) hm.1; omega
 have hcan:∀ m:Int,0≤m∧m≤999999999→v_can (v_wide (b * m)).2 := fun m hm => v_wide_can (by have := dm m hm; have := v_dl_mul b m; omega)
 have hcR:v_can (v_digs R.toNat) := ⟨by rw [hTv],by omega⟩
 rw [← hR]
 refine @loop_is (Int×Int) ((Int×(List Int×List Int)) ⊕ (Int×List Int)) (.inr (0,[])) (st_Zg_0 p0 p1 ((j:Int),(v_digs L.toNat,q))) (sp_Zg_0 p0 p1 ((j:Int),(v_digs L.toNat,q))) (fun (y:gG) => (0≤y.2∧y.2≤R / b)∧R / b≤y.1∧y.1≤999999999) (fun (y:gG) => (y.1 - y.2).toNat) (fun _ => .inl ((j:Int) - 1,(v_digs (R % b).toNat,q.set j (R / b)))) ?_ (999999999,0) ⟨⟨Int.le_refl _,hq0⟩,by simp only; omega,Int.le_refl _⟩ (by unfold fuel; simp only; omega)
 rintro ⟨hi,lo⟩ ⟨⟨g1,g2⟩,g3,g4⟩
 simp only at g1 g2 g3 g4
 have hw1:IntKind.i64.wrap (Int.tdiv (IntKind.i64.wrap (IntKind.i64.wrap (lo + hi) + 1)) 2)=(lo + hi + 1) / 2 := by
  rw [w_add_l,wrap_id (n := lo + hi + 1) (by omega) (by omega),Int.tdiv_eq_ediv_of_nonneg (by omega),wrap_id (by omega) (by omega)]
 simp only [sp_Zg_0,st_Zg_0,hw1,Int.toNat_natCast,hT,hTv,hbv,Int.one_mul,v_wval_wide,fM]
 rcases Int.lt_or_le lo hi with c | c
 ·have hm:0≤(lo + hi + 1) / 2∧(lo + hi + 1) / 2≤999999999 := by omega
  rw [decide_eq_true c,hval _ hm]
  have h1 := hcan _ hm
  have h2 := wm _ hm
  have h3:v_fit ((lo + hi + 1) / 2) := by unfold v_fit; omega
  refine ⟨⟨fun _ => .inl rfl,fun _ => hbg,fun _ => by omega,fun _ => h3,fun _ => wb,fun _ => h2,fun _ => h1,fun _ => hcR,?_⟩,?_⟩
  ·and_intros <;> first | (intro p hp; cases hp; done) | (intro h; cases h; done)
  rw [cond_true]
  rcases Int.lt_or_le R (b * ((lo + hi + 1) / 2)) with k | k
  ·rw [decide_eq_false (by have := v_cmp_gt (a := b * ((lo + hi + 1) / 2)) (b := R); omega),cond_false,wrap_id (n := (lo + hi + 1) / 2 - 1) (by omega) (by omega)]
   have:R / b < (lo + hi + 1) / 2 := Int.ediv_lt_of_lt_mul hb (by rw [Int.mul_comm]; exact k)
   exact ⟨⟨⟨g1,g2⟩,by simp only; omega,by simp only; omega⟩,by simp only; omega,trivial⟩
  ·rw [decide_eq_true (by have := v_cmp_gt (a := b * ((lo + hi + 1) / 2)) (b := R); omega),cond_true]
   have:(lo + hi + 1) / 2≤R / b := Int.le_ediv_of_mul_le hb (by rw [Int.mul_comm]; exact k)
   exact ⟨⟨⟨by simp only; omega,this⟩,g3,g4⟩,by simp only; omega,trivial⟩
 ·have hlo:lo = R / b := by omega
  have hm:0≤lo∧lo≤999999999 := by omega
  rw [decide_eq_false (by omega),hval _ hm]
  have h2 := wm _ hm
  have h3:v_fit lo := by unfold v_fit; omega
  have h4:v_dgok (v_wide (b * lo)).2 := v_wide_ok _
  refine ⟨?_,?_⟩
  ·refine ⟨fun h => (by cases h),fun h => (by cases h),fun h => (by cases h),fun h => (by cases h),fun h => (by cases h),fun h => (by cases h),fun h => (by cases h),fun h => (by cases h),fun _ => by omega,fun _ => by omega,fun _ => .inl rfl,fun _ => hbg,fun _ => by omega,fun _ => h3,fun _ => wb,fun _ => h2,fun _ => v_digs_ok _,fun _ => h4,fun _ => by omega,fun _ => by rw [hlo]; omega,by simp⟩
  ·rw [cond_false,wrap_id (n := (j:Int) - 1) (by omega) (by omega),hlo]
   simp only
   congr 4
   omega
theorem v_neg_ediv {n b:Int} (hb:0 < b):(-n) / b = cond (decide (n % b = 0)) (-(n / b)) (-(n / b) - 1) := by
 have e := Int.mul_ediv_add_emod n b
 have r1 := Int.emod_nonneg n (show b ≠ 0 by omega)
 have r2 := Int.emod_lt_of_pos n hb
 rcases Decidable.em (n % b = 0) with h | h
 ·rw [decide_eq_true h,cond_true]
  exact ediv_is (r := 0) hb (by rw [Int.mul_neg]; omega) (Int.le_refl _) hb
 ·rw [decide_eq_false h,cond_false]
  exact ediv_is (r := b - n % b) hb (by rw [Int.mul_sub,Int.mul_neg]; omega) (by omega) (by omega)
theorem l_Zg_1 (p0 p1:Int×List Int) (h1:v_wok p0) (h2:v_wok p1) (h3:0 < v_wval p1) (h4:p1.2.length≤500000000000):OkL (st_Zg_1 p0 p1) (sp_Zg_1 p0 p1) (IntKind.i64.wrap ((p0.2.length:Int) - 1),([],List.replicate p0.2.length 0))∧lpv (0,[]) (st_Zg_1 p0 p1) (IntKind.i64.wrap ((p0.2.length:Int) - 1),([],List.replicate p0.2.length 0))=v_wide (v_wval p0 / v_wval p1) := by
 have l1 := h1.ln
 obtain ⟨a,ea,da⟩ := h1.ex
 obtain ⟨b,eb,_⟩ := h2.ex
 have eb2:p1.2 = (v_wide b).2 := by rw [eb]
 have db:v_dl b≤500000000000 := by rw [eb2] at h4; exact h4
 have wb:v_wval p1 = b := by rw [eb,v_wval_wide]
 have wa:v_wval p0 = a := by rw [ea,v_wval_wide]
 rw [wb] at h3
 rw [wa,wb]
 have d1:v_dgok p0.2 := by rw [ea]; exact v_wide_ok a
 have va:v_val p0.2 = a.natAbs := by rw [ea]; exact v_wide_val a
 have s0:p0.1 = a.sign := by rw [ea]; rfl
 rw [wrap_id (n := (p0.2.length:Int) - 1) (by omega) (by omega)]
 refine @down_is (List Int×List Int) (Int×List Int×List Int) (Int×List Int) (0,[]) (st_Zg_1 p0 p1) (sp_Zg_1 p0 p1) (fun i t => (i,t)) p0.2.length
  (fun j t => t.1 = v_digs (v_val (p0.2.drop j) % b).toNat∧t.2.length = p0.2.length∧v_dgok t.2∧v_val (t.2.drop j)=v_val (p0.2.drop j) / b) (fun _ _ => v_wide (a / b)) (by omega) ?_ ?_ ([],List.replicate p0.2.length 0) ⟨?_,by simp,?_,?_⟩
 ·rintro ⟨left,q⟩ ⟨g1,g2,g3,g4⟩
  simp only [List.drop_zero] at g1 g2 g3 g4
  rw [va] at g1 g4
  have q0:0≤(a.natAbs:Int) / b := Int.ediv_nonneg (by omega) (by omega)
  have r1 := Int.emod_nonneg (a.natAbs:Int) (show b ≠ 0 by omega)
  have qle:(a.natAbs:Int) / b≤a.natAbs := Int.ediv_le_self _ (by omega)
  have hs:v_sgn a.sign q := by
   rcases v_sign3 a with ⟨_,e,_⟩ | ⟨z,e,_⟩ | ⟨_,e,_⟩ <;> rw [e]
   ·exact .inr (.inl rfl)
   ·right; right; rw [g4,z]; simp
   ·exact .inl rfl
  have wq:v_wok (v_wide (a.sign * v_val q)) := v_wok_of (Nat.le_trans (v_dl_mono (n := a) (by
   rw [g4]
   rcases v_sign3 a with ⟨_,e,_⟩ | ⟨z,e,_⟩ | ⟨_,e,_⟩ <;> rw [e] <;> omega)) da)
  have w1:v_wok (v_wide 1) := v_wok_of (Nat.le_trans (v_digs_len (k := 1) (by decide)) (by decide))
  simp only [sp_Zg_1,st_Zg_1,fM,show decide ((-1:Int) ≥ 0)=false from rfl,cond_false,s0,v_wval_wide]
  refine ⟨⟨fun h => (by cases h),fun h => (by cases h),fun h => (by cases h),fun h => (by cases h),fun h => (by cases h),fun _ => hs,fun _ => g3,fun _ => by omega,fun _ _ => by unfold v_fit; omega,fun _ _ => wq,fun _ _ => w1,by simp⟩,?_⟩
  rw [g4]
  rcases v_sign3 a with ⟨ha,e,_⟩ | ⟨z,e,_⟩ | ⟨ha,e,_⟩ <;> rw [e]
  ·have en:a = -(a.natAbs:Int) := by omega
   have hn := v_neg_ediv (n := (a.natAbs:Int)) h3
   rw [← en] at hn
   rw [hn,show decide ((-1:Int) < 0)=true from rfl,cond_true]
   rcases Decidable.em ((a.natAbs:Int) % b = 0) with k | k
   ·rw [decide_eq_true k,g1,k,show (0:Int).toNat = 0 from rfl,v_digs_0]
    show Sum.inr _ = Sum.inr _
    congr 2
    rw [cond_true]; omega
   ·have hpos:(left.length:Int) > 0 := by rw [g1,v_digs_pos (by omega),List.length_cons]; omega
    rw [decide_eq_false k,decide_eq_true hpos,cond_true,cond_false]
    congr 2; omega
  ·rw [z]; simp
  ·rw [show decide ((1:Int) < 0)=false from rfl,cond_false,cond_false,Int.one_mul]
   congr 3; omega
 ·rintro j ⟨left,q⟩ hj ⟨g1,g2,g3,g4⟩
  simp only at g1 g2 g3 g4
  have nA := v_val_nn (v_dgok_drop d1 (j + 1))
  have rA := Int.emod_nonneg (v_val (p0.2.drop (j + 1))) (show b ≠ 0 by omega)
  have rB := Int.emod_lt_of_pos (v_val (p0.2.drop (j + 1))) h3
  obtain ⟨i1,i2⟩ := l_Zg_0 p0 p1 h3 eb2 db d1 j hj l1 (v_val (p0.2.drop (j + 1)) % b) ⟨rA,rB⟩ q g2
  have hd:decide ((j:Int) ≥ 0)=true := decide_eq_true (by omega)
  have hlen:left.length≤1000000000000 := by
   rw [g1]
   have := v_dl_mono (m := v_val (p0.2.drop (j + 1)) % b) (n := b) (by omega)
   have e:(v_digs (v_val (p0.2.drop (j + 1)) % b).toNat).length = v_dl (v_val (p0.2.drop (j + 1)) % b) := by unfold v_dl; congr 2; omega
   omega
  subst g1
  simp only [sp_Zg_1,st_Zg_1,fM,hd,cond_true]
  refine ⟨⟨fun _ => by omega,fun _ => by omega,fun _ => by simp; omega,fun _ => by simp; omega,fun _ => i1,fun h => (by cases h),fun h => (by cases h),fun h => (by cases h),fun h => (by cases h),fun h => (by cases h),fun h => (by cases h),by simp⟩,.inl ⟨_,i2,?_,trivial⟩⟩
  have hA:v_val (p0.2.drop j)=p0.2.getD j 0 + 1000000000 * v_val (p0.2.drop (j + 1)) := by rw [drop_getD 0 hj]; rfl
  have eA := Int.mul_ediv_add_emod (v_val (p0.2.drop (j + 1))) b
  have hA2:v_val (p0.2.drop j)=(p0.2.getD j 0 + 1000000000 * (v_val (p0.2.drop (j + 1)) % b)) + b * (1000000000 * (v_val (p0.2.drop (j + 1)) / b)) := by
   rw [hA]
   generalize v_val (p0.2.drop (j + 1)) / b = Q at *
   generalize v_val (p0.2.drop (j + 1)) % b = L at *
   rw [← eA]; grind
  have hdg := v_dgok_get d1 j
  have hR0:0≤(p0.2.getD j 0 + 1000000000 * (v_val (p0.2.drop (j + 1)) % b)) / b := Int.ediv_nonneg (by omega) (by omega)
  have hR1:(p0.2.getD j 0 + 1000000000 * (v_val (p0.2.drop (j + 1)) % b)) / b < 1000000000 := Int.ediv_lt_of_lt_mul h3 (by omega)
  refine ⟨?_,by rw [List.length_set]; exact g2,v_dgok_set g3 ⟨hR0,hR1⟩,?_⟩
  ·show v_digs _ = _
   rw [hA2,Int.add_mul_emod_self_left]
  ·have ed:(q.set j ((p0.2.getD j 0 + 1000000000 * (v_val (p0.2.drop (j + 1)) % b)) / b)).drop j = (p0.2.getD j 0 + 1000000000 * (v_val (p0.2.drop (j + 1)) % b)) / b :: q.drop (j + 1) := by
    rw [drop_getD 0 (by rw [List.length_set]; omega),gd_set (by omega),if_pos rfl]
    congr 1
    rw [List.drop_set]
    simp
   show v_val ((q.set j _).drop j)=_
   rw [ed]
   show (p0.2.getD j 0 + 1000000000 * (v_val (p0.2.drop (j + 1)) % b)) / b + 1000000000 * v_val (q.drop (j + 1))=_
   rw [g4,hA2,Int.add_mul_ediv_left _ _ (by omega)]
 ·rw [List.drop_length]
  have e:v_val ([]:List Int)=0 := rfl
  rw [e,Int.zero_emod]
  show []=v_digs 0
  rw [v_digs_0]
 ·intro d hd
  rw [List.eq_of_mem_replicate hd]; exact ⟨Int.le_refl _,by decide⟩
 ·rw [List.drop_length,show List.drop p0.2.length (List.replicate p0.2.length (0:Int))=[] from by rw [List.drop_replicate,Nat.sub_self]; rfl]
  show (0:Int)=0 / b
  rw [Int.zero_ediv]
abbrev t_Zg (p0:Int×List Int) (p1:Int×List Int):Int×List Int := v_wide (v_wval p0 / v_wval p1)
abbrev qre_Zg (p0:Int×List Int) (p1:Int×List Int):List Prop := [v_wok p0,v_wok p1,0 < v_wval p1,p1.2.length≤500000000000]
theorem pp_Zg (p0:Int×List Int) (p1:Int×List Int) (hq:∀ p∈qre_Zg p0 p1,p):∀ p∈pre_Zg p0 p1,p := by
 obtain ⟨h1,h2,h3,h4,_⟩ := conj_of hq
 have l1 := h1.ln
 simp only [pre_Zg,fM,Int.toNat_natCast]
 exact ⟨fun _ => by omega,fun _ => by omega,fun _ => by omega,fun _ => (l_Zg_1 p0 p1 h1 h2 h3 h4).1,by simp⟩
theorem tt_Zg (p0:Int×List Int) (p1:Int×List Int) (hq:∀ p∈qre_Zg p0 p1,p):s_Zg p0 p1 = t_Zg p0 p1 := by
 obtain ⟨h1,h2,h3,h4,_⟩ := conj_of hq
 have l1 := h1.ln
 have e := (l_Zg_1 p0 p1 h1 h2 h3 h4).2
 unfold s_Zg t_Zg
 rw [Int.toNat_natCast,e]
 obtain ⟨a,rfl,_⟩ := h1.ex
 rw [v_wval_wide,v_wide_1]
 rcases v_sign3 a with ⟨_,_,f⟩ | ⟨z,_,f⟩ | ⟨_,_,f⟩ <;> rw [f]
 ·rfl
 ·subst z
  rw [cond_true,Int.zero_ediv]
  unfold v_wide
  rw [show Int.natAbs 0 = 0 from rfl,v_digs_0]; rfl
 ·rfl

abbrev con_Zg:Con := ⟨P_Zg,R_Zg,fun x => qre_Zg x.1 x.2,fun x => t_Zg x.1 x.2⟩
theorem ok_Zg:ConOk Tryz.prog 142 con_Zg := okG k_Zg e_Zg hC_Zg fun x hx => tf_of (w_Zg_eq x.1 x.2 _) (d_Zg x.1 x.2 _ (pp_Zg x.1 x.2 hx) (tt_Zg x.1 x.2 hx))
end Go.Proofs.YtehblgccaiiikaaGreat
