/- What the functions that GroundSeen reaches compute: contracts, each function once. No condition. -/
import Derived.Test.YtehblgccaiiikaaLayB
import Derived.Test.YtehblgccaiiikaaAwGrGroundSeen
import Derived.KernelRfl
namespace Go.Proofs.Ytehblgccaiiikaa
open Go Go.Mx
set_option maxRecDepth 100000
set_option maxHeartbeats 4000000
abbrev gF:=List Int
abbrev gG:=Int×Int
abbrev gA:=List (List Int×List Int)
abbrev gB:=List (Int×Int×Int)
abbrev gC:=List (Int×Int)
abbrev gE:=Int×List Int
abbrev gD:=(Int×List Int)×(Int×List Int)
theorem fM.{u} {α:Type u} {p:α→Prop} {a:α} {l:List α}:(∀ x∈a::l,p x) ↔ p a ∧ ∀ x∈l,p x := List.forall_mem_cons
theorem cC {P:Program} {f:FuncId} {ids:List FuncId} {c:Con} {C:Cons} (h:ConOk P f c) (hC:ConsOk P C) (hm:isMark ids=false := by rfl):ConsOk P ((f,ids,c)::C) := ConsOk.cons h hC hm
theorem okG {P:Program} {f:FuncId} {F:TFn} {A:Nat→Ty} {C:Cons} {ps rs:List PSh} {pre:(tyPs ps).den→List Prop} {s:(tyPs ps).den→(tyPs rs).den} (k:callable P f=true) (e:cFn P f=some F.erase) (hC:ConsOk P C) (h:∀ x,(∀ p∈pre x,p)→Tf F A C ps rs x (fun z => z=s x)):ConOk P f ⟨ps,rs,pre,s⟩ := ⟨k,fun x hx => ret_tf e hC (h x hx)⟩
abbrev wi (n:Int):Int := IntKind.i64.wrap n
abbrev zz0:Int := 0
abbrev zz1:Int := 1
abbrev zz2:Int := 2
abbrev zz3:Int := 3
theorem od {p:Prop} [Decidable p] (h:decide p = true):p := of_decide_eq_true h
theorem nof {p:Prop} (h:false = true):p := Bool.noConfusion h
theorem rf {p:Prop} {α:Sort _} {a:α} (_:p):a = a := rfl
def C_Z1g:Cons := []
theorem hC_Z1g:ConsOk Try.prog C_Z1g := ConsOk.nil
def w_Z1g (p0:gC) (K:Bool→Prop):Prop := (K (decide ((p0.length:Int)≤6)))
theorem w_Z1g_eq (p0:gC) (K:Bool→Prop):tfn F_Z1g A_Z1g C_Z1g P_Z1g R_Z1g p0 K = w_Z1g p0 K := by kernel_rfl
def s_Z1g (p0:gC):Bool := (decide ((p0.length:Int)≤6))
abbrev pre_Z1g (_p0:gC):List Prop := []
theorem d_Z1g (p0:gC) (K:Bool→Prop) (_hp:∀ p∈pre_Z1g p0,p) (h:K (s_Z1g p0)):w_Z1g p0 K := by
 unfold w_Z1g
 unfold s_Z1g at h
 exact h
abbrev con_Z1g:Con := ⟨P_Z1g,R_Z1g,fun x => pre_Z1g x,fun x => s_Z1g x⟩
theorem ok_Z1g:ConOk Try.prog 13 con_Z1g := okG k_Z1g e_Z1g hC_Z1g fun x hx => tf_of (w_Z1g_eq x _) (d_Z1g x _ hx rfl)
def C_Z1f:Cons := []
theorem hC_Z1f:ConsOk Try.prog C_Z1f := ConsOk.nil
def w_Z1f (p0:gC) (K:(List (Int×Int))→Prop):Prop := (((((List.length ([]:List (Int×Int))) + p0.length) * 16)≤140737488355328) ∧(K (([]:List (Int×Int)) ++ p0)))
theorem w_Z1f_eq (p0:gC) (K:(List (Int×Int))→Prop):tfnA F_Z1f A_Z1f C_Z1f P_Z1f E_Z1f p0 K = w_Z1f p0 K := by kernel_rfl
def s_Z1f (p0:gC):(List (Int×Int)) := (([]:List (Int×Int)) ++ p0)
abbrev pre_Z1f (p0:gC):List Prop := [((((List.length ([]:List (Int×Int))) + p0.length) * 16)≤140737488355328)]
theorem d_Z1f (p0:gC) (K:(List (Int×Int))→Prop) (hp:∀ p∈pre_Z1f p0,p) (h:K (s_Z1f p0)):w_Z1f p0 K := by
 unfold w_Z1f
 unfold s_Z1f at h
 obtain ⟨hp0,_⟩ := conj_of hp
 exact ⟨(hp0),h⟩
abbrev con_Z1f:Con := ⟨P_Z1f,[.agg (.sl E_Z1f)],fun x => pre_Z1f x,fun x => s_Z1f x⟩
theorem ok_Z1f:ConOOk Try.prog 15 con_Z1f := conA_tf (e := E_Z1f) (ps := P_Z1f) k_Z1f e_Z1f hC_Z1f (fun x hx => tfa_of (w_Z1f_eq x (fun z => z = s_Z1f x)) (d_Z1f x (fun z => z = s_Z1f x) hx rfl))
def C_Zm:Cons := []
theorem hC_Zm:ConsOk Try.prog C_Zm := ConsOk.nil
def w_Zm (p0:Int) (p1:Int) (K:Int→Prop):Prop := (∃ n0,(loopP (fun (y1:gG) k2 => ((((y1.1 != 0)=true) →((y1.1 ≠ zz0) ∧(k2 ((Int.tmod y1.2 y1.1),y1.1)))) ∧(((y1.1 != 0)=false) →(K (max y1.2 zz1))))) n0 (p1,p0)))
theorem w_Zm_eq (p0:Int) (p1:Int) (K:Int→Prop):tfn F_Zm A_Zm C_Zm P_Zm R_Zm (p0,p1) K = w_Zm p0 p1 K := by kernel_rfl
def st_Zm_0 (_p0:Int) (_p1:Int) (y0:gG):(Int×Int) ⊕ Int := (cond (y0.1 != 0) (Sum.inl ((Int.tmod y0.2 y0.1),y0.1)) (Sum.inr (max y0.2 (1:Int))))
abbrev sp_Zm_0 (_p0:Int) (_p1:Int) (y0:gG):List Prop := [(((y0.1 != 0)=true)→(y0.1 ≠ (0:Int)))]
def s_Zm (p0:Int) (p1:Int):Int := (lpv (0:Int) (st_Zm_0 p0 p1) (p1,p0))
abbrev pre_Zm (p0:Int) (p1:Int):List Prop := [(OkL (st_Zm_0 p0 p1) (sp_Zm_0 p0 p1) (p1,p0))]
theorem d_Zm (p0:Int) (p1:Int) (K:Int→Prop) (hp:∀ p∈pre_Zm p0 p1,p) (h:K (s_Zm p0 p1)):w_Zm p0 p1 K := by
 unfold w_Zm
 unfold s_Zm at h
 obtain ⟨hp0,_⟩ := conj_of hp
 exact (loop_gen (hp0) h (fun y0 k0 hp h => by
 unfold st_Zm_0 at h; obtain ⟨hp0,_⟩ := conj_of hp
 exact (br' h (fun e1 h => ⟨(hp0 e1),h⟩)
  (fun e1 h => h))))
/-- How two numbers compare. -/
def v_cmp (a b:Int):Int := cond (decide (a < b)) (-1) (cond (decide (a > b)) 1 0)
theorem v_cmp_gt {a b:Int}:0 < v_cmp a b ↔ b < a := by
 unfold v_cmp
 rcases Int.lt_trichotomy a b with h | h | h
 ·rw [decide_eq_true h]; simp; omega
 ·subst h; simp
 ·rw [decide_eq_false (show ¬ a < b by omega),decide_eq_true (show a > b from h)]; simp; omega
/-- A rational number as a pair,in lowest terms. -/
def v_frac (q:Rat):Int×Int := (q.num,(q.den:Int))
theorem v_frac_pos (q:Rat):0 < (v_frac q).2 := by have := q.den_pos; unfold v_frac; simp only; omega
theorem v_low_frac {n d:Int} (hd:0 < d):v_low (n,d)=v_frac ((n:Rat) / (d:Rat)) := by
 unfold v_low v_frac v_gcd
 rw [← Rat.divInt_eq_div,Rat.num_divInt,Rat.den_divInt,if_neg (by omega),Int.sign_eq_one_of_pos hd,Int.one_mul]
 simp only
 rw [Int.gcd_comm d n]
 congr 1
 rw [Int.natCast_ediv]
 congr 1
 omega
/-- The rational number of a pair. -/
def v_rq (x:gG):Rat := (x.1:Rat) / (x.2:Rat)
theorem v_rq_frac (q:Rat):v_rq (v_frac q)=q := by
 unfold v_rq v_frac
 simp only
 rw [← Rat.divInt_eq_div,Rat.num_divInt_den]
theorem v_rcast {a b:Int}:(a:Rat)≤(b:Rat) ↔ a≤b := Rat.intCast_le_intCast
theorem v_rpos {a:Int} (h:0 < a):(0:Rat) < (a:Rat) := Rat.intCast_pos.2 h
theorem v_rnn {a:Int} (h:0≤a):(0:Rat)≤(a:Rat) := Rat.intCast_nonneg.2 h
theorem v_rle_frac {p q:Rat}:p≤q ↔ (v_frac p).1 * (v_frac q).2≤(v_frac q).1 * (v_frac p).2 := Rat.le_iff p q
/-- A quotient of two whole numbers. -/
theorem v_rdiv_le {a b:Rat} {c:Rat} (hb:0 < b):a / b≤c ↔ a≤c * b := by
 rw [← Rat.not_lt,← Rat.not_lt,Rat.lt_div_iff hb]
theorem v_rle_div {a b:Rat} {c:Rat} (hb:0 < b):c≤a / b ↔ c * b≤a := by
 rw [← Rat.not_lt,← Rat.not_lt,Rat.div_lt_iff hb]
/-- Of equal numbers the lowest terms are the smallest. -/
theorem v_frac_le {n d:Int} (hn:0≤n) (hd:0 < d):0≤(v_frac ((n:Rat) / (d:Rat))).1∧(v_frac ((n:Rat) / (d:Rat))).1≤n∧(v_frac ((n:Rat) / (d:Rat))).2≤d := by
 rw [← v_low_frac hd]
 have hg:0 < v_gcd n d := v_gcd_pos (by omega)
 unfold v_low
 simp only
 exact ⟨Int.ediv_nonneg hn (by omega),Int.ediv_le_self _ hn,Int.ediv_le_self _ (by omega)⟩
/-- One layer above what lies below. -/
def v_step (s:Int) (x:gG) (r:Rat):Rat := (x.1:Rat) * (r * ((x.2 + s:Int):Rat) + (x.1:Rat) * (x.2:Rat)) / ((x.1:Rat) * ((x.2 + s:Int):Rat) + r * (x.2:Rat))
/-- The response of layers at a scale. -/
def v_resp (s:Int):List (Int×Int)→Rat
 | [] => 0
 | x :: r => match r with
  | [] => (x.1:Rat)
  | _ :: _ => v_step s x (v_resp s r)
theorem v_resp_c (s:Int) (x:gG) {r:List (Int×Int)} (h:r ≠ []):v_resp s (x :: r)=v_step s x (v_resp s r) := by
 cases r with
 | nil => exact absurd rfl h
 | cons y r => rfl
theorem v_step_den {s:Int} {x:Int×Int} {r:Rat} (hs:0 < s) (hc:0 < x.1) (ht:0≤x.2) (hr:0≤r):(0:Rat) < (x.1:Rat) * ((x.2 + s:Int):Rat) + r * (x.2:Rat) := by
 have h1:(0:Rat) < (x.1:Rat) * ((x.2 + s:Int):Rat) := Rat.mul_pos (v_rpos hc) (v_rpos (by omega))
 have h2:(0:Rat)≤r * (x.2:Rat) := Rat.mul_nonneg hr (v_rnn ht)
 grind
/-- Between bounds of the conductivity and of what lies below. -/
theorem v_step_lo {s:Int} {x:Int×Int} {r lo:Rat} (hs:0 < s) (hc:0 < x.1) (ht:0≤x.2) (hl:0 < lo) (h1:lo≤(x.1:Rat)) (h2:lo≤r):lo≤v_step s x r := by
 have hd := v_step_den (s := s) (x := x) (r := r) hs hc ht (by grind)
 unfold v_step
 rw [v_rle_div hd]
 have hS:((x.2 + s:Int):Rat)=(x.2:Rat) + (s:Rat) := Rat.intCast_add _ _
 have ps := v_rpos hs
 have pt := v_rnn ht
 rw [hS]
 generalize (x.1:Rat)=c at *
 generalize (x.2:Rat)=t at *
 generalize (s:Rat)=S at *
 -- c (r (t+S) + c t) - lo (c (t+S) + r t)=c (r - lo) (t+S) + t (c c - lo r)
 have e1:0≤c * (r - lo) * S := Rat.mul_nonneg (Rat.mul_nonneg (by grind) (by grind)) (by grind)
 have e2:0≤t * (c * (c - lo)) := Rat.mul_nonneg pt (Rat.mul_nonneg (by grind) (by grind))
 have e3:0≤t * (r * (c - lo)) := Rat.mul_nonneg pt (Rat.mul_nonneg (by grind) (by grind))
 grind
theorem v_step_hi {s:Int} {x:Int×Int} {r hi:Rat} (hs:0 < s) (hc:0 < x.1) (ht:0≤x.2) (hr:0 < r) (h1:(x.1:Rat)≤hi) (h2:r≤hi):v_step s x r≤hi := by
 have hd := v_step_den (s := s) (x := x) (r := r) hs hc ht (by grind)
 have hc' := v_rpos hc
 unfold v_step
 rw [v_rdiv_le hd]
 have hS:((x.2 + s:Int):Rat)=(x.2:Rat) + (s:Rat) := Rat.intCast_add _ _
 have ps := v_rpos hs
 have pt := v_rnn ht
 rw [hS]
 generalize (x.1:Rat)=c at *
 generalize (x.2:Rat)=t at *
 generalize (s:Rat)=S at *
 have e1:0≤c * (hi - r) * S := Rat.mul_nonneg (Rat.mul_nonneg (by grind) (by grind)) (by grind)
 have e2:0≤t * (c * (hi - c)) := Rat.mul_nonneg pt (Rat.mul_nonneg (by grind) (by grind))
 have e3:0≤t * (r * (hi - c)) := Rat.mul_nonneg pt (Rat.mul_nonneg (by grind) (by grind))
 grind
/-- With more below,there is no less. -/
theorem v_step_mono {s:Int} {x:Int×Int} {r q:Rat} (hs:0 < s) (hc:0 < x.1) (ht:0≤x.2) (hr:0≤r) (h:r≤q):v_step s x r≤v_step s x q := by
 have hd := v_step_den (s := s) (x := x) (r := r) hs hc ht hr
 have hd' := v_step_den (s := s) (x := x) (r := q) hs hc ht (by grind)
 have hc' := v_rpos hc
 have hS:((x.2 + s:Int):Rat)=(x.2:Rat) + (s:Rat) := Rat.intCast_add _ _
 have ps := v_rpos hs
 have pt := v_rnn ht
 unfold v_step
 rw [v_rle_div hd',Rat.div_def,Rat.mul_assoc,Rat.mul_comm _⁻¹,← Rat.mul_assoc,← Rat.div_def,v_rdiv_le hd]
 rw [hS] at *
 generalize (x.1:Rat)=c at *
 generalize (x.2:Rat)=t at *
 generalize (s:Rat)=S at *
 have e1:0≤c * c * ((q - r) * (S * (t + t + S))) := Rat.mul_nonneg (Rat.mul_nonneg (by grind) (by grind)) (Rat.mul_nonneg (by grind) (Rat.mul_nonneg (by grind) (by grind)))
 grind
/-- With a greater conductivity,there is no less. -/
theorem v_step_more {s:Int} {c c' t:Int} {r:Rat} (hs:0 < s) (hc:0 < c) (ht:0≤t) (hr:0≤r) (h:c≤c'):v_step s (c,t) r≤v_step s (c',t) r := by
 have hd := v_step_den (s := s) (x := (c,t)) (r := r) hs hc ht hr
 have hd' := v_step_den (s := s) (x := (c',t)) (r := r) hs (show 0 < c' by omega) ht hr
 have hc' := v_rpos hc
 have hcc := v_rcast.2 h
 have hS:((t + s:Int):Rat)=(t:Rat) + (s:Rat) := Rat.intCast_add _ _
 have ps := v_rpos hs
 have pt := v_rnn ht
 unfold v_step
 simp only at hd hd' ⊢
 rw [v_rle_div hd',Rat.div_def,Rat.mul_assoc,Rat.mul_comm _⁻¹,← Rat.mul_assoc,← Rat.div_def,v_rdiv_le hd]
 rw [hS] at *
 generalize (c:Rat)=a at *
 generalize (c' : Rat)=b at *
 generalize (t:Rat)=t at *
 generalize (s:Rat)=S at *
 have q1:0≤b - a := by grind
 have e1:0≤(b - a) * (r * r * (t * (t + S))) := Rat.mul_nonneg q1 (Rat.mul_nonneg (Rat.mul_nonneg hr hr) (Rat.mul_nonneg pt (by grind)))
 have e2:0≤(b - a) * (a * b * (t * (t + S))) := Rat.mul_nonneg q1 (Rat.mul_nonneg (Rat.mul_nonneg (by grind) (by grind)) (Rat.mul_nonneg pt (by grind)))
 have e3:0≤(b - a) * ((a + b) * (r * (t * t))) := Rat.mul_nonneg q1 (Rat.mul_nonneg (by grind) (Rat.mul_nonneg hr (Rat.mul_nonneg pt pt)))
 grind
/-- Whether a layer,layers,are valid. -/
structure v_lok (x:gG):Prop where
 c:1≤x.1∧x.1≤20
 t:0≤x.2∧x.2≤10
theorem v_resp_lo {s:Int} {lo:Rat} (hs:0 < s) (hl:0 < lo):∀ {l:List (Int×Int)},l ≠ []→(∀ x∈l,v_lok x)→(∀ x∈l,lo≤(x.1:Rat))→lo≤v_resp s l
 | [],h,_,_ => absurd rfl h
 | [x],_,_,h => h x (by simp)
 | x :: y :: r,_,hk,h => by
  rw [v_resp_c s x (by simp)]
  have hx := hk x (by simp)
  exact v_step_lo hs (by have := hx.c; omega) hx.t.1 hl (h x (by simp)) (v_resp_lo hs hl (by simp) (fun z hz => hk z (List.mem_cons_of_mem _ hz)) (fun z hz => h z (List.mem_cons_of_mem _ hz)))
theorem v_resp_1le {s:Int} (hs:0 < s) {l:List (Int×Int)} (h:l ≠ []) (hk:∀ x∈l,v_lok x):1≤v_resp s l :=
 v_resp_lo hs (by decide) h hk (fun x hx => by have := v_rcast.2 (hk x hx).c.1; simpa using this)
theorem v_resp_hi {s:Int} {hi:Rat} (hs:0 < s):∀ {l:List (Int×Int)},l ≠ []→(∀ x∈l,v_lok x)→(∀ x∈l,(x.1:Rat)≤hi)→v_resp s l≤hi
 | [],h,_,_ => absurd rfl h
 | [x],_,_,h => h x (by simp)
 | x :: y :: r,_,hk,h => by
  rw [v_resp_c s x (by simp)]
  have hx := hk x (by simp)
  have h1 := v_resp_1le (s := s) (l := y :: r) hs (by simp) (fun z hz => hk z (List.mem_cons_of_mem _ hz))
  exact v_step_hi hs (by have := hx.c; omega) hx.t.1 (by grind) (h x (by simp)) (v_resp_hi hs (by simp) (fun z hz => hk z (List.mem_cons_of_mem _ hz)) (fun z hz => h z (List.mem_cons_of_mem _ hz)))
theorem v_resp_le20 {s:Int} (hs:0 < s) {l:List (Int×Int)} (h:l ≠ []) (hk:∀ x∈l,v_lok x):v_resp s l≤20 :=
 v_resp_hi hs h hk (fun x hx => by have := v_rcast.2 (hk x hx).c.2; simpa using this)
/-- The same thicknesses,and conductivities that are no less. -/
inductive v_above:List (Int×Int)→List (Int×Int)→Prop
 | nil:v_above [] []
 | cons {x y:Int×Int} {l r:List (Int×Int)} (h1:x.1≤y.1) (h2:x.2 = y.2) (h:v_above l r):v_above (x :: l) (y :: r)
theorem v_above_nil {l r:List (Int×Int)} (h:v_above l r):l = [] ↔ r = [] := by cases h <;> simp
theorem v_resp_mono {s:Int} (hs:0 < s):∀ {l r:List (Int×Int)},v_above l r→(∀ x∈l,v_lok x)→(∀ x∈r,v_lok x)→v_resp s l≤v_resp s r := by
 intro l r h
 induction h with
 | nil => intro _ _; exact Rat.le_refl
 | @cons x y l r h1 h2 h ih =>
  intro hl hr
  have hx := hl x (by simp)
  have hy := hr y (by simp)
  have ih := ih (fun z hz => hl z (List.mem_cons_of_mem _ hz)) (fun z hz => hr z (List.mem_cons_of_mem _ hz))
  by_cases hn:l = []
  ·have hn' := (v_above_nil h).1 hn
   subst hn hn'
   exact v_rcast.2 h1
  ·have hn' : r ≠ [] := fun e => hn ((v_above_nil h).2 e)
   rw [v_resp_c s x hn,v_resp_c s y hn']
   have b1 := v_resp_1le (s := s) hs hn (fun z hz => hl z (List.mem_cons_of_mem _ hz))
   have b2 := v_resp_1le (s := s) hs hn' (fun z hz => hr z (List.mem_cons_of_mem _ hz))
   have m1 := v_step_mono (s := s) (x := x) hs (by have := hx.c; omega) hx.t.1 (show 0≤v_resp s l by grind) ih
   have m2 := v_step_more (s := s) (c := x.1) (c' := y.1) (t := x.2) hs (by have := hx.c; omega) hx.t.1 (show 0≤v_resp s r by grind) h1
   have e:(x.1,x.2)=x := rfl
   have e' : (y.1,x.2)=y := by rw [h2]
   rw [e,e'] at m2
   exact Rat.le_trans m1 m2
/-- How great the parts are,at most: of n layers,800^(n - 1). -/
theorem v_step_parts {s:Int} {x:Int×Int} {r:Rat} (hs:1≤s∧s≤20) (hx:v_lok x) (h1:1≤r) (h2:r≤20) {D:Int} (hD:(v_frac r).2≤D) :
  0 < x.1 * (v_frac r).2 * (x.2 + s) + (v_frac r).1 * x.2∧x.1 * (v_frac r).2 * (x.2 + s) + (v_frac r).1 * x.2≤800 * D∧0≤x.1 * ((v_frac r).1 * (x.2 + s) + x.1 * x.2 * (v_frac r).2)∧x.1 * ((v_frac r).1 * (x.2 + s) + x.1 * x.2 * (v_frac r).2)≤16000 * D ∧
  v_step s x r = ((x.1 * ((v_frac r).1 * (x.2 + s) + x.1 * x.2 * (v_frac r).2):Int):Rat) / ((x.1 * (v_frac r).2 * (x.2 + s) + (v_frac r).1 * x.2:Int):Rat)∧0≤(v_frac r).1∧(v_frac r).1≤20 * D := by
 have hp := v_frac_pos r
 have hr:r = v_rq (v_frac r) := (v_rq_frac r).symm
 have hn:(v_frac r).1≤20 * (v_frac r).2 := by
  have := v_rle_frac.1 h2
  have e:v_frac 20 = (20,1) := rfl
  rw [e] at this
  simp only at this
  omega
 have hn0:0≤(v_frac r).1 := Rat.num_nonneg.2 (by grind)
 generalize hN:(v_frac r).1 = N at *
 generalize hM:(v_frac r).2 = M at *
 have hc := hx.c
 have ht := hx.t
 have m1 := mul_in (x := x.1) (y := M) (by omega) hc.2 (by omega) (Int.le_refl M)
 have m2 := mul_in (x := x.1 * M) (y := x.2 + s) m1.1 m1.2 (by omega) (show x.2 + s≤30 by omega)
 have m3 := mul_in (x := N) (y := x.2) hn0 hn ht.1 ht.2
 have m4 := mul_in (x := N) (y := x.2 + s) hn0 hn (by omega) (show x.2 + s≤30 by omega)
 have m5 := mul_in (x := x.1) (y := x.2) (by omega) hc.2 ht.1 ht.2
 have m6 := mul_in (x := x.1 * x.2) (y := M) m5.1 m5.2 (by omega) (Int.le_refl M)
 have m7 := mul_in (x := x.1) (y := N * (x.2 + s) + x.1 * x.2 * M) (a := 20) (b := 20 * M * 30 + 20 * 10 * M) (by omega) hc.2 (by omega) (by omega)
 have m8:0 < x.1 * M * (x.2 + s) := Int.mul_pos (Int.mul_pos (by omega) hp) (by omega)
 refine ⟨by omega,by omega,m7.1,by omega,?_,hn0,by omega⟩
 have hMr := v_rpos hp
 have hd := v_step_den (s := s) (x := x) (r := r) (by omega) (by omega) ht.1 (by grind)
 have hd2:(0:Rat) < ((x.1 * M * (x.2 + s) + N * x.2:Int):Rat) := v_rpos (by omega)
 have hrq:r * (M:Rat)=(N:Rat) := by
  rw [hr]; unfold v_rq; rw [hN,hM]; exact Rat.div_mul_cancel (by grind)
 unfold v_step
 have c1:((x.1 * ((N * (x.2 + s)) + x.1 * x.2 * M):Int):Rat)=(x.1:Rat) * ((N:Rat) * ((x.2 + s:Int):Rat) + (x.1:Rat) * (x.2:Rat) * (M:Rat)) := by
  rw [Rat.intCast_mul,Rat.intCast_add,Rat.intCast_mul,Rat.intCast_mul,Rat.intCast_mul]
 have c2:((x.1 * M * (x.2 + s) + N * x.2:Int):Rat)=(x.1:Rat) * (M:Rat) * ((x.2 + s:Int):Rat) + (N:Rat) * (x.2:Rat) := by
  rw [Rat.intCast_add,Rat.intCast_mul,Rat.intCast_mul,Rat.intCast_mul]
 rw [c1]
 rw [c2] at hd2 ⊢
 rw [← hrq] at hd2 ⊢
 generalize ((x.2 + s:Int):Rat)=S at *
 generalize (x.1:Rat)=c at *
 generalize (x.2:Rat)=t at *
 generalize (M:Rat)=m at *
 have e1:c * m * S + r * m * t = (c * S + r * t) * m := by grind
 have e2:c * (r * m * S + c * t * m)=(c * (r * S + c * t)) * m := by grind
 rw [e1,e2]
 rw [Rat.div_def,Rat.div_def,Rat.inv_mul_rev]
 have:m * m⁻¹ = 1 := Rat.mul_inv_cancel _ (by grind)
 grind
theorem l_Zm_0 (p0 p1:Int) (h0:0≤p0) (h1:0 < p1) (h2:p1≤9223372036854775807):OkL (st_Zm_0 p0 p1) (sp_Zm_0 p0 p1) (p1,p0)∧lpv 0 (st_Zm_0 p0 p1) (p1,p0)=v_gcd p0 p1 := by
 refine loop_is (fun (y:gG) => 0≤y.1∧0≤y.2∧0 < v_gcd y.2 y.1) (fun (y:gG) => y.1.natAbs) (fun (y:gG) => v_gcd y.2 y.1) ?_ ⟨by omega,h0,v_gcd_pos (by omega)⟩ (by unfold fuel; simp only; omega)
 rintro ⟨x,y⟩ ⟨g1,g2,g3⟩
 refine ⟨by simp only [sp_Zm_0,fM]; simp,?_⟩
 simp only at g1 g2 g3 ⊢
 unfold st_Zm_0
 simp only
 rcases int0 x with ⟨rfl,e,_⟩ | ⟨hx,e,_⟩
 ·rw [e]
  have e0:v_gcd y 0 = y := by unfold v_gcd; rw [Int.gcd_zero_right]; omega
  rw [e0] at g3 ⊢
  simp only [cond_false]
  omega
 ·rw [e]
  have := v_tmod_lt (a := y) hx
  have hs := v_gcd_step y x
  have hn:0≤y.tmod x := Int.tmod_nonneg _ g2
  exact ⟨⟨hn,g1,by rw [hs]; exact g3⟩,this,hs⟩
abbrev t_Zm (p0 p1:Int):Int := v_gcd p0 p1
abbrev qre_Zm (p0 p1:Int):List Prop := [0≤p0∧0 < p1∧p1≤9223372036854775807]
theorem pp_Zm (p0 p1:Int) (hq:∀ p∈qre_Zm p0 p1,p):∀ p∈pre_Zm p0 p1,p := by
 obtain ⟨h1,h2,h3⟩ := (conj_of hq).1
 simp only [pre_Zm,fM]
 exact ⟨(l_Zm_0 p0 p1 h1 h2 h3).1,by simp⟩
theorem tt_Zm (p0 p1:Int) (hq:∀ p∈qre_Zm p0 p1,p):s_Zm p0 p1 = t_Zm p0 p1 := by
 obtain ⟨h1,h2,h3⟩ := (conj_of hq).1
 exact (l_Zm_0 p0 p1 h1 h2 h3).2

abbrev con_Zm:Con := ⟨P_Zm,R_Zm,fun x => qre_Zm x.1 x.2,fun x => t_Zm x.1 x.2⟩
theorem ok_Zm:ConOk Try.prog 145 con_Zm := okG k_Zm e_Zm hC_Zm fun x hx => tf_of (w_Zm_eq x.1 x.2 _) (d_Zm x.1 x.2 _ (pp_Zm x.1 x.2 hx) (tt_Zm x.1 x.2 hx))
def C_Z18:Cons := []
theorem hC_Z18:ConsOk Try.prog C_Z18 := ConsOk.nil
def w_Z18 (p0:Int) (p1:Int) (K:(Int×Int)→Prop):Prop := (K ((IntKind.wrap .u64 ((IntKind.wrap .u64 ((IntKind.wrap .u64 ((v_shr .u64 p0 (32:Int)) * (v_shr .u64 p1 (32:Int)))) + (v_shr .u64 (IntKind.wrap .u64 ((IntKind.wrap .u64 ((v_shr .u64 p0 (32:Int)) * (v_and .u64 p1 (4294967295:Int)))) + (v_shr .u64 (IntKind.wrap .u64 ((v_and .u64 p0 (4294967295:Int)) * (v_and .u64 p1 (4294967295:Int)))) (32:Int)))) (32:Int)))) + (v_shr .u64 (IntKind.wrap .u64 ((v_and .u64 (IntKind.wrap .u64 ((IntKind.wrap .u64 ((v_shr .u64 p0 (32:Int)) * (v_and .u64 p1 (4294967295:Int)))) + (v_shr .u64 (IntKind.wrap .u64 ((v_and .u64 p0 (4294967295:Int)) * (v_and .u64 p1 (4294967295:Int)))) (32:Int)))) (4294967295:Int)) + (IntKind.wrap .u64 ((v_and .u64 p0 (4294967295:Int)) * (v_shr .u64 p1 (32:Int)))))) (32:Int)))),(IntKind.wrap .u64 (p0 * p1))))
theorem w_Z18_eq (p0:Int) (p1:Int) (K:(Int×Int)→Prop):tfn F_Z18 A_Z18 C_Z18 P_Z18 R_Z18 (p0,p1) K = w_Z18 p0 p1 K := by kernel_rfl
def s_Z18 (p0:Int) (p1:Int):(Int×Int) := ((IntKind.wrap .u64 ((IntKind.wrap .u64 ((IntKind.wrap .u64 ((v_shr .u64 p0 (32:Int)) * (v_shr .u64 p1 (32:Int)))) + (v_shr .u64 (IntKind.wrap .u64 ((IntKind.wrap .u64 ((v_shr .u64 p0 (32:Int)) * (v_and .u64 p1 (4294967295:Int)))) + (v_shr .u64 (IntKind.wrap .u64 ((v_and .u64 p0 (4294967295:Int)) * (v_and .u64 p1 (4294967295:Int)))) (32:Int)))) (32:Int)))) + (v_shr .u64 (IntKind.wrap .u64 ((v_and .u64 (IntKind.wrap .u64 ((IntKind.wrap .u64 ((v_shr .u64 p0 (32:Int)) * (v_and .u64 p1 (4294967295:Int)))) + (v_shr .u64 (IntKind.wrap .u64 ((v_and .u64 p0 (4294967295:Int)) * (v_and .u64 p1 (4294967295:Int)))) (32:Int)))) (4294967295:Int)) + (IntKind.wrap .u64 ((v_and .u64 p0 (4294967295:Int)) * (v_shr .u64 p1 (32:Int)))))) (32:Int)))),(IntKind.wrap .u64 (p0 * p1)))
abbrev pre_Z18 (_p0:Int) (_p1:Int):List Prop := []
theorem d_Z18 (p0:Int) (p1:Int) (K:(Int×Int)→Prop) (_hp:∀ p∈pre_Z18 p0 p1,p) (h:K (s_Z18 p0 p1)):w_Z18 p0 p1 K := by
 unfold w_Z18
 unfold s_Z18 at h
 exact h
/-- Both halves of a product. -/
def v_m64 (p0 p1:Int):Int×Int := (p0 * p1 / 18446744073709551616,p0 * p1 % 18446744073709551616)
abbrev t_Z18 (p0 p1:Int):Int×Int := v_m64 p0 p1
abbrev qre_Z18 (p0 p1:Int):List Prop := [0≤p0∧p0 < 18446744073709551616,0≤p1∧p1 < 18446744073709551616]
theorem pp_Z18 (p0 p1:Int) (_hq:∀ p∈qre_Z18 p0 p1,p):∀ p∈pre_Z18 p0 p1,p := by
 intro p hp; simp at hp
theorem tt_Z18 (p0 p1:Int) (hq:∀ p∈qre_Z18 p0 p1,p):s_Z18 p0 p1 = t_Z18 p0 p1 := by
 obtain ⟨h0,h1,_⟩ := conj_of hq
 obtain ⟨x,rfl⟩ : ∃ x:Nat,p0 = x := ⟨p0.toNat,by omega⟩
 obtain ⟨y,rfl⟩ : ∃ y:Nat,p1 = y := ⟨p1.toNat,by omega⟩
 obtain ⟨e1,e2⟩ := u_mul64 x y (by omega) (by omega)
 exact Prod.ext e1 e2

abbrev con_Z18:Con := ⟨P_Z18,R_Z18,fun x => qre_Z18 x.1 x.2,fun x => t_Z18 x.1 x.2⟩
theorem ok_Z18:ConOk Try.prog 140 con_Z18 := okG k_Z18 e_Z18 hC_Z18 fun x hx => tf_of (w_Z18_eq x.1 x.2 _) (d_Z18 x.1 x.2 _ (pp_Z18 x.1 x.2 hx) (tt_Z18 x.1 x.2 hx))
def C_Z14:Cons := [(140,[],con_Z18)]
theorem hC_Z14:ConsOk Try.prog C_Z14 := cC ok_Z18 <| ConsOk.nil
def w_Z14 (p0:Int) (p1:Int) (p2:Int) (p3:Int) (K:Int→Prop):Prop := (((zz0≤(IntKind.wrap .u64 p0)) ∧((IntKind.wrap .u64 p0) < 18446744073709551616)) ∧(((zz0≤(IntKind.wrap .u64 p1)) ∧((IntKind.wrap .u64 p1) < 18446744073709551616)) ∧(((zz0≤(IntKind.wrap .u64 p2)) ∧((IntKind.wrap .u64 p2) < 18446744073709551616)) ∧(((zz0≤(IntKind.wrap .u64 p3)) ∧((IntKind.wrap .u64 p3) < 18446744073709551616)) ∧(((((v_m64 (IntKind.wrap .u64 p0) (IntKind.wrap .u64 p1)).1 == (v_m64 (IntKind.wrap .u64 p2) (IntKind.wrap .u64 p3)).1)=true) →(((v_m64 (IntKind.wrap .u64 p0) (IntKind.wrap .u64 p1)).1 == (v_m64 (IntKind.wrap .u64 p2) (IntKind.wrap .u64 p3)).1)=((v_m64 (IntKind.wrap .u64 p0) (IntKind.wrap .u64 p1)).1 == (v_m64 (IntKind.wrap .u64 p2) (IntKind.wrap .u64 p3)).1))) ∧(((((v_m64 (IntKind.wrap .u64 p0) (IntKind.wrap .u64 p1)).1 == (v_m64 (IntKind.wrap .u64 p2) (IntKind.wrap .u64 p3)).1)=true) →(((v_m64 (IntKind.wrap .u64 p0) (IntKind.wrap .u64 p1)).1 == (v_m64 (IntKind.wrap .u64 p2) (IntKind.wrap .u64 p3)).1)=((v_m64 (IntKind.wrap .u64 p0) (IntKind.wrap .u64 p1)).1 == (v_m64 (IntKind.wrap .u64 p2) (IntKind.wrap .u64 p3)).1))) ∧((((v_m64 (IntKind.wrap .u64 p0) (IntKind.wrap .u64 p1)).1 == (v_m64 (IntKind.wrap .u64 p2) (IntKind.wrap .u64 p3)).1)=((v_m64 (IntKind.wrap .u64 p0) (IntKind.wrap .u64 p1)).1 == (v_m64 (IntKind.wrap .u64 p2) (IntKind.wrap .u64 p3)).1)) ∧((((cond ((v_m64 (IntKind.wrap .u64 p0) (IntKind.wrap .u64 p1)).1 == (v_m64 (IntKind.wrap .u64 p2) (IntKind.wrap .u64 p3)).1) ((v_m64 (IntKind.wrap .u64 p0) (IntKind.wrap .u64 p1)).2 == (v_m64 (IntKind.wrap .u64 p2) (IntKind.wrap .u64 p3)).2) false)=true) →(K zz0)) ∧(((cond ((v_m64 (IntKind.wrap .u64 p0) (IntKind.wrap .u64 p1)).1 == (v_m64 (IntKind.wrap .u64 p2) (IntKind.wrap .u64 p3)).1) ((v_m64 (IntKind.wrap .u64 p0) (IntKind.wrap .u64 p1)).2 == (v_m64 (IntKind.wrap .u64 p2) (IntKind.wrap .u64 p3)).2) false)=false) →((((decide ((v_m64 (IntKind.wrap .u64 p0) (IntKind.wrap .u64 p1)).1 > (v_m64 (IntKind.wrap .u64 p2) (IntKind.wrap .u64 p3)).1))=false) →((decide ((v_m64 (IntKind.wrap .u64 p0) (IntKind.wrap .u64 p1)).1 > (v_m64 (IntKind.wrap .u64 p2) (IntKind.wrap .u64 p3)).1))=(decide ((v_m64 (IntKind.wrap .u64 p0) (IntKind.wrap .u64 p1)).1 > (v_m64 (IntKind.wrap .u64 p2) (IntKind.wrap .u64 p3)).1)))) ∧((((decide ((v_m64 (IntKind.wrap .u64 p0) (IntKind.wrap .u64 p1)).1 > (v_m64 (IntKind.wrap .u64 p2) (IntKind.wrap .u64 p3)).1))=false) →((decide ((v_m64 (IntKind.wrap .u64 p0) (IntKind.wrap .u64 p1)).1 > (v_m64 (IntKind.wrap .u64 p2) (IntKind.wrap .u64 p3)).1))=(decide ((v_m64 (IntKind.wrap .u64 p0) (IntKind.wrap .u64 p1)).1 > (v_m64 (IntKind.wrap .u64 p2) (IntKind.wrap .u64 p3)).1)))) ∧((((decide ((v_m64 (IntKind.wrap .u64 p0) (IntKind.wrap .u64 p1)).1 > (v_m64 (IntKind.wrap .u64 p2) (IntKind.wrap .u64 p3)).1))=false) →((decide ((v_m64 (IntKind.wrap .u64 p0) (IntKind.wrap .u64 p1)).1 > (v_m64 (IntKind.wrap .u64 p2) (IntKind.wrap .u64 p3)).1))=(decide ((v_m64 (IntKind.wrap .u64 p0) (IntKind.wrap .u64 p1)).1 > (v_m64 (IntKind.wrap .u64 p2) (IntKind.wrap .u64 p3)).1)))) ∧(((((!(decide ((v_m64 (IntKind.wrap .u64 p0) (IntKind.wrap .u64 p1)).1 > (v_m64 (IntKind.wrap .u64 p2) (IntKind.wrap .u64 p3)).1))) && ((v_m64 (IntKind.wrap .u64 p0) (IntKind.wrap .u64 p1)).1 == (v_m64 (IntKind.wrap .u64 p2) (IntKind.wrap .u64 p3)).1))=true) →(((!(decide ((v_m64 (IntKind.wrap .u64 p0) (IntKind.wrap .u64 p1)).1 > (v_m64 (IntKind.wrap .u64 p2) (IntKind.wrap .u64 p3)).1))) && ((v_m64 (IntKind.wrap .u64 p0) (IntKind.wrap .u64 p1)).1 == (v_m64 (IntKind.wrap .u64 p2) (IntKind.wrap .u64 p3)).1))=((!(decide ((v_m64 (IntKind.wrap .u64 p0) (IntKind.wrap .u64 p1)).1 > (v_m64 (IntKind.wrap .u64 p2) (IntKind.wrap .u64 p3)).1))) && ((v_m64 (IntKind.wrap .u64 p0) (IntKind.wrap .u64 p1)).1 == (v_m64 (IntKind.wrap .u64 p2) (IntKind.wrap .u64 p3)).1)))) ∧(((((!(decide ((v_m64 (IntKind.wrap .u64 p0) (IntKind.wrap .u64 p1)).1 > (v_m64 (IntKind.wrap .u64 p2) (IntKind.wrap .u64 p3)).1))) && ((v_m64 (IntKind.wrap .u64 p0) (IntKind.wrap .u64 p1)).1 == (v_m64 (IntKind.wrap .u64 p2) (IntKind.wrap .u64 p3)).1))=true) →(((!(decide ((v_m64 (IntKind.wrap .u64 p0) (IntKind.wrap .u64 p1)).1 > (v_m64 (IntKind.wrap .u64 p2) (IntKind.wrap .u64 p3)).1))) && ((v_m64 (IntKind.wrap .u64 p0) (IntKind.wrap .u64 p1)).1 == (v_m64 (IntKind.wrap .u64 p2) (IntKind.wrap .u64 p3)).1))=((!(decide ((v_m64 (IntKind.wrap .u64 p0) (IntKind.wrap .u64 p1)).1 > (v_m64 (IntKind.wrap .u64 p2) (IntKind.wrap .u64 p3)).1))) && ((v_m64 (IntKind.wrap .u64 p0) (IntKind.wrap .u64 p1)).1 == (v_m64 (IntKind.wrap .u64 p2) (IntKind.wrap .u64 p3)).1)))) ∧((((decide ((v_m64 (IntKind.wrap .u64 p0) (IntKind.wrap .u64 p1)).1 > (v_m64 (IntKind.wrap .u64 p2) (IntKind.wrap .u64 p3)).1))=false) →((decide ((v_m64 (IntKind.wrap .u64 p0) (IntKind.wrap .u64 p1)).1 > (v_m64 (IntKind.wrap .u64 p2) (IntKind.wrap .u64 p3)).1))=(decide ((v_m64 (IntKind.wrap .u64 p0) (IntKind.wrap .u64 p1)).1 > (v_m64 (IntKind.wrap .u64 p2) (IntKind.wrap .u64 p3)).1)))) ∧((((decide ((v_m64 (IntKind.wrap .u64 p0) (IntKind.wrap .u64 p1)).1 > (v_m64 (IntKind.wrap .u64 p2) (IntKind.wrap .u64 p3)).1))=false) →(((!(decide ((v_m64 (IntKind.wrap .u64 p0) (IntKind.wrap .u64 p1)).1 > (v_m64 (IntKind.wrap .u64 p2) (IntKind.wrap .u64 p3)).1))) && ((v_m64 (IntKind.wrap .u64 p0) (IntKind.wrap .u64 p1)).1 == (v_m64 (IntKind.wrap .u64 p2) (IntKind.wrap .u64 p3)).1))=((v_m64 (IntKind.wrap .u64 p0) (IntKind.wrap .u64 p1)).1 == (v_m64 (IntKind.wrap .u64 p2) (IntKind.wrap .u64 p3)).1))) ∧(((decide ((v_m64 (IntKind.wrap .u64 p0) (IntKind.wrap .u64 p1)).1 > (v_m64 (IntKind.wrap .u64 p2) (IntKind.wrap .u64 p3)).1))=(decide ((v_m64 (IntKind.wrap .u64 p0) (IntKind.wrap .u64 p1)).1 > (v_m64 (IntKind.wrap .u64 p2) (IntKind.wrap .u64 p3)).1))) ∧((((cond (decide ((v_m64 (IntKind.wrap .u64 p0) (IntKind.wrap .u64 p1)).1 > (v_m64 (IntKind.wrap .u64 p2) (IntKind.wrap .u64 p3)).1)) true (cond ((v_m64 (IntKind.wrap .u64 p0) (IntKind.wrap .u64 p1)).1 == (v_m64 (IntKind.wrap .u64 p2) (IntKind.wrap .u64 p3)).1) (decide ((v_m64 (IntKind.wrap .u64 p0) (IntKind.wrap .u64 p1)).2 > (v_m64 (IntKind.wrap .u64 p2) (IntKind.wrap .u64 p3)).2)) false))=true) →(K zz1)) ∧(((cond (decide ((v_m64 (IntKind.wrap .u64 p0) (IntKind.wrap .u64 p1)).1 > (v_m64 (IntKind.wrap .u64 p2) (IntKind.wrap .u64 p3)).1)) true (cond ((v_m64 (IntKind.wrap .u64 p0) (IntKind.wrap .u64 p1)).1 == (v_m64 (IntKind.wrap .u64 p2) (IntKind.wrap .u64 p3)).1) (decide ((v_m64 (IntKind.wrap .u64 p0) (IntKind.wrap .u64 p1)).2 > (v_m64 (IntKind.wrap .u64 p2) (IntKind.wrap .u64 p3)).2)) false))=false) →(K (-1:Int)))))))))))))))))))))
theorem w_Z14_eq (p0:Int) (p1:Int) (p2:Int) (p3:Int) (K:Int→Prop):tfn F_Z14 A_Z14 C_Z14 P_Z14 R_Z14 (p0,p1,p2,p3) K = w_Z14 p0 p1 p2 p3 K := by kernel_rfl
def s_Z14 (p0:Int) (p1:Int) (p2:Int) (p3:Int):Int := (cond (cond ((v_m64 (IntKind.wrap .u64 p0) (IntKind.wrap .u64 p1)).1 == (v_m64 (IntKind.wrap .u64 p2) (IntKind.wrap .u64 p3)).1) ((v_m64 (IntKind.wrap .u64 p0) (IntKind.wrap .u64 p1)).2 == (v_m64 (IntKind.wrap .u64 p2) (IntKind.wrap .u64 p3)).2) false) (0:Int) (cond (cond (decide ((v_m64 (IntKind.wrap .u64 p0) (IntKind.wrap .u64 p1)).1 > (v_m64 (IntKind.wrap .u64 p2) (IntKind.wrap .u64 p3)).1)) true (cond ((v_m64 (IntKind.wrap .u64 p0) (IntKind.wrap .u64 p1)).1 == (v_m64 (IntKind.wrap .u64 p2) (IntKind.wrap .u64 p3)).1) (decide ((v_m64 (IntKind.wrap .u64 p0) (IntKind.wrap .u64 p1)).2 > (v_m64 (IntKind.wrap .u64 p2) (IntKind.wrap .u64 p3)).2)) false)) (1:Int) (-1:Int)))
abbrev pre_Z14 (p0:Int) (p1:Int) (p2:Int) (p3:Int):List Prop := [(((0:Int)≤(IntKind.wrap .u64 p0))∧((IntKind.wrap .u64 p0) < 18446744073709551616)),(((0:Int)≤(IntKind.wrap .u64 p1))∧((IntKind.wrap .u64 p1) < 18446744073709551616)),(((0:Int)≤(IntKind.wrap .u64 p2))∧((IntKind.wrap .u64 p2) < 18446744073709551616)),(((0:Int)≤(IntKind.wrap .u64 p3))∧((IntKind.wrap .u64 p3) < 18446744073709551616)),(((cond ((v_m64 (IntKind.wrap .u64 p0) (IntKind.wrap .u64 p1)).1 == (v_m64 (IntKind.wrap .u64 p2) (IntKind.wrap .u64 p3)).1) ((v_m64 (IntKind.wrap .u64 p0) (IntKind.wrap .u64 p1)).2 == (v_m64 (IntKind.wrap .u64 p2) (IntKind.wrap .u64 p3)).2) false)=false)→(((decide ((v_m64 (IntKind.wrap .u64 p0) (IntKind.wrap .u64 p1)).1 > (v_m64 (IntKind.wrap .u64 p2) (IntKind.wrap .u64 p3)).1))=false)→(((!(decide ((v_m64 (IntKind.wrap .u64 p0) (IntKind.wrap .u64 p1)).1 > (v_m64 (IntKind.wrap .u64 p2) (IntKind.wrap .u64 p3)).1))) && ((v_m64 (IntKind.wrap .u64 p0) (IntKind.wrap .u64 p1)).1 == (v_m64 (IntKind.wrap .u64 p2) (IntKind.wrap .u64 p3)).1))=((v_m64 (IntKind.wrap .u64 p0) (IntKind.wrap .u64 p1)).1 == (v_m64 (IntKind.wrap .u64 p2) (IntKind.wrap .u64 p3)).1))))]
theorem d_Z14 (p0:Int) (p1:Int) (p2:Int) (p3:Int) (K:Int→Prop) (hp:∀ p∈pre_Z14 p0 p1 p2 p3,p) (h:K (s_Z14 p0 p1 p2 p3)):w_Z14 p0 p1 p2 p3 K := by
 unfold w_Z14
 unfold s_Z14 at h
 obtain ⟨hp0,hp1,hp2,hp3,hp4,_⟩ := conj_of hp
 exact ⟨(hp0),(hp1),(hp2),(hp3),rf,rf,rfl,(br' h (fun e0 h => h)
  (fun e0 h => ⟨rf,rf,rf,rf,rf,rf,(hp4 e0),rfl,(br' h (fun e1 h => h)
  (fun e1 h => h))⟩))⟩
abbrev t_Z14 (p0:Int) (p1:Int) (p2:Int) (p3:Int):Int := v_cmp (p0 * p1) (p2 * p3)
abbrev qre_Z14 (p0:Int) (p1:Int) (p2:Int) (p3:Int):List Prop := [0≤p0∧p0≤9223372036854775807,0≤p1∧p1≤9223372036854775807,0≤p2∧p2≤9223372036854775807,0≤p3∧p3≤9223372036854775807]
theorem pp_Z14 (p0:Int) (p1:Int) (p2:Int) (p3:Int) (hq:∀ p∈qre_Z14 p0 p1 p2 p3,p):∀ p∈pre_Z14 p0 p1 p2 p3,p := by
 obtain ⟨h1,h2,h3,h4,_⟩ := conj_of hq
 simp only [pre_Z14,v_m64,fM,u_wrap h1.1 (show p0 < 18446744073709551616 by omega),u_wrap h2.1 (show p1 < 18446744073709551616 by omega),u_wrap h3.1 (show p2 < 18446744073709551616 by omega),u_wrap h4.1 (show p3 < 18446744073709551616 by omega)]
 refine ⟨by omega,by omega,by omega,by omega,?_⟩
 generalize p0 * p1 = x
 generalize p2 * p3 = y
 simp only [List.not_mem_nil,false_implies,implies_true,and_true]
 intros
 simp_all
theorem tt_Z14 (p0:Int) (p1:Int) (p2:Int) (p3:Int) (hq:∀ p∈qre_Z14 p0 p1 p2 p3,p):s_Z14 p0 p1 p2 p3 = t_Z14 p0 p1 p2 p3 := by
 obtain ⟨h1,h2,h3,h4,_⟩ := conj_of hq
 unfold s_Z14 t_Z14 v_cmp v_m64
 rw [u_wrap h1.1 (by omega),u_wrap h2.1 (by omega),u_wrap h3.1 (by omega),u_wrap h4.1 (by omega)]
 simp only
 generalize p0 * p1 = x
 generalize p2 * p3 = y
 rcases Int.lt_trichotomy x y with h | h | h
 ·rw [decide_eq_true h,decide_eq_false (show ¬ x / 18446744073709551616 > y / 18446744073709551616 by omega)]
  rcases Decidable.em (x / 18446744073709551616 = y / 18446744073709551616) with e | e
  ·rw [beq_iff_eq.2 e,decide_eq_false (show ¬ x % 18446744073709551616 > y % 18446744073709551616 by omega),beq_eq_false_iff_ne.2 (show x % 18446744073709551616 ≠ y % 18446744073709551616 by omega)]; rfl
  ·rw [beq_eq_false_iff_ne.2 e]; rfl
 ·subst h
  rw [decide_eq_false (show ¬ x < x by omega),beq_self_eq_true,beq_self_eq_true]; rfl
 ·rw [decide_eq_false (show ¬ x < y by omega),decide_eq_true (show x > y from h)]
  rcases Decidable.em (x / 18446744073709551616 = y / 18446744073709551616) with e | e
  ·rw [beq_iff_eq.2 e,decide_eq_true (show x % 18446744073709551616 > y % 18446744073709551616 by omega),beq_eq_false_iff_ne.2 (show x % 18446744073709551616 ≠ y % 18446744073709551616 by omega),decide_eq_false (show ¬ x / 18446744073709551616 > y / 18446744073709551616 by omega)]; rfl
  ·rw [beq_eq_false_iff_ne.2 e,decide_eq_true (show x / 18446744073709551616 > y / 18446744073709551616 by omega)]; rfl

abbrev con_Z14:Con := ⟨P_Z14,R_Z14,fun x => qre_Z14 x.1 x.2.1 x.2.2.1 x.2.2.2,fun x => t_Z14 x.1 x.2.1 x.2.2.1 x.2.2.2⟩
theorem ok_Z14:ConOk Try.prog 116 con_Z14 := okG k_Z14 e_Z14 hC_Z14 fun x hx => tf_of (w_Z14_eq x.1 x.2.1 x.2.2.1 x.2.2.2 _) (d_Z14 x.1 x.2.1 x.2.2.1 x.2.2.2 _ (pp_Z14 x.1 x.2.1 x.2.2.1 x.2.2.2 hx) (tt_Z14 x.1 x.2.1 x.2.2.1 x.2.2.2 hx))
def C_Z1:Cons := []
theorem hC_Z1:ConsOk Try.prog C_Z1 := ConsOk.nil
def w_Z1 (p0:Int) (p1:Int) (p2:Int) (K:Bool→Prop):Prop := ((((decide (p1≤p0))=true) →((decide (p1≤p0))=(decide (p1≤p0)))) ∧((((decide (p1≤p0))=true) →((decide (p1≤p0))=(decide (p1≤p0)))) ∧(((decide (p1≤p0))=(decide (p1≤p0))) ∧(K (cond (decide (p1≤p0)) (decide (p0≤p2)) false)))))
theorem w_Z1_eq (p0:Int) (p1:Int) (p2:Int) (K:Bool→Prop):tfn F_Z1 A_Z1 C_Z1 P_Z1 R_Z1 (p0,p1,p2) K = w_Z1 p0 p1 p2 K := by kernel_rfl
def s_Z1 (p0:Int) (p1:Int) (p2:Int):Bool := (cond (decide (p1≤p0)) (decide (p0≤p2)) false)
abbrev pre_Z1 (_p0:Int) (_p1:Int) (_p2:Int):List Prop := []
theorem d_Z1 (p0:Int) (p1:Int) (p2:Int) (K:Bool→Prop) (_hp:∀ p∈pre_Z1 p0 p1 p2,p) (h:K (s_Z1 p0 p1 p2)):w_Z1 p0 p1 p2 K := by
 unfold w_Z1
 unfold s_Z1 at h
 exact ⟨rf,rf,rfl,h⟩
abbrev con_Z1:Con := ⟨P_Z1,R_Z1,fun x => pre_Z1 x.1 x.2.1 x.2.2,fun x => s_Z1 x.1 x.2.1 x.2.2⟩
theorem ok_Z1:ConOk Try.prog 35 con_Z1 := okG k_Z1 e_Z1 hC_Z1 fun x hx => tf_of (w_Z1_eq x.1 x.2.1 x.2.2 _) (d_Z1 x.1 x.2.1 x.2.2 _ hx rfl)
theorem tx_within {n lo hi:Int}:s_Z1 n lo hi = true ↔ lo≤n∧n≤hi := by unfold s_Z1; simp
def C_Z1j:Cons := [(35,[],con_Z1)]
theorem hC_Z1j:ConsOk Try.prog C_Z1j := cC ok_Z1 <| ConsOk.nil
def w_Z1j (p0:Int) (K:Bool→Prop):Prop := (K (s_Z1 p0 zz1 (20:Int)))
theorem w_Z1j_eq (p0:Int) (K:Bool→Prop):tfn F_Z1j A_Z1j C_Z1j P_Z1j R_Z1j p0 K = w_Z1j p0 K := by kernel_rfl
def s_Z1j (p0:Int):Bool := (s_Z1 p0 (1:Int) (20:Int))
abbrev pre_Z1j (_p0:Int):List Prop := []
theorem d_Z1j (p0:Int) (K:Bool→Prop) (_hp:∀ p∈pre_Z1j p0,p) (h:K (s_Z1j p0)):w_Z1j p0 K := by
 unfold w_Z1j
 unfold s_Z1j at h
 exact h
abbrev con_Z1j:Con := ⟨P_Z1j,R_Z1j,fun x => pre_Z1j x,fun x => s_Z1j x⟩
theorem ok_Z1j:ConOk Try.prog 81 con_Z1j := okG k_Z1j e_Z1j hC_Z1j fun x hx => tf_of (w_Z1j_eq x _) (d_Z1j x _ hx rfl)
def C_Z1k:Cons := [(35,[],con_Z1)]
theorem hC_Z1k:ConsOk Try.prog C_Z1k := cC ok_Z1 <| ConsOk.nil
def w_Z1k (p0:Int) (K:Bool→Prop):Prop := (K (s_Z1 p0 zz0 (10:Int)))
theorem w_Z1k_eq (p0:Int) (K:Bool→Prop):tfn F_Z1k A_Z1k C_Z1k P_Z1k R_Z1k p0 K = w_Z1k p0 K := by kernel_rfl
def s_Z1k (p0:Int):Bool := (s_Z1 p0 (0:Int) (10:Int))
abbrev pre_Z1k (_p0:Int):List Prop := []
theorem d_Z1k (p0:Int) (K:Bool→Prop) (_hp:∀ p∈pre_Z1k p0,p) (h:K (s_Z1k p0)):w_Z1k p0 K := by
 unfold w_Z1k
 unfold s_Z1k at h
 exact h
abbrev con_Z1k:Con := ⟨P_Z1k,R_Z1k,fun x => pre_Z1k x,fun x => s_Z1k x⟩
theorem ok_Z1k:ConOk Try.prog 82 con_Z1k := okG k_Z1k e_Z1k hC_Z1k fun x hx => tf_of (w_Z1k_eq x _) (d_Z1k x _ hx rfl)
def C_Z4:Cons := [(81,[],con_Z1j),(82,[],con_Z1k)]
theorem hC_Z4:ConsOk Try.prog C_Z4 := cC ok_Z1j <| cC ok_Z1k <| ConsOk.nil
abbrev q0_Z4 (p0:gC) (y1:Int) := (!(s_Z1 (p0.getD y1.toNat (zz0,zz0)).1 zz1 (20:Int)))
def w_Z4 (p0:gC) (K:(Int×Int)→Prop):Prop := (((((p0.length:Int) == zz0)=true) →(K (zz0,(10:Int)))) ∧((((p0.length:Int) == zz0)=false) →((((decide ((p0.length:Int) > 4))=true) →(K (zz0,(8:Int)))) ∧(((decide ((p0.length:Int) > 4))=false) →(∃ n0,(loopP (fun (y1:Int) k2 => ((((decide (y1 < (p0.length:Int)))=true) →((zz0≤y1) ∧((y1 < (p0.length:Int)) ∧((((q0_Z4 p0 y1)=false) →((q0_Z4 p0 y1)=(q0_Z4 p0 y1))) ∧((((q0_Z4 p0 y1)=false) →((q0_Z4 p0 y1)=(q0_Z4 p0 y1))) ∧((((q0_Z4 p0 y1)=false) →((q0_Z4 p0 y1)=(q0_Z4 p0 y1))) ∧((((q0_Z4 p0 y1)=false) →(zz0≤y1)) ∧((((q0_Z4 p0 y1)=false) →(y1 < (p0.length:Int))) ∧((((q0_Z4 p0 y1)=false) →((q0_Z4 p0 y1)=(q0_Z4 p0 y1))) ∧((((q0_Z4 p0 y1)=false) →((q0_Z4 p0 y1)=(q0_Z4 p0 y1))) ∧((((q0_Z4 p0 y1)=false) →((q0_Z4 p0 y1)=(q0_Z4 p0 y1))) ∧((((q0_Z4 p0 y1)=false) →((q0_Z4 p0 y1)=(q0_Z4 p0 y1))) ∧(((q0_Z4 p0 y1)=(q0_Z4 p0 y1)) ∧((((cond (q0_Z4 p0 y1) true (!(s_Z1 (p0.getD y1.toNat (zz0,zz0)).2 zz0 (10:Int))))=true) →(K (y1,zz2))) ∧(((cond (q0_Z4 p0 y1) true (!(s_Z1 (p0.getD y1.toNat (zz0,zz0)).2 zz0 (10:Int))))=false) →((((y1 == (wi ((p0.length:Int) - zz1)))=true) →((y1 == (wi ((p0.length:Int) - zz1)))=(y1 == (wi ((p0.length:Int) - zz1))))) ∧((((y1 == (wi ((p0.length:Int) - zz1)))=true) →((y1 == (wi ((p0.length:Int) - zz1)))=(y1 == (wi ((p0.length:Int) - zz1))))) ∧((((y1 == (wi ((p0.length:Int) - zz1)))=true) →((y1 == (wi ((p0.length:Int) - zz1)))=(y1 == (wi ((p0.length:Int) - zz1))))) ∧((((y1 == (wi ((p0.length:Int) - zz1)))=true) →(zz0≤y1)) ∧((((y1 == (wi ((p0.length:Int) - zz1)))=true) →(y1 < (p0.length:Int))) ∧((((y1 == (wi ((p0.length:Int) - zz1)))=true) →((y1 == (wi ((p0.length:Int) - zz1)))=(y1 == (wi ((p0.length:Int) - zz1))))) ∧((((y1 == (wi ((p0.length:Int) - zz1)))=true) →((y1 == (wi ((p0.length:Int) - zz1)))=(y1 == (wi ((p0.length:Int) - zz1))))) ∧((((y1 == (wi ((p0.length:Int) - zz1)))=true) →((y1 == (wi ((p0.length:Int) - zz1)))=(y1 == (wi ((p0.length:Int) - zz1))))) ∧(((y1 == (wi ((p0.length:Int) - zz1)))=(y1 == (wi ((p0.length:Int) - zz1)))) ∧((((cond (y1 == (wi ((p0.length:Int) - zz1))) ((p0.getD y1.toNat (zz0,zz0)).2 != zz0) false)=true) →(K (y1,zz3))) ∧(((cond (y1 == (wi ((p0.length:Int) - zz1))) ((p0.getD y1.toNat (zz0,zz0)).2 != zz0) false)=false) →(k2 (wi (y1 + zz1))))))))))))))))))))))))))))) ∧(((decide (y1 < (p0.length:Int)))=false) →(K (zz0,zz0))))) n0 zz0))))))
theorem w_Z4_eq (p0:gC) (K:(Int×Int)→Prop):tfn F_Z4 A_Z4 C_Z4 P_Z4 R_Z4 p0 K = w_Z4 p0 K := by kernel_rfl
def st_Z4_0 (p0:gC) (y2:Int):Int ⊕ (Int×Int) := (cond (decide (y2 < (p0.length:Int))) (cond (cond (!(s_Z1 (p0.getD y2.toNat (0,0)).1 (1:Int) (20:Int))) true (!(s_Z1 (p0.getD y2.toNat (0,0)).2 (0:Int) (10:Int)))) (Sum.inr (y2,(2:Int))) (cond (cond (y2 == (IntKind.i64.wrap ((p0.length:Int) - 1))) ((p0.getD y2.toNat (0,0)).2 != 0) false) (Sum.inr (y2,(3:Int))) (Sum.inl (IntKind.i64.wrap (y2 + 1))))) (Sum.inr (0,0)))
abbrev sp_Z4_0 (p0:gC) (y2:Int):List Prop := [(((decide (y2 < (p0.length:Int)))=true)→((0:Int)≤y2)),(((decide (y2 < (p0.length:Int)))=true)→(y2 < (p0.length:Int))),(((decide (y2 < (p0.length:Int)))=true)→(((!(s_Z1 (p0.getD y2.toNat (0,0)).1 (1:Int) (20:Int)))=false)→((0:Int)≤y2))),(((decide (y2 < (p0.length:Int)))=true)→(((!(s_Z1 (p0.getD y2.toNat (0,0)).1 (1:Int) (20:Int)))=false)→(y2 < (p0.length:Int)))),(((decide (y2 < (p0.length:Int)))=true)→(((cond (!(s_Z1 (p0.getD y2.toNat (0,0)).1 (1:Int) (20:Int))) true (!(s_Z1 (p0.getD y2.toNat (0,0)).2 (0:Int) (10:Int))))=false)→(((y2 == (IntKind.i64.wrap ((p0.length:Int) - 1)))=true)→((0:Int)≤y2)))),(((decide (y2 < (p0.length:Int)))=true)→(((cond (!(s_Z1 (p0.getD y2.toNat (0,0)).1 (1:Int) (20:Int))) true (!(s_Z1 (p0.getD y2.toNat (0,0)).2 (0:Int) (10:Int))))=false)→(((y2 == (IntKind.i64.wrap ((p0.length:Int) - 1)))=true)→(y2 < (p0.length:Int)))))]
def s_Z4 (p0:gC):(Int×Int) := (cond ((p0.length:Int) == 0) ((0:Int),(10:Int)) (cond (decide ((p0.length:Int) > 4)) ((0:Int),(8:Int)) (lpv (0,0) (st_Z4_0 p0) (0:Int))))
abbrev pre_Z4 (p0:gC):List Prop := [((((p0.length:Int) == 0)=false)→(((decide ((p0.length:Int) > 4))=false)→(OkL (st_Z4_0 p0) (sp_Z4_0 p0) (0:Int))))]
theorem d_Z4 (p0:gC) (K:(Int×Int)→Prop) (hp:∀ p∈pre_Z4 p0,p) (h:K (s_Z4 p0)):w_Z4 p0 K := by
 unfold w_Z4
 unfold s_Z4 at h
 obtain ⟨hp0,_⟩ := conj_of hp
 exact (br' h (fun e0 h => h)
  (fun e0 h => (br' h (fun e1 h => h)
  (fun e1 h => (loop_gen (hp0 e0 e1) h (fun y2 k2 hp h => by
 unfold st_Z4_0 at h; obtain ⟨hp0,hp1,hp2,hp3,hp4,hp5,_⟩ := conj_of hp
 exact (br' h (fun e3 h => ⟨(hp0 e3),(hp1 e3),rf,rf,rf,(hp2 e3),(hp3 e3),rf,rf,rf,rf,rfl,(br' h (fun e4 h => h)
  (fun e4 h => ⟨rf,rf,rf,(hp4 e3 e4),(hp5 e3 e4),rf,rf,rf,rfl,(br' h (fun e5 h => h)
  (fun e5 h => h))⟩))⟩)
  (fun e3 h => h))))))))
/-- What is wrong with a layer; with layers. -/
def v_cm1 (n:Int) (i:Int) (x:gG):Option (Int×Int) := cond (cond (s_Z1 x.1 1 20) (s_Z1 x.2 0 10) false) (cond (cond (i == n - 1) (x.2 == 0) true) none (some (i,3))) (some (i,2))
def v_cm (l:gC):Int×Int := cond ((l.length:Int) == 0) (0,10) (cond (decide ((l.length:Int) > 4)) (0,8) (v_scan (v_cm1 l.length) (0,0) 0 l))
theorem l_Z4_0 (p0:gC) (hl:p0.length≤4):OkL (st_Z4_0 p0) (sp_Z4_0 p0) 0∧lpv ((0,0):Int×Int) (st_Z4_0 p0) 0 = v_scan (v_cm1 p0.length) (0,0) 0 p0 := by
 refine scan_is p0 (0,0) (v_cm1 p0.length) ((0,0):Int×Int) (lenOk_le hl (by decide)) ?_ ?_
 ·refine ⟨by simp only [sp_Z4_0,fM,decide_eq_true_eq]; simp,by simp [st_Z4_0]⟩
 ·intro j hj
  have hj' : (j:Int) < p0.length := by omega
  refine ⟨by simp only [sp_Z4_0,fM,decide_eq_true_eq,Int.toNat_natCast]; simp <;> omega,?_⟩
  simp only [st_Z4_0,hj',decide_true,Int.toNat_natCast,cond_true,wrap_nat (show (j:Int)≤9223372036854775806 by omega),v_cm1]
  rw [wrap_id (n := (p0.length:Int) - 1) (by omega) (by omega)]
  rcases int0 (p0.getD j (0,0)).2 with ⟨_,e1,e2⟩ | ⟨_,e1,e2⟩ <;> rw [e1,e2] <;> cases s_Z1 (p0.getD j (0,0)).1 1 20 <;> cases s_Z1 (p0.getD j (0,0)).2 0 10 <;> cases ((j:Int) == (p0.length:Int) - 1) <;> rfl
abbrev t_Z4 (p0:gC):Int×Int := v_cm p0
abbrev qre_Z4 (_p0:gC):List Prop := []
theorem pp_Z4 (p0:gC) (_hq:∀ p∈qre_Z4 p0,p):∀ p∈pre_Z4 p0,p := by
 simp only [pre_Z4,fM]
 exact ⟨fun _ h => (l_Z4_0 p0 (by have := of_decide_eq_false h; omega)).1,by simp⟩
theorem tt_Z4 (p0:gC) (_hq:∀ p∈qre_Z4 p0,p):s_Z4 p0 = t_Z4 p0 := by
 unfold s_Z4 t_Z4 v_cm
 cases h:decide ((p0.length:Int) > 4)
 ·rw [(l_Z4_0 p0 (by have := of_decide_eq_false h; omega)).2]
 ·rfl

abbrev con_Z4:Con := ⟨P_Z4,R_Z4,fun x => qre_Z4 x,fun x => t_Z4 x⟩
theorem ok_Z4:ConOk Try.prog 17 con_Z4 := okG k_Z4 e_Z4 hC_Z4 fun x hx => tf_of (w_Z4_eq x _) (d_Z4 x _ (pp_Z4 x hx) (tt_Z4 x hx))
def C_Zb:Cons := []
theorem hC_Zb:ConsOk Try.prog C_Zb := ConsOk.nil
def w_Zb (p0:Int) (p1:Int) (p2:Int) (K:Bool→Prop):Prop := ((((decide (p1≤p0))=true) →((decide (p1≤p0))=(decide (p1≤p0)))) ∧((((decide (p1≤p0))=true) →((decide (p1≤p0))=(decide (p1≤p0)))) ∧(((decide (p1≤p0))=(decide (p1≤p0))) ∧(K (cond (decide (p1≤p0)) (decide (p0≤p2)) false)))))
theorem w_Zb_eq (p0:Int) (p1:Int) (p2:Int) (K:Bool→Prop):tfn F_Zb A_Zb C_Zb P_Zb R_Zb (p0,p1,p2) K = w_Zb p0 p1 p2 K := by kernel_rfl
def s_Zb (p0:Int) (p1:Int) (p2:Int):Bool := (cond (decide (p1≤p0)) (decide (p0≤p2)) false)
abbrev pre_Zb (_p0:Int) (_p1:Int) (_p2:Int):List Prop := []
theorem d_Zb (p0:Int) (p1:Int) (p2:Int) (K:Bool→Prop) (_hp:∀ p∈pre_Zb p0 p1 p2,p) (h:K (s_Zb p0 p1 p2)):w_Zb p0 p1 p2 K := by
 unfold w_Zb
 unfold s_Zb at h
 exact ⟨rf,rf,rfl,h⟩
abbrev con_Zb:Con := ⟨P_Zb,R_Zb,fun x => pre_Zb x.1 x.2.1 x.2.2,fun x => s_Zb x.1 x.2.1 x.2.2⟩
theorem ok_Zb:ConOk Try.prog 95 con_Zb := okG k_Zb e_Zb hC_Zb fun x hx => tf_of (w_Zb_eq x.1 x.2.1 x.2.2 _) (d_Zb x.1 x.2.1 x.2.2 _ hx rfl)
theorem tx_withinG {n lo hi:Int}:s_Zb n lo hi = s_Z1 n lo hi := rfl
def C_Z8:Cons := []
theorem hC_Z8:ConsOk Try.prog C_Z8 := ConsOk.nil
def w_Z8 (p0:Bool) (p1:Int) (K:Int→Prop):Prop := (((p0 = true) →(K zz0)) ∧((p0 = false) →(K p1)))
theorem w_Z8_eq (p0:Bool) (p1:Int) (K:Int→Prop):tfn F_Z8 A_Z8 C_Z8 P_Z8 R_Z8 (p0,p1) K = w_Z8 p0 p1 K := by kernel_rfl
def s_Z8 (p0:Bool) (p1:Int):Int := (cond p0 (0:Int) p1)
abbrev pre_Z8 (_p0:Bool) (_p1:Int):List Prop := []
theorem d_Z8 (p0:Bool) (p1:Int) (K:Int→Prop) (_hp:∀ p∈pre_Z8 p0 p1,p) (h:K (s_Z8 p0 p1)):w_Z8 p0 p1 K := by
 unfold w_Z8
 unfold s_Z8 at h
 exact (br' h (fun e0 h => h)
  (fun e0 h => h))
abbrev con_Z8:Con := ⟨P_Z8,R_Z8,fun x => pre_Z8 x.1 x.2,fun x => s_Z8 x.1 x.2⟩
theorem ok_Z8:ConOk Try.prog 74 con_Z8 := okG k_Z8 e_Z8 hC_Z8 fun x hx => tf_of (w_Z8_eq x.1 x.2 _) (d_Z8 x.1 x.2 _ hx rfl)
def C_Zi:Cons := []
theorem hC_Zi:ConsOk Try.prog C_Zi := ConsOk.nil
def w_Zi (p0:gF) (K:Int→Prop):Prop := (∃ n0,(loopP (fun (y1:Int) k2 => ((((decide (y1 < (p0.length:Int)))=true) →((zz0≤y1) ∧((y1 < (p0.length:Int)) ∧(((((p0.getD y1.toNat zz0) != 0)=true) →(K (p0.getD y1.toNat zz0))) ∧((((p0.getD y1.toNat zz0) != 0)=false) →(k2 (IntKind.i64.wrap (y1 + 1)))))))) ∧(((decide (y1 < (p0.length:Int)))=false) →(K zz0)))) n0 zz0))
theorem w_Zi_eq (p0:gF) (K:Int→Prop):tfn F_Zi A_Zi C_Zi P_Zi R_Zi p0 K = w_Zi p0 K := by kernel_rfl
def st_Zi_0 (p0:gF) (y0:Int):Int ⊕ Int := (cond (decide (y0 < (p0.length:Int))) (cond ((p0.getD y0.toNat (0:Int)) != 0) (Sum.inr (p0.getD y0.toNat (0:Int))) (Sum.inl (IntKind.i64.wrap (y0 + 1)))) (Sum.inr (0:Int)))
abbrev sp_Zi_0 (p0:gF) (y0:Int):List Prop := [(((decide (y0 < (p0.length:Int)))=true)→((0:Int)≤y0)),(((decide (y0 < (p0.length:Int)))=true)→(y0 < (p0.length:Int)))]
def s_Zi (p0:gF):Int := (lpv (0:Int) (st_Zi_0 p0) (0:Int))
abbrev pre_Zi (p0:gF):List Prop := [(OkL (st_Zi_0 p0) (sp_Zi_0 p0) (0:Int))]
theorem d_Zi (p0:gF) (K:Int→Prop) (hp:∀ p∈pre_Zi p0,p) (h:K (s_Zi p0)):w_Zi p0 K := by
 unfold w_Zi
 unfold s_Zi at h
 obtain ⟨hp0,_⟩ := conj_of hp
 exact (loop_gen (hp0) h (fun y0 k0 hp h => by
 unfold st_Zi_0 at h; obtain ⟨hp0,hp1,_⟩ := conj_of hp
 exact (br' h (fun e1 h => ⟨(hp0 e1),(hp1 e1),(br' h (fun e2 h => h)
  (fun e2 h => h))⟩)
  (fun e1 h => h))))
theorem l_Zi_0 (p0:gF) (hl:lenOk p0):OkL (st_Zi_0 p0) (sp_Zi_0 p0) 0∧lpv (0:Int) (st_Zi_0 p0) 0 = v_scan (fun _ x => cond (x != 0) (some x) none) (0:Int) 0 p0 := by
 refine scan_is p0 0 (fun _ x => cond (x != 0) (some x) none) (0:Int) hl ?_ ?_
 ·refine ⟨by simp only [sp_Zi_0,fM,decide_eq_true_eq]; simp,by simp [st_Zi_0]⟩
 ·intro j hj
  have hj' : (j:Int) < p0.length := by omega
  refine ⟨by simp only [sp_Zi_0,fM,decide_eq_true_eq,Int.toNat_natCast]; simp <;> omega,?_⟩
  simp only [st_Zi_0,hj',decide_true,Int.toNat_natCast,cond_true,wrap_nat (show (j:Int)≤9223372036854775806 by unfold lenOk at hl; omega)]
  generalize p0.getD j 0 = x
  cases (x != 0) <;> rfl
abbrev t_Zi (p0:gF):Int := v_first p0
abbrev qre_Zi (p0:gF):List Prop := [lenOk p0]
theorem pp_Zi (p0:gF) (hq:∀ p∈qre_Zi p0,p):∀ p∈pre_Zi p0,p := by
 simp only [pre_Zi,fM]
 exact ⟨(l_Zi_0 p0 (conj_of hq).1).1,by simp⟩
theorem tt_Zi (p0:gF) (hq:∀ p∈qre_Zi p0,p):s_Zi p0 = t_Zi p0 := by
 exact (l_Zi_0 p0 (conj_of hq).1).2.trans (v_first_scan p0 0)

abbrev con_Zi:Con := ⟨P_Zi,R_Zi,fun x => qre_Zi x,fun x => t_Zi x⟩
theorem ok_Zi:ConOk Try.prog 73 con_Zi := okG k_Zi e_Zi hC_Zi fun x hx => tf_of (w_Zi_eq x _) (d_Zi x _ (pp_Zi x hx) (tt_Zi x hx))
def C_Z1a:Cons := [(95,[],con_Zb)]
theorem hC_Z1a:ConsOk Try.prog C_Z1a := cC ok_Zb <| ConsOk.nil
def w_Z1a (p0:Int) (K:Bool→Prop):Prop := (K (s_Zb p0 zz1 (20:Int)))
theorem w_Z1a_eq (p0:Int) (K:Bool→Prop):tfn F_Z1a A_Z1a C_Z1a P_Z1a R_Z1a p0 K = w_Z1a p0 K := by kernel_rfl
def s_Z1a (p0:Int):Bool := (s_Zb p0 (1:Int) (20:Int))
abbrev pre_Z1a (_p0:Int):List Prop := []
theorem d_Z1a (p0:Int) (K:Bool→Prop) (_hp:∀ p∈pre_Z1a p0,p) (h:K (s_Z1a p0)):w_Z1a p0 K := by
 unfold w_Z1a
 unfold s_Z1a at h
 exact h
abbrev con_Z1a:Con := ⟨P_Z1a,R_Z1a,fun x => pre_Z1a x,fun x => s_Z1a x⟩
theorem ok_Z1a:ConOk Try.prog 75 con_Z1a := okG k_Z1a e_Z1a hC_Z1a fun x hx => tf_of (w_Z1a_eq x _) (d_Z1a x _ hx rfl)
def C_Z1b:Cons := [(95,[],con_Zb)]
theorem hC_Z1b:ConsOk Try.prog C_Z1b := cC ok_Zb <| ConsOk.nil
def w_Z1b (p0:Int) (K:Bool→Prop):Prop := (K (s_Zb p0 zz0 (10:Int)))
theorem w_Z1b_eq (p0:Int) (K:Bool→Prop):tfn F_Z1b A_Z1b C_Z1b P_Z1b R_Z1b p0 K = w_Z1b p0 K := by kernel_rfl
def s_Z1b (p0:Int):Bool := (s_Zb p0 (0:Int) (10:Int))
abbrev pre_Z1b (_p0:Int):List Prop := []
theorem d_Z1b (p0:Int) (K:Bool→Prop) (_hp:∀ p∈pre_Z1b p0,p) (h:K (s_Z1b p0)):w_Z1b p0 K := by
 unfold w_Z1b
 unfold s_Z1b at h
 exact h
abbrev con_Z1b:Con := ⟨P_Z1b,R_Z1b,fun x => pre_Z1b x,fun x => s_Z1b x⟩
theorem ok_Z1b:ConOk Try.prog 76 con_Z1b := okG k_Z1b e_Z1b hC_Z1b fun x hx => tf_of (w_Z1b_eq x _) (d_Z1b x _ hx rfl)
def C_Z6:Cons := [(74,[],con_Z8),(73,[],con_Zi),(75,[],con_Z1a),(76,[],con_Z1b)]
theorem hC_Z6:ConsOk Try.prog C_Z6 := cC ok_Z8 <| cC ok_Zi <| cC ok_Z1a <| cC ok_Z1b <| ConsOk.nil
abbrev q0_Z6 (p0:gC) (y1:Int) := (s_Zb (p0.getD y1.toNat (zz0,zz0)).1 zz1 (20:Int))
abbrev q1_Z6 (p0:gC) := ((s_Z8 (decide ((p0.length:Int) > zz0)) (10:Int)) :: ((s_Z8 (decide ((p0.length:Int)≤4)) (8:Int)) :: ([]:List Int)))
abbrev q2_Z6 (p0:gC) (y1:Int) := (s_Z8 (cond (q0_Z6 p0 y1) (s_Zb (p0.getD y1.toNat (zz0,zz0)).2 zz0 (10:Int)) false) zz2)
def w_Z6 (p0:gC) (K:(Int×Int)→Prop):Prop := ((lenOk (q1_Z6 p0)) ∧(((((v_first (q1_Z6 p0)) != zz0)=true) →(K (zz0,(v_first (q1_Z6 p0))))) ∧((((v_first (q1_Z6 p0)) != zz0)=false) →(∃ n0,(loopP (fun (y1:Int) k2 => ((((decide (y1 < (p0.length:Int)))=true) →((zz0≤y1) ∧((y1 < (p0.length:Int)) ∧((((q0_Z6 p0 y1)=true) →((q0_Z6 p0 y1)=(q0_Z6 p0 y1))) ∧((((q0_Z6 p0 y1)=true) →((q0_Z6 p0 y1)=(q0_Z6 p0 y1))) ∧(((q0_Z6 p0 y1)=(q0_Z6 p0 y1)) ∧((((!(y1 == (wi ((p0.length:Int) - zz1))))=false) →((!(y1 == (wi ((p0.length:Int) - zz1))))=(!(y1 == (wi ((p0.length:Int) - zz1)))))) ∧((((!(y1 == (wi ((p0.length:Int) - zz1))))=false) →((!(y1 == (wi ((p0.length:Int) - zz1))))=(!(y1 == (wi ((p0.length:Int) - zz1)))))) ∧(((!(y1 == (wi ((p0.length:Int) - zz1))))=(!(y1 == (wi ((p0.length:Int) - zz1))))) ∧((lenOk ((q2_Z6 p0 y1) :: ((s_Z8 (cond (!(y1 == (wi ((p0.length:Int) - zz1)))) true ((p0.getD y1.toNat (zz0,zz0)).2 == zz0)) zz3) :: ([]:List Int)))) ∧(((((v_first ((q2_Z6 p0 y1) :: ((s_Z8 (cond (!(y1 == (wi ((p0.length:Int) - zz1)))) true ((p0.getD y1.toNat (zz0,zz0)).2 == zz0)) zz3) :: ([]:List Int)))) != zz0)=true) →(K (y1,(v_first ((q2_Z6 p0 y1) :: ((s_Z8 (cond (!(y1 == (wi ((p0.length:Int) - zz1)))) true ((p0.getD y1.toNat (zz0,zz0)).2 == zz0)) zz3) :: ([]:List Int))))))) ∧((((v_first ((q2_Z6 p0 y1) :: ((s_Z8 (cond (!(y1 == (wi ((p0.length:Int) - zz1)))) true ((p0.getD y1.toNat (zz0,zz0)).2 == zz0)) zz3) :: ([]:List Int)))) != zz0)=false) →(k2 (wi (y1 + zz1))))))))))))))) ∧(((decide (y1 < (p0.length:Int)))=false) →(K (zz0,zz0))))) n0 zz0)))))
theorem w_Z6_eq (p0:gC) (K:(Int×Int)→Prop):tfn F_Z6 A_Z6 C_Z6 P_Z6 R_Z6 p0 K = w_Z6 p0 K := by kernel_rfl
def st_Z6_0 (p0:gC) (y1:Int):Int ⊕ (Int×Int) := (cond (decide (y1 < (p0.length:Int))) (cond ((v_first ((s_Z8 (cond (s_Zb (p0.getD y1.toNat (0,0)).1 (1:Int) (20:Int)) (s_Zb (p0.getD y1.toNat (0,0)).2 (0:Int) (10:Int)) false) (2:Int)) :: ((s_Z8 (cond (!(y1 == (IntKind.i64.wrap ((p0.length:Int) - 1)))) true ((p0.getD y1.toNat (0,0)).2 == 0)) (3:Int)) :: ([]:List Int)))) != 0) (Sum.inr (y1,(v_first ((s_Z8 (cond (s_Zb (p0.getD y1.toNat (0,0)).1 (1:Int) (20:Int)) (s_Zb (p0.getD y1.toNat (0,0)).2 (0:Int) (10:Int)) false) (2:Int)) :: ((s_Z8 (cond (!(y1 == (IntKind.i64.wrap ((p0.length:Int) - 1)))) true ((p0.getD y1.toNat (0,0)).2 == 0)) (3:Int)) :: ([]:List Int)))))) (Sum.inl (IntKind.i64.wrap (y1 + 1)))) (Sum.inr (0,0)))
abbrev sp_Z6_0 (p0:gC) (y1:Int):List Prop := [(((decide (y1 < (p0.length:Int)))=true)→((0:Int)≤y1)),(((decide (y1 < (p0.length:Int)))=true)→(y1 < (p0.length:Int)))]
def s_Z6 (p0:gC):(Int×Int) := (cond ((v_first ((s_Z8 (decide ((p0.length:Int) > 0)) (10:Int)) :: ((s_Z8 (decide ((p0.length:Int)≤4)) (8:Int)) :: ([]:List Int)))) != 0) ((0:Int),(v_first ((s_Z8 (decide ((p0.length:Int) > 0)) (10:Int)) :: ((s_Z8 (decide ((p0.length:Int)≤4)) (8:Int)) :: ([]:List Int))))) (lpv (0,0) (st_Z6_0 p0) (0:Int)))
abbrev pre_Z6 (p0:gC):List Prop := [((((v_first ((s_Z8 (decide ((p0.length:Int) > 0)) (10:Int)) :: ((s_Z8 (decide ((p0.length:Int)≤4)) (8:Int)) :: ([]:List Int)))) != 0)=false)→(OkL (st_Z6_0 p0) (sp_Z6_0 p0) (0:Int)))]
theorem d_Z6 (p0:gC) (K:(Int×Int)→Prop) (hp:∀ p∈pre_Z6 p0,p) (h:K (s_Z6 p0)):w_Z6 p0 K := by
 unfold w_Z6
 unfold s_Z6 at h
 obtain ⟨hp0,_⟩ := conj_of hp
 exact ⟨(lenOk_of 2 rfl (by decide)),(br' h (fun e0 h => h)
  (fun e0 h => (loop_gen (hp0 e0) h (fun y1 k1 hp h => by
 unfold st_Z6_0 at h; obtain ⟨hp0,hp1,_⟩ := conj_of hp
 exact (br' h (fun e2 h => ⟨(hp0 e2),(hp1 e2),rf,rf,rfl,rf,rf,rfl,(lenOk_of 2 rfl (by decide)),(br' h (fun e3 h => h)
  (fun e3 h => h))⟩)
  (fun e2 h => h))))))⟩
theorem l_Z6_0 (p0:gC) (hl:p0.length≤4):OkL (st_Z6_0 p0) (sp_Z6_0 p0) 0∧lpv ((0,0):Int×Int) (st_Z6_0 p0) 0 = v_scan (v_cm1 p0.length) (0,0) 0 p0 := by
 refine scan_is p0 (0,0) (v_cm1 p0.length) ((0,0):Int×Int) (lenOk_le hl (by decide)) ?_ ?_
 ·refine ⟨by simp only [sp_Z6_0,fM,decide_eq_true_eq]; simp,by simp [st_Z6_0]⟩
 ·intro j hj
  have hj' : (j:Int) < p0.length := by omega
  refine ⟨by simp only [sp_Z6_0,fM,decide_eq_true_eq,Int.toNat_natCast]; simp [lenOk] <;> omega,?_⟩
  simp only [st_Z6_0,hj',decide_true,Int.toNat_natCast,cond_true,wrap_nat (show (j:Int)≤9223372036854775806 by omega),v_cm1]
  rw [wrap_id (n := (p0.length:Int) - 1) (by omega) (by omega)]
  unfold s_Z8
  simp only [tx_withinG]
  cases s_Z1 (p0.getD j (0,0)).1 1 20 <;> cases s_Z1 (p0.getD j (0,0)).2 0 10 <;> cases ((j:Int) == (p0.length:Int) - 1) <;> cases ((p0.getD j (0,0)).2 == 0) <;> rfl
abbrev t_Z6 (p0:gC):Int×Int := v_cm p0
abbrev qre_Z6 (_p0:gC):List Prop := []
theorem tx_cmh {n:Int} (h:0≤n):v_first [s_Z8 (decide (n > 0)) 10,s_Z8 (decide (n≤4)) 8]=cond (n == 0) 10 (cond (decide (n > 4)) 8 0) := by
 unfold s_Z8
 rcases int0 n with ⟨h0,_,e0⟩ | ⟨h0,_,e0⟩
 ·subst h0; rfl
 ·rw [e0,decide_eq_true (show n > 0 by omega)]
  rcases dec0 (a := 4) (b := n) with ⟨_,_,_,e1,e2⟩ | ⟨_,_,_,e1,e2⟩ <;> rw [e1,e2] <;> rfl
theorem pp_Z6 (p0:gC) (_hq:∀ p∈qre_Z6 p0,p):∀ p∈pre_Z6 p0,p := by
 simp only [pre_Z6,fM]
 refine ⟨fun h => ?_,by simp⟩
 rw [tx_cmh (by omega)] at h
 refine (l_Z6_0 p0 ?_).1
 cases c:decide ((p0.length:Int) > 4)
 ·have := of_decide_eq_false c; omega
 ·rw [c] at h
  cases c2:((p0.length:Int) == 0) <;> rw [c2] at h <;> cases h
theorem tt_Z6 (p0:gC) (_hq:∀ p∈qre_Z6 p0,p):s_Z6 p0 = t_Z6 p0 := by
 unfold s_Z6 t_Z6 v_cm
 rw [tx_cmh (by omega)]
 cases h:decide ((p0.length:Int) > 4)
 ·rw [(l_Z6_0 p0 (by have := of_decide_eq_false h; omega)).2]
  cases ((p0.length:Int) == 0) <;> rfl
 ·cases ((p0.length:Int) == 0) <;> rfl

abbrev con_Z6:Con := ⟨P_Z6,R_Z6,fun x => qre_Z6 x,fun x => t_Z6 x⟩
theorem ok_Z6:ConOk Try.prog 14 con_Z6 := okG k_Z6 e_Z6 hC_Z6 fun x hx => tf_of (w_Z6_eq x _) (d_Z6 x _ (pp_Z6 x hx) (tt_Z6 x hx))
def C_Z1c:Cons := [(14,[],con_Z6)]
theorem hC_Z1c:ConsOk Try.prog C_Z1c := cC ok_Z6 <| ConsOk.nil
def w_Z1c (p0:gC) (K:Int→Prop):Prop := (K (v_cm p0).2)
theorem w_Z1c_eq (p0:gC) (K:Int→Prop):tfn F_Z1c A_Z1c C_Z1c P_Z1c R_Z1c p0 K = w_Z1c p0 K := by kernel_rfl
def s_Z1c (p0:gC):Int := (v_cm p0).2
abbrev pre_Z1c (_p0:gC):List Prop := []
theorem d_Z1c (p0:gC) (K:Int→Prop) (_hp:∀ p∈pre_Z1c p0,p) (h:K (s_Z1c p0)):w_Z1c p0 K := by
 unfold w_Z1c
 unfold s_Z1c at h
 exact h
abbrev con_Z1c:Con := ⟨P_Z1c,R_Z1c,fun x => pre_Z1c x,fun x => s_Z1c x⟩
theorem ok_Z1c:ConOk Try.prog 77 con_Z1c := okG k_Z1c e_Z1c hC_Z1c fun x hx => tf_of (w_Z1c_eq x _) (d_Z1c x _ hx rfl)
def C_Z1d:Cons := [(95,[],con_Zb),(74,[],con_Z8)]
theorem hC_Z1d:ConsOk Try.prog C_Z1d := cC ok_Zb <| cC ok_Z8 <| ConsOk.nil
def w_Z1d (p0:Int) (K:Int→Prop):Prop := (K (s_Z8 (s_Zb p0 zz1 (20:Int)) (2:Int)))
theorem w_Z1d_eq (p0:Int) (K:Int→Prop):tfn F_Z1d A_Z1d C_Z1d P_Z1d R_Z1d p0 K = w_Z1d p0 K := by kernel_rfl
def s_Z1d (p0:Int):Int := (s_Z8 (s_Zb p0 (1:Int) (20:Int)) (2:Int))
abbrev pre_Z1d (_p0:Int):List Prop := []
theorem d_Z1d (p0:Int) (K:Int→Prop) (_hp:∀ p∈pre_Z1d p0,p) (h:K (s_Z1d p0)):w_Z1d p0 K := by
 unfold w_Z1d
 unfold s_Z1d at h
 exact h
abbrev con_Z1d:Con := ⟨P_Z1d,R_Z1d,fun x => pre_Z1d x,fun x => s_Z1d x⟩
theorem ok_Z1d:ConOk Try.prog 78 con_Z1d := okG k_Z1d e_Z1d hC_Z1d fun x hx => tf_of (w_Z1d_eq x _) (d_Z1d x _ hx rfl)
def C_Z1e:Cons := []
theorem hC_Z1e:ConsOk Try.prog C_Z1e := ConsOk.nil
def w_Z1e (p0:gC) (K:((List (Int×Int))×PUnit)→Prop):Prop := (K (p0,()))
theorem w_Z1e_eq (p0:gC) (K:((List (Int×Int))×PUnit)→Prop):tfn F_Z1e A_Z1e C_Z1e P_Z1e R_Z1e p0 K = w_Z1e p0 K := by kernel_rfl
def s_Z1e (p0:gC):((List (Int×Int))×PUnit) := (p0,())
abbrev pre_Z1e (_p0:gC):List Prop := []
theorem d_Z1e (p0:gC) (K:((List (Int×Int))×PUnit)→Prop) (_hp:∀ p∈pre_Z1e p0,p) (h:K (s_Z1e p0)):w_Z1e p0 K := by
 unfold w_Z1e
 unfold s_Z1e at h
 exact h
abbrev con_Z1e:Con := ⟨P_Z1e,R_Z1e,fun x => pre_Z1e x,fun x => s_Z1e x⟩
theorem ok_Z1e:ConOk Try.prog 125 con_Z1e := okG k_Z1e e_Z1e hC_Z1e fun x hx => tf_of (w_Z1e_eq x _) (d_Z1e x _ hx rfl)
abbrev con_Z1n:Con := ⟨.fn 144 [.sl (.pr (.int .i64) (.int .i64))] :: .one (.int .i64) :: [.agg (.pr (.int .i64) (.int .i64))],[.one (.sl (tyPs (.one (.int .i64) :: [.agg (.pr (.int .i64) (.int .i64))])))],fun x => [x.1.1.length≤1000000],fun x => v_bwd 0 x.1.1⟩
theorem ok_Z1n:ConIOk Try.prog 144 con_Z1n := by
 refine ⟨rfl,k_Z1n,rfl,fun x hx => ?_⟩
 obtain ⟨h1,_⟩ := conj_of hx
 exact it_bwd (c := 2) (Ty.enc (.pr (.int .i64) (.int .i64))) e_Z1n (fun _ => rfl) x.1 false (Nat.le_trans h1 (by decide))
def C_Zs:Cons := [(145,[],con_Zm)]
theorem hC_Zs:ConsOk Try.prog C_Zs := cC ok_Zm <| ConsOk.nil
def w_Zs (p0:Int) (p1:Int) (K:(Int×Int)→Prop):Prop := (((zz0≤p0) ∧((zz0 < p1) ∧(p1≤9223372036854775807))) ∧(((v_gcd p0 p1) ≠ zz0) ∧(((v_gcd p0 p1) ≠ zz0) ∧(K ((IntKind.i64.wrap (Int.tdiv p0 (v_gcd p0 p1))),(IntKind.i64.wrap (Int.tdiv p1 (v_gcd p0 p1))))))))
theorem w_Zs_eq (p0:Int) (p1:Int) (K:(Int×Int)→Prop):tfn F_Zs A_Zs C_Zs P_Zs R_Zs (p0,p1) K = w_Zs p0 p1 K := by kernel_rfl
def s_Zs (p0:Int) (p1:Int):(Int×Int) := ((IntKind.i64.wrap (Int.tdiv p0 (v_gcd p0 p1))),(IntKind.i64.wrap (Int.tdiv p1 (v_gcd p0 p1))))
abbrev pre_Zs (p0:Int) (p1:Int):List Prop := [(((0:Int)≤p0)∧(((0:Int) < p1)∧(p1≤9223372036854775807))),((v_gcd p0 p1) ≠ (0:Int))]
theorem d_Zs (p0:Int) (p1:Int) (K:(Int×Int)→Prop) (hp:∀ p∈pre_Zs p0 p1,p) (h:K (s_Zs p0 p1)):w_Zs p0 p1 K := by
 unfold w_Zs
 unfold s_Zs at h
 obtain ⟨hp0,hp1,_⟩ := conj_of hp
 exact ⟨(hp0),(hp1),(hp1),h⟩
/-- A quotient of two numbers,in lowest terms. -/
def v_redu (a b:Int):Int×Int := v_frac ((a:Rat) / (b:Rat))
abbrev t_Zs (p0 p1:Int):Int×Int := v_redu p0 p1
abbrev qre_Zs (p0 p1:Int):List Prop := [(0≤p0∧p0≤9223372036854775807)∧0 < p1∧p1≤9223372036854775807]
theorem pp_Zs (p0 p1:Int) (hq:∀ p∈qre_Zs p0 p1,p):∀ p∈pre_Zs p0 p1,p := by
 obtain ⟨h1,h2,h3⟩ := (conj_of hq).1
 simp only [pre_Zs,fM]
 have := v_gcd_pos (a := p0) (b := p1) (by omega)
 exact ⟨⟨h1.1,h2,h3⟩,by omega,by simp⟩
theorem tt_Zs (p0 p1:Int) (hq:∀ p∈qre_Zs p0 p1,p):s_Zs p0 p1 = t_Zs p0 p1 := by
 obtain ⟨h1,h2,h3⟩ := (conj_of hq).1
 unfold s_Zs t_Zs v_redu
 rw [← v_low_frac h2]
 unfold v_low
 have hg := v_gcd_pos (a := p0) (b := p1) (by omega)
 simp only
 rw [Int.tdiv_eq_ediv_of_dvd (v_gcd_dvd_left _ _),Int.tdiv_eq_ediv_of_dvd (v_gcd_dvd_right _ _)]
 have b1 := Int.ediv_nonneg h1.1 (show 0≤v_gcd p0 p1 by omega)
 have b2 := Int.ediv_le_self (v_gcd p0 p1) h1.1
 have b3 := Int.ediv_nonneg (show 0≤p1 by omega) (show 0≤v_gcd p0 p1 by omega)
 have b4 := Int.ediv_le_self (v_gcd p0 p1) (show 0≤p1 by omega)
 rw [wrap_id (by omega) (by omega),wrap_id (by omega) (by omega)]

abbrev con_Zs:Con := ⟨P_Zs,R_Zs,fun x => qre_Zs x.1 x.2,fun x => t_Zs x.1 x.2⟩
theorem ok_Zs:ConOk Try.prog 126 con_Zs := okG k_Zs e_Zs hC_Zs fun x hx => tf_of (w_Zs_eq x.1 x.2 _) (d_Zs x.1 x.2 _ (pp_Zs x.1 x.2 hx) (tt_Zs x.1 x.2 hx))
def C_Zf:Cons := [(125,[],con_Z1e),(144,itMark,con_Z1n),(126,[],con_Zs)]
theorem hC_Zf:ConsOk Try.prog C_Zf := cC ok_Z1e <| ConsOk.consI ok_Z1n <| cC ok_Zs <| ConsOk.nil
def w_Zf (p0:gC) (p1:Int) (K:(Int×Int)→Prop):Prop := ((p0.length≤1000000) ∧(RngP (fun (y0:gG) (z1:(Int×(Int×Int))) k2 => ((((z1.1 == (IntKind.i64.wrap ((p0.length:Int) - 1)))=true) →(k2 (z1.2.1,zz1))) ∧(((z1.1 == (IntKind.i64.wrap ((p0.length:Int) - 1)))=false) →((((zz0≤(IntKind.i64.wrap (z1.2.1 * (IntKind.i64.wrap ((IntKind.i64.wrap (y0.1 * (IntKind.i64.wrap (z1.2.2 + p1)))) + (IntKind.i64.wrap ((IntKind.i64.wrap (z1.2.1 * z1.2.2)) * y0.2))))))) ∧((IntKind.i64.wrap (z1.2.1 * (IntKind.i64.wrap ((IntKind.i64.wrap (y0.1 * (IntKind.i64.wrap (z1.2.2 + p1)))) + (IntKind.i64.wrap ((IntKind.i64.wrap (z1.2.1 * z1.2.2)) * y0.2))))))≤9223372036854775807)) ∧((zz0 < (IntKind.i64.wrap ((IntKind.i64.wrap ((IntKind.i64.wrap (z1.2.1 * y0.2)) * (IntKind.i64.wrap (z1.2.2 + p1)))) + (IntKind.i64.wrap (y0.1 * z1.2.2))))) ∧((IntKind.i64.wrap ((IntKind.i64.wrap ((IntKind.i64.wrap (z1.2.1 * y0.2)) * (IntKind.i64.wrap (z1.2.2 + p1)))) + (IntKind.i64.wrap (y0.1 * z1.2.2))))≤9223372036854775807))) ∧(k2 (v_redu (IntKind.i64.wrap (z1.2.1 * (IntKind.i64.wrap ((IntKind.i64.wrap (y0.1 * (IntKind.i64.wrap (z1.2.2 + p1)))) + (IntKind.i64.wrap ((IntKind.i64.wrap (z1.2.1 * z1.2.2)) * y0.2)))))) (IntKind.i64.wrap ((IntKind.i64.wrap ((IntKind.i64.wrap (z1.2.1 * y0.2)) * (IntKind.i64.wrap (z1.2.2 + p1)))) + (IntKind.i64.wrap (y0.1 * z1.2.2)))))))))) (fun (s3:gG) => (K s3)) (v_bwd zz0 p0) (zz0,zz0)))
theorem w_Zf_eq (p0:gC) (p1:Int) (K:(Int×Int)→Prop):tfn F_Zf A_Zf C_Zf P_Zf R_Zf (p0,p1) K = w_Zf p0 p1 K := by kernel_rfl
def st_Zf_0 (p0:gC) (p1:Int) (y0:gG) (z0:(Int×(Int×Int))):(Int×Int) ⊕ (Int×Int) := (cond (z0.1 == (IntKind.i64.wrap ((p0.length:Int) - 1))) (Sum.inl (z0.2.1,(1:Int))) (Sum.inl (v_redu (IntKind.i64.wrap (z0.2.1 * (IntKind.i64.wrap ((IntKind.i64.wrap (y0.1 * (IntKind.i64.wrap (z0.2.2 + p1)))) + (IntKind.i64.wrap ((IntKind.i64.wrap (z0.2.1 * z0.2.2)) * y0.2)))))) (IntKind.i64.wrap ((IntKind.i64.wrap ((IntKind.i64.wrap (z0.2.1 * y0.2)) * (IntKind.i64.wrap (z0.2.2 + p1)))) + (IntKind.i64.wrap (y0.1 * z0.2.2)))))))
abbrev sp_Zf_0 (p0:gC) (p1:Int) (y0:gG) (z0:(Int×(Int×Int))):List Prop := [(((z0.1 == (IntKind.i64.wrap ((p0.length:Int) - 1)))=false)→((((0:Int)≤(IntKind.i64.wrap (z0.2.1 * (IntKind.i64.wrap ((IntKind.i64.wrap (y0.1 * (IntKind.i64.wrap (z0.2.2 + p1)))) + (IntKind.i64.wrap ((IntKind.i64.wrap (z0.2.1 * z0.2.2)) * y0.2)))))))∧((IntKind.i64.wrap (z0.2.1 * (IntKind.i64.wrap ((IntKind.i64.wrap (y0.1 * (IntKind.i64.wrap (z0.2.2 + p1)))) + (IntKind.i64.wrap ((IntKind.i64.wrap (z0.2.1 * z0.2.2)) * y0.2))))))≤9223372036854775807))∧(((0:Int) < (IntKind.i64.wrap ((IntKind.i64.wrap ((IntKind.i64.wrap (z0.2.1 * y0.2)) * (IntKind.i64.wrap (z0.2.2 + p1)))) + (IntKind.i64.wrap (y0.1 * z0.2.2)))))∧((IntKind.i64.wrap ((IntKind.i64.wrap ((IntKind.i64.wrap (z0.2.1 * y0.2)) * (IntKind.i64.wrap (z0.2.2 + p1)))) + (IntKind.i64.wrap (y0.1 * z0.2.2))))≤9223372036854775807))))]
def sf_Zf_0 (_p0:gC) (_p1:Int) (s0:gG):(Int×Int) := s0
abbrev sq_Zf_0 (_p0:gC) (_p1:Int) (_s0:gG):List Prop := []
def s_Zf (p0:gC) (p1:Int):(Int×Int) := (rngV (st_Zf_0 p0 p1) (sf_Zf_0 p0 p1) (v_bwd (0:Int) p0) (0,0))
abbrev pre_Zf (p0:gC) (p1:Int):List Prop := [(p0.length≤1000000),(OkR (st_Zf_0 p0 p1) (sp_Zf_0 p0 p1) (sq_Zf_0 p0 p1) (v_bwd (0:Int) p0) (0,0))]
theorem d_Zf (p0:gC) (p1:Int) (K:(Int×Int)→Prop) (hp:∀ p∈pre_Zf p0 p1,p) (h:K (s_Zf p0 p1)):w_Zf p0 p1 K := by
 unfold w_Zf
 unfold s_Zf at h
 obtain ⟨hp0,hp1,_⟩ := conj_of hp
 exact ⟨(hp0),(rng_gen (hp1) h (fun y0 z0 k0 hp h => by
 unfold st_Zf_0 at h; obtain ⟨hp0,_⟩ := conj_of hp
 exact (br' h (fun e1 h => h)
  (fun e1 h => ⟨(hp0 e1),h⟩))) (fun s0 hp h => by
 unfold sf_Zf_0 at h
 exact h))⟩
/-- Whether a model is valid,and a scale. -/
structure v_mok (l:gC):Prop where
 ne:l ≠ []
 len:l.length≤4
 ok:∀ x∈l,v_lok x
 last:∀ (a:gC) (x:gG),l = a ++ [x]→x.2 = 0
abbrev v_sok (s:Int):Prop := 1≤s∧s≤20
/-- The parts of the response of n + 1 layers are at most so great. -/
theorem v_resp_parts {s:Int} (hs:v_sok s):∀ {l:List (Int×Int)},l ≠ []→(∀ x∈l,v_lok x)→(v_frac (v_resp s l)).2≤800 ^ (l.length - 1)
 | [],h,_ => absurd rfl h
 | [x],_,_ => by
  have e:(v_frac (v_resp s [x])).2 = 1 := rfl
  rw [e]
  show (1:Int)≤800 ^ 0
  decide
 | x :: y :: r,_,hk => by
  rw [v_resp_c s x (by simp)]
  have ih := v_resp_parts hs (l := y :: r) (by simp) (fun z hz => hk z (List.mem_cons_of_mem _ hz))
  have h1 := v_resp_1le (s := s) (l := y :: r) (by omega) (by simp) (fun z hz => hk z (List.mem_cons_of_mem _ hz))
  have h2 := v_resp_le20 (s := s) (l := y :: r) (by omega) (by simp) (fun z hz => hk z (List.mem_cons_of_mem _ hz))
  obtain ⟨p1,p2,p3,p4,p5,_⟩ := v_step_parts hs (hk x (by simp)) h1 h2 ih
  rw [p5]
  have := (v_frac_le p3 p1).2.2
  have e:(800:Int) ^ ((x :: y :: r).length - 1)=800 * 800 ^ ((y :: r).length - 1) := by
   rw [List.length_cons,Nat.add_sub_cancel,show (y :: r).length = (y :: r).length - 1 + 1 by simp,Int.pow_succ,Int.mul_comm]; simp
  rw [e]; omega
theorem v_pow800 {n:Nat} (h:n≤3):(800:Int) ^ n≤512000000 := by
 match n,h with
 | 0,_ | 1,_ | 2,_ | 3,_ => decide
theorem v_resp_small {s:Int} (hs:v_sok s) {l:List (Int×Int)} (h:v_mok l):1≤(v_frac (v_resp s l)).2∧(v_frac (v_resp s l)).2≤512000000∧0 < (v_frac (v_resp s l)).1∧(v_frac (v_resp s l)).1≤20 * (v_frac (v_resp s l)).2 := by
 have h1 := v_resp_parts hs h.ne h.ok
 have h2 := v_pow800 (n := l.length - 1) (by have := h.len; omega)
 have h3 := v_frac_pos (v_resp s l)
 have h4 := v_rle_frac.1 (v_resp_le20 (s := s) (by omega) h.ne h.ok)
 have h5 := v_rle_frac.1 (v_resp_1le (s := s) (by omega) h.ne h.ok)
 have e4:v_frac 20 = (20,1) := rfl
 have e5:v_frac 1 = (1,1) := rfl
 rw [e4] at h4
 rw [e5] at h5
 simp only at h4 h5
 omega
/-- What is carried from below. -/
def v_rst (s:Int):List (Int×Int)→Int×Int
 | [] => (0,0)
 | x :: r => v_frac (v_resp s (x :: r))
theorem l_Zf_0 (p0:gC) (p1:Int) (hm:v_mok p0) (hs:v_sok p1):OkR (st_Zf_0 p0 p1) (sp_Zf_0 p0 p1) (sq_Zf_0 p0 p1) (v_bwd 0 p0) (0,0)∧rngV (st_Zf_0 p0 p1) (sf_Zf_0 p0 p1) (v_bwd 0 p0) (0,0)=v_rst p1 p0 := by
 have hl := hm.len
 refine rng_bwd (v_rst p1) p0 ?_ (by simp [sq_Zf_0])
 intro a x r e
 have hlen:p0.length = a.length + 1 + r.length := by rw [e]; simp; omega
 have hw:IntKind.i64.wrap ((p0.length:Int) - 1)=(p0.length:Int) - 1 := wrap_id (by omega) (by omega)
 have hx:v_lok x := hm.ok x (by rw [e]; simp)
 simp only [sp_Zf_0,st_Zf_0,hw,fM]
 cases r with
 | nil =>
  have:((a.length:Int) == (p0.length:Int) - 1)=true := by rw [beq_iff_eq,hlen]; simp only [List.length_nil]; omega
  rw [this]
  refine ⟨by simp,?_⟩
  simp only [cond_true]
  rfl
 | cons y r =>
  have:((a.length:Int) == (p0.length:Int) - 1)=false := by rw [beq_eq_false_iff_ne,hlen]; simp only [List.length_cons]; omega
  rw [this]
  have hk:∀ z∈y :: r,v_lok z := fun z hz => hm.ok z (by rw [e]; simp at hz ⊢; rcases hz with h | h <;> simp [h])
  have h1 := v_resp_1le (s := p1) (l := y :: r) (by omega) (by simp) hk
  have h2 := v_resp_le20 (s := p1) (l := y :: r) (by omega) (by simp) hk
  have h3 := v_resp_parts hs (l := y :: r) (by simp) hk
  have h4:(v_frac (v_resp p1 (y :: r))).2≤640000 := by
   have:(y :: r).length - 1≤2 := by have := hlen; simp only [List.length_cons] at this ⊢; omega
   have:(800:Int) ^ ((y :: r).length - 1)≤640000 := by
    match (y :: r).length - 1,this with
    | 0,_ | 1,_ | 2,_ => decide
   omega
  obtain ⟨q1,q2,q3,q4,q5,q6,q7⟩ := v_step_parts hs hx h1 h2 h4
  have hp := v_frac_pos (v_resp p1 (y :: r))
  have e2:v_rst p1 (y :: r)=v_frac (v_resp p1 (y :: r)) := rfl
  have e3:v_rst p1 (x :: y :: r)=v_frac (v_step p1 x (v_resp p1 (y :: r))) := by
   show v_frac (v_resp p1 (x :: y :: r))=_
   rw [v_resp_c p1 x (by simp)]
  rw [e2,e3,q5]
  simp only [w_add_l,w_add_r,w_mul_l,w_mul_r]
  generalize (v_frac (v_resp p1 (y :: r))).1 = N at *
  generalize (v_frac (v_resp p1 (y :: r))).2 = M at *
  have w1:IntKind.i64.wrap (x.1 * (N * (x.2 + p1) + x.1 * x.2 * M))=x.1 * (N * (x.2 + p1) + x.1 * x.2 * M) := wrap_id (by omega) (by omega)
  have w2:IntKind.i64.wrap (x.1 * M * (x.2 + p1) + N * x.2)=x.1 * M * (x.2 + p1) + N * x.2 := wrap_id (by omega) (by omega)
  rw [w1,w2]
  refine ⟨⟨fun _ => ⟨⟨q3,by omega⟩,q1,by omega⟩,by simp⟩,rfl⟩
abbrev t_Zf (p0:gC) (p1:Int):Int×Int := v_frac (v_resp p1 p0)
abbrev qre_Zf (p0:gC) (p1:Int):List Prop := [v_mok p0,v_sok p1]
theorem pp_Zf (p0:gC) (p1:Int) (hq:∀ p∈qre_Zf p0 p1,p):∀ p∈pre_Zf p0 p1,p := by
 obtain ⟨h1,h2,_⟩ := conj_of hq
 simp only [pre_Zf,fM]
 exact ⟨by have := h1.len; omega,(l_Zf_0 p0 p1 h1 h2).1,by simp⟩
theorem tt_Zf (p0:gC) (p1:Int) (hq:∀ p∈qre_Zf p0 p1,p):s_Zf p0 p1 = t_Zf p0 p1 := by
 obtain ⟨h1,h2,_⟩ := conj_of hq
 refine (l_Zf_0 p0 p1 h1 h2).2.trans ?_
 cases p0 with
 | nil => exact absurd rfl h1.ne
 | cons x r => rfl

abbrev con_Zf:Con := ⟨P_Zf,R_Zf,fun x => qre_Zf x.1 x.2,fun x => t_Zf x.1 x.2⟩
theorem ok_Zf:ConOk Try.prog 79 con_Zf := okG k_Zf e_Zf hC_Zf fun x hx => tf_of (w_Zf_eq x.1 x.2 _) (d_Zf x.1 x.2 _ (pp_Zf x.1 x.2 hx) (tt_Zf x.1 x.2 hx))
theorem tx_cm_ok {l:List (Int×Int)} (h:(v_cm l).2 = 0):v_mok l := by
 unfold v_cm at h
 rcases int0 (l.length:Int) with ⟨_,_,e0⟩ | ⟨h0,_,e0⟩
 ·rw [e0] at h; cases h
 rw [e0] at h
 rcases dec0 (a := 4) (b := (l.length:Int)) with ⟨_,_,_,_,e1⟩ | ⟨h1,_,_,_,e1⟩
 ·rw [e1] at h; cases h
 rw [e1] at h
 simp only [cond_false] at h
 have key := v_scan_end (f := v_cm1 l.length) (e := ((0,0):Int×Int)) (P := fun (r:gG) => r.2 = 0) l 0 h (fun j x v _ hv hv0 => by
  unfold v_cm1 at hv
  cases c1:cond (s_Z1 x.1 1 20) (s_Z1 x.2 0 10) false <;> rw [c1] at hv
  ·simp only [cond_false,sJ] at hv; subst hv; cases hv0
  ·cases c2:cond (j == (l.length:Int) - 1) (x.2 == 0) true <;> rw [c2] at hv
   ·simp only [cond_true,cond_false,sJ] at hv; subst hv; cases hv0
   ·cases hv)
 have hk:∀ k,(hk:k < l.length)→v_lok l[k]∧(k + 1 = l.length→l[k].2 = 0) := by
  intro k hk
  have h := key k hk
  unfold v_cm1 at h
  cases c1:cond (s_Z1 l[k].1 1 20) (s_Z1 l[k].2 0 10) false <;> rw [c1] at h
  ·cases h
  ·cases c2:cond (0 + (k:Int) == (l.length:Int) - 1) (l[k].2 == 0) true <;> rw [c2] at h
   ·cases h
   ·have c1' : s_Z1 l[k].1 1 20 = true∧s_Z1 l[k].2 0 10 = true := by
     cases g1:s_Z1 l[k].1 1 20 <;> cases g2:s_Z1 l[k].2 0 10 <;> simp_all
    refine ⟨⟨tx_within.1 c1'.1,tx_within.1 c1'.2⟩,fun e => ?_⟩
    have:(0 + (k:Int) == (l.length:Int) - 1)=true := by rw [beq_iff_eq]; omega
    rw [this] at c2
    simpa using c2
 refine ⟨by rintro rfl; exact h0 rfl,by omega,fun x hx => ?_,fun a x e => ?_⟩
 ·obtain ⟨k,hk1,rfl⟩ := List.getElem_of_mem hx
  exact (hk k hk1).1
 ·have := (hk a.length (by rw [e]; simp)).2 (by rw [e]; simp)
  simpa [e] using this
def C_Z1l:Cons := []
theorem hC_Z1l:ConsOk Try.prog C_Z1l := ConsOk.nil
def w_Z1l (p0:gC) (K:(List (Int×Int))→Prop):Prop := (((p0.length = 0) →(K ([]:List (Int×Int)))) ∧(((((List.length ([]:List (Int×Int))) + p0.length) * 16)≤140737488355328) ∧(K (([]:List (Int×Int)) ++ p0))))
theorem w_Z1l_eq (p0:gC) (K:(List (Int×Int))→Prop):tfnO F_Z1l A_Z1l C_Z1l P_Z1l E_Z1l p0 K = w_Z1l p0 K := by kernel_rfl
def s_Z1l (p0:gC):List (Int×Int) := p0
abbrev pre_Z1l (p0:gC):List Prop := [p0.length≤1000000]
theorem d_Z1l (p0:gC) (K:List (Int×Int)→Prop) (hp:∀ p∈pre_Z1l p0,p) (h:K (s_Z1l p0)):w_Z1l p0 K := by
 have h1 := (conj_of hp).1
 refine ⟨fun e => ?_,by simp only [List.length_nil]; omega,h⟩
 have:p0 = [] := List.eq_nil_of_length_eq_zero e
 subst this; exact h

abbrev con_Z1l:Con := ⟨P_Z1l,[.one (.sl E_Z1l)],fun x => pre_Z1l x,fun x => s_Z1l x⟩
theorem ok_Z1l:ConOOk Try.prog 115 con_Z1l := conO_tf (e := E_Z1l) (ps := P_Z1l) k_Z1l e_Z1l hC_Z1l (fun x hx => tfo_of (w_Z1l_eq x (fun z => z = s_Z1l x)) (d_Z1l x (fun z => z = s_Z1l x) hx rfl))
def C_Z7:Cons := [(115,ownMark,con_Z1l),(79,[],con_Zf)]
theorem hC_Z7:ConsOk Try.prog C_Z7 := ConsOk.consO ok_Z1l <| cC ok_Zf <| ConsOk.nil
def w_Z7 (p0:Int) (p1:gC) (p2:Int) (p3:Int) (K:(Int×Int)→Prop):Prop := ((p1.length≤1000000) ∧((zz0≤p2) ∧((p2 < (p1.length:Int)) ∧((v_mok (List.set p1 p2.toNat (p0,(p1.getD p2.toNat (zz0,zz0)).2))) ∧((v_sok p3) ∧(K (v_frac (v_resp p3 (List.set p1 p2.toNat (p0,(p1.getD p2.toNat (zz0,zz0)).2))))))))))
theorem w_Z7_eq (p0:Int) (p1:gC) (p2:Int) (p3:Int) (K:(Int×Int)→Prop):tfn F_Z7 A_Z7 C_Z7 P_Z7 R_Z7 (p0,p1,p2,p3) K = w_Z7 p0 p1 p2 p3 K := by kernel_rfl
def s_Z7 (p0:Int) (p1:gC) (p2:Int) (p3:Int):(Int×Int) := (v_frac (v_resp p3 (List.set p1 p2.toNat (p0,(p1.getD p2.toNat (0,0)).2))))
abbrev pre_Z7 (p0:Int) (p1:gC) (p2:Int) (p3:Int):List Prop := [(p1.length≤1000000),((0:Int)≤p2),(p2 < (p1.length:Int)),(v_mok (List.set p1 p2.toNat (p0,(p1.getD p2.toNat (0,0)).2))),(v_sok p3)]
theorem d_Z7 (p0:Int) (p1:gC) (p2:Int) (p3:Int) (K:(Int×Int)→Prop) (hp:∀ p∈pre_Z7 p0 p1 p2 p3,p) (h:K (s_Z7 p0 p1 p2 p3)):w_Z7 p0 p1 p2 p3 K := by
 unfold w_Z7
 unfold s_Z7 at h
 obtain ⟨hp0,hp1,hp2,hp3,hp4,_⟩ := conj_of hp
 exact ⟨(hp0),(hp1),(hp2),(hp3),(hp4),h⟩
abbrev con_Z7:Con := ⟨P_Z7,R_Z7,fun x => pre_Z7 x.1 x.2.1 x.2.2.1 x.2.2.2,fun x => s_Z7 x.1 x.2.1 x.2.2.1 x.2.2.2⟩
theorem ok_Z7:ConOk Try.prog 114 con_Z7 := okG k_Z7 e_Z7 hC_Z7 fun x hx => tf_of (w_Z7_eq x.1 x.2.1 x.2.2.1 x.2.2.2 _) (d_Z7 x.1 x.2.1 x.2.2.1 x.2.2.2 _ hx rfl)
def C_Ze:Cons := [(77,[],con_Z1c),(78,[],con_Z1d),(95,[],con_Zb),(74,[],con_Z8),(73,[],con_Zi),(114,[],con_Z7),(116,[],con_Z14)]
theorem hC_Ze:ConsOk Try.prog C_Ze := cC ok_Z1c <| cC ok_Z1d <| cC ok_Zb <| cC ok_Z8 <| cC ok_Zi <| cC ok_Z7 <| cC ok_Z14 <| ConsOk.nil
abbrev q0_Ze (p0:gC) (p1:Int) (p2:Int) := ((v_cm p0).2 :: ((s_Z8 (s_Zb p1 zz1 (20:Int)) zz2) :: ((s_Z8 (s_Zb p2 zz0 (100000:Int)) zz2) :: ([]:List Int))))
def w_Ze (p0:gC) (p1:Int) (p2:Int) (K:((List Int)×Int)→Prop):Prop := ((lenOk (q0_Ze p0 p1 p2)) ∧(((((v_first (q0_Ze p0 p1 p2)) != zz0)=true) →(K (([]:List Int),(v_first (q0_Ze p0 p1 p2))))) ∧((((v_first (q0_Ze p0 p1 p2)) != zz0)=false) →(∃ n0,(loopP (fun (y1:gE) k2 => ((((decide (y1.1 < (p0.length:Int)))=true) →((p0.length≤1000000) ∧((zz0≤y1.1) ∧((y1.1 < (p0.length:Int)) ∧((v_mok (List.set p0 y1.1.toNat (zz1,(p0.getD y1.1.toNat (zz0,zz0)).2))) ∧((v_sok p1) ∧((p0.length≤1000000) ∧((zz0≤y1.1) ∧((y1.1 < (p0.length:Int)) ∧((v_mok (List.set p0 y1.1.toNat ((20:Int),(p0.getD y1.1.toNat (zz0,zz0)).2))) ∧((v_sok p1) ∧(((zz0≤(wi ((wi ((s_Z7 (20:Int) p0 y1.1 p1).1 * (s_Z7 zz1 p0 y1.1 p1).2)) - (wi ((s_Z7 zz1 p0 y1.1 p1).1 * (s_Z7 (20:Int) p0 y1.1 p1).2))))) ∧((wi ((wi ((s_Z7 (20:Int) p0 y1.1 p1).1 * (s_Z7 zz1 p0 y1.1 p1).2)) - (wi ((s_Z7 zz1 p0 y1.1 p1).1 * (s_Z7 (20:Int) p0 y1.1 p1).2))))≤9223372036854775807)) ∧(((zz0≤1000) ∧((1000:Int)≤9223372036854775807)) ∧(((zz0≤p2) ∧(p2≤9223372036854775807)) ∧(((zz0≤(wi ((s_Z7 zz1 p0 y1.1 p1).2 * (s_Z7 (20:Int) p0 y1.1 p1).2))) ∧((wi ((s_Z7 zz1 p0 y1.1 p1).2 * (s_Z7 (20:Int) p0 y1.1 p1).2))≤9223372036854775807)) ∧((((decide ((v_cmp ((wi ((wi ((s_Z7 (20:Int) p0 y1.1 p1).1 * (s_Z7 zz1 p0 y1.1 p1).2)) - (wi ((s_Z7 zz1 p0 y1.1 p1).1 * (s_Z7 (20:Int) p0 y1.1 p1).2)))) * 1000) (p2 * (wi ((s_Z7 zz1 p0 y1.1 p1).2 * (s_Z7 (20:Int) p0 y1.1 p1).2)))) > zz0))=true) →((((y1.2.length + (List.length (y1.1 :: ([]:List Int)))) * 8)≤140737488355328) ∧(k2 ((wi (y1.1 + zz1)),(y1.2 ++ (y1.1 :: ([]:List Int))))))) ∧(((decide ((v_cmp ((wi ((wi ((s_Z7 (20:Int) p0 y1.1 p1).1 * (s_Z7 zz1 p0 y1.1 p1).2)) - (wi ((s_Z7 zz1 p0 y1.1 p1).1 * (s_Z7 (20:Int) p0 y1.1 p1).2)))) * 1000) (p2 * (wi ((s_Z7 zz1 p0 y1.1 p1).2 * (s_Z7 (20:Int) p0 y1.1 p1).2)))) > zz0))=false) →(k2 ((wi (y1.1 + zz1)),y1.2))))))))))))))))))) ∧(((decide (y1.1 < (p0.length:Int)))=false) →(K (y1.2,zz0))))) n0 (zz0,([]:List Int)))))))
theorem w_Ze_eq (p0:gC) (p1:Int) (p2:Int) (K:((List Int)×Int)→Prop):tfn F_Ze A_Ze C_Ze P_Ze R_Ze (p0,p1,p2) K = w_Ze p0 p1 p2 K := by kernel_rfl
def st_Ze_0 (p0:gC) (p1:Int) (p2:Int) (y1:gE):(Int×(List Int)) ⊕ ((List Int)×Int) := (cond (decide (y1.1 < (p0.length:Int))) (cond (decide ((v_cmp ((IntKind.i64.wrap ((IntKind.i64.wrap ((s_Z7 (20:Int) p0 y1.1 p1).1 * (s_Z7 (1:Int) p0 y1.1 p1).2)) - (IntKind.i64.wrap ((s_Z7 (1:Int) p0 y1.1 p1).1 * (s_Z7 (20:Int) p0 y1.1 p1).2)))) * 1000) (p2 * (IntKind.i64.wrap ((s_Z7 (1:Int) p0 y1.1 p1).2 * (s_Z7 (20:Int) p0 y1.1 p1).2)))) > 0)) (Sum.inl ((IntKind.i64.wrap (y1.1 + 1)),(y1.2 ++ (y1.1 :: ([]:List Int))))) (Sum.inl ((IntKind.i64.wrap (y1.1 + 1)),y1.2))) (Sum.inr (y1.2,(0:Int))))
abbrev sp_Ze_0 (p0:gC) (p1:Int) (p2:Int) (y1:gE):List Prop := [(((decide (y1.1 < (p0.length:Int)))=true)→(p0.length≤1000000)),(((decide (y1.1 < (p0.length:Int)))=true)→((0:Int)≤y1.1)),(((decide (y1.1 < (p0.length:Int)))=true)→(y1.1 < (p0.length:Int))),(((decide (y1.1 < (p0.length:Int)))=true)→(v_mok (List.set p0 y1.1.toNat ((1:Int),(p0.getD y1.1.toNat (0,0)).2)))),(((decide (y1.1 < (p0.length:Int)))=true)→(v_sok p1)),(((decide (y1.1 < (p0.length:Int)))=true)→(v_mok (List.set p0 y1.1.toNat ((20:Int),(p0.getD y1.1.toNat (0,0)).2)))),(((decide (y1.1 < (p0.length:Int)))=true)→(((0:Int)≤(IntKind.i64.wrap ((IntKind.i64.wrap ((s_Z7 (20:Int) p0 y1.1 p1).1 * (s_Z7 (1:Int) p0 y1.1 p1).2)) - (IntKind.i64.wrap ((s_Z7 (1:Int) p0 y1.1 p1).1 * (s_Z7 (20:Int) p0 y1.1 p1).2)))))∧((IntKind.i64.wrap ((IntKind.i64.wrap ((s_Z7 (20:Int) p0 y1.1 p1).1 * (s_Z7 (1:Int) p0 y1.1 p1).2)) - (IntKind.i64.wrap ((s_Z7 (1:Int) p0 y1.1 p1).1 * (s_Z7 (20:Int) p0 y1.1 p1).2))))≤9223372036854775807))),(((decide (y1.1 < (p0.length:Int)))=true)→(((0:Int)≤p2)∧(p2≤9223372036854775807))),(((decide (y1.1 < (p0.length:Int)))=true)→(((0:Int)≤(IntKind.i64.wrap ((s_Z7 (1:Int) p0 y1.1 p1).2 * (s_Z7 (20:Int) p0 y1.1 p1).2)))∧((IntKind.i64.wrap ((s_Z7 (1:Int) p0 y1.1 p1).2 * (s_Z7 (20:Int) p0 y1.1 p1).2))≤9223372036854775807))),(((decide (y1.1 < (p0.length:Int)))=true)→(((decide ((v_cmp ((IntKind.i64.wrap ((IntKind.i64.wrap ((s_Z7 (20:Int) p0 y1.1 p1).1 * (s_Z7 (1:Int) p0 y1.1 p1).2)) - (IntKind.i64.wrap ((s_Z7 (1:Int) p0 y1.1 p1).1 * (s_Z7 (20:Int) p0 y1.1 p1).2)))) * 1000) (p2 * (IntKind.i64.wrap ((s_Z7 (1:Int) p0 y1.1 p1).2 * (s_Z7 (20:Int) p0 y1.1 p1).2)))) > 0))=true)→(((y1.2.length + (List.length (y1.1 :: ([]:List Int)))) * 8)≤140737488355328)))]
def s_Ze (p0:gC) (p1:Int) (p2:Int):((List Int)×Int) := (cond ((v_first ((v_cm p0).2 :: ((s_Z8 (s_Zb p1 (1:Int) (20:Int)) (2:Int)) :: ((s_Z8 (s_Zb p2 (0:Int) (100000:Int)) (2:Int)) :: ([]:List Int))))) != 0) (([]:List Int),(v_first ((v_cm p0).2 :: ((s_Z8 (s_Zb p1 (1:Int) (20:Int)) (2:Int)) :: ((s_Z8 (s_Zb p2 (0:Int) (100000:Int)) (2:Int)) :: ([]:List Int)))))) (lpv ([],(0:Int)) (st_Ze_0 p0 p1 p2) ((0:Int),([]:List Int))))
abbrev pre_Ze (p0:gC) (p1:Int) (p2:Int):List Prop := [((((v_first ((v_cm p0).2 :: ((s_Z8 (s_Zb p1 (1:Int) (20:Int)) (2:Int)) :: ((s_Z8 (s_Zb p2 (0:Int) (100000:Int)) (2:Int)) :: ([]:List Int))))) != 0)=false)→(OkL (st_Ze_0 p0 p1 p2) (sp_Ze_0 p0 p1 p2) ((0:Int),([]:List Int))))]
theorem d_Ze (p0:gC) (p1:Int) (p2:Int) (K:((List Int)×Int)→Prop) (hp:∀ p∈pre_Ze p0 p1 p2,p) (h:K (s_Ze p0 p1 p2)):w_Ze p0 p1 p2 K := by
 unfold w_Ze
 unfold s_Ze at h
 obtain ⟨hp0,_⟩ := conj_of hp
 exact ⟨(lenOk_of 3 rfl (by decide)),(br' h (fun e0 h => h)
  (fun e0 h => (loop_gen (hp0 e0) h (fun y1 k1 hp h => by
 unfold st_Ze_0 at h; obtain ⟨hp0,hp1,hp2,hp3,hp4,hp5,hp6,hp7,hp8,hp9,_⟩ := conj_of hp
 exact (br' h (fun e2 h => ⟨(hp0 e2),(hp1 e2),(hp2 e2),(hp3 e2),(hp4 e2),(hp0 e2),(hp1 e2),(hp2 e2),(hp5 e2),(hp4 e2),(hp6 e2),(od rfl),(hp7 e2),(hp8 e2),(br' h (fun e3 h => ⟨(hp9 e2 e3),h⟩)
  (fun e3 h => h))⟩)
  (fun e2 h => h))))))⟩
theorem v_above_set:∀ {l:List (Int×Int)} {k:Nat} {c:Int},(l.getD k (0,0)).1≤c→v_above l (l.set k (c,(l.getD k (0,0)).2))
 | [],k,c,_ => by simp; exact .nil
 | x :: r,0,c,h => .cons h rfl (v_above_refl r)
 | x :: r,k + 1,c,h => .cons (Int.le_refl _) rfl (v_above_set (l := r) (k := k) (c := c) h)
where
 v_above_refl:∀ (l:gC),v_above l l
  | [] => .nil
  | x :: r => .cons (Int.le_refl _) rfl (v_above_refl r)
theorem v_mok_set {l:List (Int×Int)} {k:Nat} {c:Int} (h:v_mok l) (hk:k < l.length) (hc:1≤c∧c≤20):v_mok (l.set k (c,(l.getD k (0,0)).2)) := by
 have hg:v_lok (l.getD k (0,0)) := h.ok _ (getD_mem' _ hk)
 refine ⟨fun e => h.ne (by simpa using e),by rw [List.length_set]; exact h.len,fun x hx => ?_,fun a x e => ?_⟩
 ·rcases List.mem_or_eq_of_mem_set hx with hx | rfl
  ·exact h.ok x hx
  ·exact ⟨hc,hg.t⟩
 ·have hl:(l.set k (c,(l.getD k (0,0)).2)).length = a.length + 1 := by rw [e]; simp
  rw [List.length_set] at hl
  have hlast:l = l.take a.length ++ [l.getD a.length (0,0)] := by
   have := List.take_append_drop a.length l
   rw [drop_getD (0,0) (by omega),List.drop_eq_nil_of_le (by omega)] at this
   exact this.symm
  have h1 := h.last _ _ hlast
  have h2:(l.set k (c,(l.getD k (0,0)).2)).getD a.length (0,0)=x := by rw [e]; simp
  rw [gd_set hk] at h2
  split at h2
  ·rename_i e'; subst h2; rw [← e']; exact h1
  ·rw [← h2]; exact h1
/-- A model with another conductivity of one layer; whether the layer is seen; the layers that are. -/
def v_smd (l:gC) (i:Nat) (c:Int):List (Int×Int) := l.set i (c,(l.getD i (0,0)).2)
def v_sq (l:gC) (s:Int) (i:Nat) (c:Int):Rat := v_resp s (v_smd l i c)
def v_snb (a b:gG) (t:Int):Bool := decide (t * (a.2 * b.2) < (b.1 * a.2 - a.1 * b.2) * 1000)
def v_sn (l:gC) (s t:Int) (i:Nat):Bool := v_snb (v_frac (v_sq l s i 1)) (v_frac (v_sq l s i 20)) t
def v_sel (p:Nat→Bool):List Nat→List Int
 | [] => []
 | i :: r => cond (p i) ((i:Int) :: v_sel p r) (v_sel p r)
def v_seen (l:gC) (s t:Int):List Int := v_sel (v_sn l s t) (List.range' 0 l.length)
theorem v_smd_ok {l:List (Int×Int)} {i:Nat} (h:v_mok l) (hi:i < l.length):v_mok (v_smd l i 1)∧v_mok (v_smd l i 20) := ⟨v_mok_set h hi (by decide),v_mok_set h hi (by decide)⟩
theorem v_smd_le {l:List (Int×Int)} {s:Int} {i:Nat} (h:v_mok l) (hs:v_sok s) (hi:i < l.length):v_sq l s i 1≤v_sq l s i 20 := by
 obtain ⟨h1,h2⟩ := v_smd_ok h hi
 have hg:(v_smd l i 1).getD i (0,0)=(1,(l.getD i (0,0)).2) := by unfold v_smd; rw [gd_set hi,if_pos rfl]
 have e:v_smd l i 20 = (v_smd l i 1).set i (20,((v_smd l i 1).getD i (0,0)).2) := by rw [hg]; unfold v_smd; rw [List.set_set]
 have ha:v_above (v_smd l i 1) (v_smd l i 20) := by rw [e]; exact v_above_set (by rw [hg]; show (1:Int)≤20; decide)
 exact v_resp_mono (by omega) ha h1.ok h2.ok
/-- The parts of both responses. -/
structure v_snp (a b:gG):Prop where
 ad:1≤a.2∧a.2≤512000000
 bd:1≤b.2∧b.2≤512000000
 an:0≤a.1 * b.2
 le:a.1 * b.2≤b.1 * a.2
 top:b.1 * a.2≤5242880000000000000
 dd:1≤a.2 * b.2∧a.2 * b.2≤262144000000000000
theorem v_snp_of {l:List (Int×Int)} {s:Int} {i:Nat} (h:v_mok l) (hs:v_sok s) (hi:i < l.length):v_snp (v_frac (v_sq l s i 1)) (v_frac (v_sq l s i 20)) := by
 obtain ⟨h1,h2⟩ := v_smd_ok h hi
 have a := v_resp_small hs h1
 have b := v_resp_small hs h2
 have hle := v_rle_frac.1 (v_smd_le h hs hi)
 unfold v_sq at *
 generalize v_frac (v_resp s (v_smd l i 1))=x at *
 generalize v_frac (v_resp s (v_smd l i 20))=y at *
 have m1 := mul_in (x := y.1) (y := x.2) (by omega) (show y.1≤10240000000 by omega) (by omega) a.2.1
 have m2 := mul_in (x := x.2) (y := y.2) (by omega) a.2.1 (by omega) b.2.1
 have m3 := Int.mul_nonneg (show 0≤x.1 by omega) (show 0≤y.2 by omega)
 have m4 := Int.mul_pos (show 0 < x.2 by omega) (show 0 < y.2 by omega)
 exact ⟨⟨a.1,a.2.1⟩,⟨b.1,b.2.1⟩,m3,hle,by omega,by omega,by omega⟩
theorem v_sel_step (p:Nat→Bool) {j n:Nat} (h:j < n):v_sel p (List.range' j (n - j))=cond (p j) ((j:Int) :: v_sel p (List.range' (j + 1) (n - (j + 1)))) (v_sel p (List.range' (j + 1) (n - (j + 1)))) := by
 rw [show n - j = (n - (j + 1)) + 1 by omega,List.range'_succ]; rfl
theorem v_sel_mem {p:Nat→Bool}:∀ {l:List Nat} {x:Int},x∈v_sel p l ↔ ∃ i∈l,p i = true∧x = (i:Int)
 | [],x => by simp [v_sel]
 | i :: r,x => by
  have ih := v_sel_mem (p := p) (l := r) (x := x)
  have e:v_sel p (i :: r)=cond (p i) ((i:Int) :: v_sel p r) (v_sel p r) := rfl
  rw [e]
  cases hp:p i
  ·rw [cond_false,ih]
   constructor
   ·rintro ⟨k,hk,h1,h2⟩; exact ⟨k,List.mem_cons_of_mem _ hk,h1,h2⟩
   ·rintro ⟨k,hk,h1,h2⟩
    rcases List.mem_cons.1 hk with rfl | hk
    ·rw [hp] at h1; cases h1
    ·exact ⟨k,hk,h1,h2⟩
  ·rw [cond_true,List.mem_cons,ih]
   constructor
   ·rintro (rfl | ⟨k,hk,h1,h2⟩)
    ·exact ⟨i,by simp,hp,rfl⟩
    ·exact ⟨k,List.mem_cons_of_mem _ hk,h1,h2⟩
   ·rintro ⟨k,hk,h1,h2⟩
    rcases List.mem_cons.1 hk with rfl | hk
    ·exact .inl h2
    ·exact .inr ⟨k,hk,h1,h2⟩
theorem v_sel_len (p:Nat→Bool):∀ (l:List Nat),(v_sel p l).length≤l.length
 | [] => Nat.le_refl _
 | i :: r => by
  have e:v_sel p (i :: r)=cond (p i) ((i:Int) :: v_sel p r) (v_sel p r) := rfl
  have := v_sel_len p r
  rw [e]
  cases p i
  ·rw [cond_false,List.length_cons]; omega
  ·rw [cond_true,List.length_cons,List.length_cons]; omega
def v_seenAt (l:gC) (s t:Int):List Int×Int := cond ((v_cm l).2 != 0) ([],(v_cm l).2) (cond (s_Z1 s 1 20) (cond (s_Z1 t 0 100000) (v_seen l s t,0) ([],2)) ([],2))
theorem tx_unw {n lo hi:Int} (h:s_Z8 (s_Zb n lo hi) 2 = 0):lo≤n∧n≤hi := by
 rw [tx_withinG] at h
 cases c:s_Z1 n lo hi
 ·rw [c] at h; cases h
 ·exact tx_within.1 c
theorem l_Ze_0 (p0:gC) (p1 p2:Int) (hm:v_mok p0) (hs:v_sok p1) (ht:0≤p2∧p2≤100000):OkL (st_Ze_0 p0 p1 p2) (sp_Ze_0 p0 p1 p2) (0,[])∧lpv ([],0) (st_Ze_0 p0 p1 p2) (0,[])=(v_seen p0 p1 p2,0) := by
 have hl := hm.len
 refine @for_is (List Int) (Int×List Int) (List Int×Int) ([],0) (st_Ze_0 p0 p1 p2) (sp_Ze_0 p0 p1 p2) (fun i t => (i,t)) 0 p0.length (fun k t => t.length≤k) (fun k t => (t ++ v_sel (v_sn p0 p1 p2) (List.range' k (p0.length - k)),0)) (by omega) (by omega) ?_ ?_ [] (Nat.le_refl _)
 ·intro t _
  rw [Nat.sub_self]
  simp only [sp_Ze_0,st_Ze_0,fM,show decide ((p0.length:Int) < (p0.length:Int))=false from decide_eq_false (by omega),cond_false]
  refine ⟨?_,by show Sum.inr (t,0)=Sum.inr (t ++ [],0); rw [List.append_nil]⟩
  and_intros
  all_goals first
   | (intro h; cases h; done)
   | (intro p hp; cases hp)
 ·intro j t _ hj hlt
  have hd1:decide ((j:Int) < (p0.length:Int))=true := decide_eq_true (by omega)
  have hw1:IntKind.i64.wrap ((j:Int) + 1)=((j + 1:Nat):Int) := wrap_id (by omega) (by omega)
  obtain ⟨m1,m2⟩ := v_smd_ok hm hj
  have hp := v_snp_of hm hs hj
  have e1:∀ c,s_Z7 c p0 (j:Int) p1 = v_frac (v_sq p0 p1 j c) := fun c => by unfold s_Z7 v_sq v_smd; rw [Int.toNat_natCast]
  have e2:v_sn p0 p1 p2 j = v_snb (v_frac (v_sq p0 p1 j 1)) (v_frac (v_sq p0 p1 j 20)) p2 := rfl
  unfold v_smd at m1 m2
  have h1 := hp.ad
  have h2 := hp.bd
  have h3 := hp.an
  have h4 := hp.le
  have h5 := hp.top
  have h6 := hp.dd
  rw [v_sel_step _ hj,e2]
  simp only [sp_Ze_0,st_Ze_0,fM,hd1,cond_true,hw1,Int.toNat_natCast,e1]
  generalize v_frac (v_sq p0 p1 j 1)=a at *
  generalize v_frac (v_sq p0 p1 j 20)=b at *
  have w1:IntKind.i64.wrap (b.1 * a.2)=b.1 * a.2 := wrap_id (by omega) (by omega)
  have w2:IntKind.i64.wrap (a.1 * b.2)=a.1 * b.2 := wrap_id (by omega) (by omega)
  have w3:IntKind.i64.wrap (b.1 * a.2 - a.1 * b.2)=b.1 * a.2 - a.1 * b.2 := wrap_id (by omega) (by omega)
  have w4:IntKind.i64.wrap (a.2 * b.2)=a.2 * b.2 := wrap_id (by omega) (by omega)
  have e3:decide (v_cmp ((b.1 * a.2 - a.1 * b.2) * 1000) (p2 * (a.2 * b.2)) > 0)=v_snb a b p2 := by
   unfold v_snb
   exact decide_eq_decide.2 v_cmp_gt
  simp only [w1,w2,w3,w4,e3]
  refine ⟨?_,?_⟩
  ·and_intros
   all_goals first
    | exact fun _ => m1
    | exact fun _ => m2
    | exact fun _ => hs
    | (intro p hp; cases hp; done)
    | (intros; simp only [List.length_cons,List.length_nil]; omega)
    | (intros; omega)
  ·cases v_snb a b p2
   ·exact .inl ⟨t,rfl,by omega,rfl⟩
   ·exact .inl ⟨t ++ [(j:Int)],rfl,by rw [List.length_append,List.length_singleton]; omega,by rw [List.append_assoc]; rfl⟩
abbrev t_Ze (p0:gC) (p1:Int) (p2:Int):List Int×Int := v_seenAt p0 p1 p2
abbrev qre_Ze (_p0:gC) (_p1:Int) (_p2:Int):List Prop := []
theorem pp_Ze (p0:gC) (p1:Int) (p2:Int) (_hq:∀ p∈qre_Ze p0 p1 p2,p):∀ p∈pre_Ze p0 p1 p2,p := by
 simp only [pre_Ze,fM]
 refine ⟨fun h => ?_,(by intro p hp; cases hp)⟩
 obtain ⟨a1,h2⟩ := v_first0 (bne0' h)
 obtain ⟨a2,h3⟩ := v_first0 h2
 obtain ⟨a3,_⟩ := v_first0 h3
 exact (l_Ze_0 p0 p1 p2 (tx_cm_ok a1) (tx_unw a2) (tx_unw a3)).1
theorem tt_Ze (p0:gC) (p1:Int) (p2:Int) (_hq:∀ p∈qre_Ze p0 p1 p2,p):s_Ze p0 p1 p2 = t_Ze p0 p1 p2 := by
 unfold s_Ze t_Ze v_seenAt
 rcases int0 (v_cm p0).2 with ⟨z,e,_⟩ | ⟨z,e,_⟩ <;> rw [e]
 ·cases c1:s_Z1 p1 1 20
  ·have:v_first [(v_cm p0).2,s_Z8 (s_Zb p1 1 20) 2,s_Z8 (s_Zb p2 0 100000) 2]=2 := by
    rw [z,tx_withinG,c1]; rfl
   rw [this]; rfl
  ·cases c2:s_Z1 p2 0 100000
   ·have:v_first [(v_cm p0).2,s_Z8 (s_Zb p1 1 20) 2,s_Z8 (s_Zb p2 0 100000) 2]=2 := by
     rw [z,tx_withinG,tx_withinG,c1,c2]; rfl
    rw [this]; rfl
   ·have:v_first [(v_cm p0).2,s_Z8 (s_Zb p1 1 20) 2,s_Z8 (s_Zb p2 0 100000) 2]=0 := by
     rw [z,tx_withinG,tx_withinG,c1,c2]; rfl
    rw [this]
    exact (l_Ze_0 p0 p1 p2 (tx_cm_ok z) (tx_within.1 c1) (tx_within.1 c2)).2
 ·have:v_first [(v_cm p0).2,s_Z8 (s_Zb p1 1 20) 2,s_Z8 (s_Zb p2 0 100000) 2]=(v_cm p0).2 := by
   simp [v_first,e]
  rw [this,e]; rfl

abbrev con_Ze:Con := ⟨P_Ze,R_Ze,fun x => qre_Ze x.1 x.2.1 x.2.2,fun x => t_Ze x.1 x.2.1 x.2.2⟩
theorem ok_Ze:ConOk Try.prog 57 con_Ze := okG k_Ze e_Ze hC_Ze fun x hx => tf_of (w_Ze_eq x.1 x.2.1 x.2.2 _) (d_Ze x.1 x.2.1 x.2.2 _ (pp_Ze x.1 x.2.1 x.2.2 hx) (tt_Ze x.1 x.2.1 x.2.2 hx))
def C_Z1i:Cons := [(17,[],con_Z4)]
theorem hC_Z1i:ConsOk Try.prog C_Z1i := cC ok_Z4 <| ConsOk.nil
def w_Z1i (p0:gC) (K:Int→Prop):Prop := (K (v_cm p0).2)
theorem w_Z1i_eq (p0:gC) (K:Int→Prop):tfn F_Z1i A_Z1i C_Z1i P_Z1i R_Z1i p0 K = w_Z1i p0 K := by kernel_rfl
def s_Z1i (p0:gC):Int := (v_cm p0).2
abbrev pre_Z1i (_p0:gC):List Prop := []
theorem d_Z1i (p0:gC) (K:Int→Prop) (_hp:∀ p∈pre_Z1i p0,p) (h:K (s_Z1i p0)):w_Z1i p0 K := by
 unfold w_Z1i
 unfold s_Z1i at h
 exact h
abbrev con_Z1i:Con := ⟨P_Z1i,R_Z1i,fun x => pre_Z1i x,fun x => s_Z1i x⟩
theorem ok_Z1i:ConOk Try.prog 21 con_Z1i := okG k_Z1i e_Z1i hC_Z1i fun x hx => tf_of (w_Z1i_eq x _) (d_Z1i x _ hx rfl)
def C_Z1h:Cons := [(35,[],con_Z1)]
theorem hC_Z1h:ConsOk Try.prog C_Z1h := cC ok_Z1 <| ConsOk.nil
def w_Z1h (p0:Int) (K:Int→Prop):Prop := ((((!(s_Z1 p0 zz1 (20:Int)))=true) →(K (2:Int))) ∧(((!(s_Z1 p0 zz1 (20:Int)))=false) →(K zz0)))
theorem w_Z1h_eq (p0:Int) (K:Int→Prop):tfn F_Z1h A_Z1h C_Z1h P_Z1h R_Z1h p0 K = w_Z1h p0 K := by kernel_rfl
def s_Z1h (p0:Int):Int := (cond (!(s_Z1 p0 (1:Int) (20:Int))) (2:Int) (0:Int))
abbrev pre_Z1h (_p0:Int):List Prop := []
theorem d_Z1h (p0:Int) (K:Int→Prop) (_hp:∀ p∈pre_Z1h p0,p) (h:K (s_Z1h p0)):w_Z1h p0 K := by
 unfold w_Z1h
 unfold s_Z1h at h
 exact (br' h (fun e0 h => h)
  (fun e0 h => h))
abbrev con_Z1h:Con := ⟨P_Z1h,R_Z1h,fun x => pre_Z1h x,fun x => s_Z1h x⟩
theorem ok_Z1h:ConOk Try.prog 18 con_Z1h := okG k_Z1h e_Z1h hC_Z1h fun x hx => tf_of (w_Z1h_eq x _) (d_Z1h x _ hx rfl)
def C_Zl:Cons := []
theorem hC_Zl:ConsOk Try.prog C_Zl := ConsOk.nil
def w_Zl (p0:gF) (K:(List Int)→Prop):Prop := (∃ n0,(loopP (fun (y1:Int) k2 => ((((decide (y1 > 0))=true) →((decide (y1 > 0))=(decide (y1 > 0)))) ∧((((decide (y1 > 0))=true) →((decide (y1 > 0))=(decide (y1 > 0)))) ∧((((decide (y1 > 0))=true) →((decide (y1 > 0))=(decide (y1 > 0)))) ∧((((decide (y1 > 0))=true) →(zz0≤(IntKind.i64.wrap (y1 - 1)))) ∧((((decide (y1 > 0))=true) →((IntKind.i64.wrap (y1 - 1)) < (p0.length:Int))) ∧((((decide (y1 > 0))=true) →((decide (y1 > 0))=(decide (y1 > 0)))) ∧((((decide (y1 > 0))=true) →((decide (y1 > 0))=(decide (y1 > 0)))) ∧(((decide (y1 > 0))=(decide (y1 > 0))) ∧((((cond (decide (y1 > 0)) ((p0.getD (Int.toNat (IntKind.i64.wrap (y1 - 1))) zz0) == 0) false)=true) →(k2 (IntKind.i64.wrap (y1 - 1)))) ∧(((cond (decide (y1 > 0)) ((p0.getD (Int.toNat (IntKind.i64.wrap (y1 - 1))) zz0) == 0) false)=false) →((zz0≤y1) ∧((y1≤(p0.length:Int)) ∧(K (List.take y1.toNat p0))))))))))))))) n0 (p0.length:Int)))
theorem w_Zl_eq (p0:gF) (K:(List Int)→Prop):tfn F_Zl A_Zl C_Zl P_Zl R_Zl p0 K = w_Zl p0 K := by kernel_rfl
def st_Zl_0 (p0:gF) (y0:Int):Int ⊕ (List Int) := (cond (cond (decide (y0 > 0)) ((p0.getD (Int.toNat (IntKind.i64.wrap (y0 - 1))) (0:Int)) == 0) false) (Sum.inl (IntKind.i64.wrap (y0 - 1))) (Sum.inr (List.take y0.toNat p0)))
abbrev sp_Zl_0 (p0:gF) (y0:Int):List Prop := [(((decide (y0 > 0))=true)→((0:Int)≤(IntKind.i64.wrap (y0 - 1)))),(((decide (y0 > 0))=true)→((IntKind.i64.wrap (y0 - 1)) < (p0.length:Int))),(((cond (decide (y0 > 0)) ((p0.getD (Int.toNat (IntKind.i64.wrap (y0 - 1))) (0:Int)) == 0) false)=false)→((0:Int)≤y0)),(((cond (decide (y0 > 0)) ((p0.getD (Int.toNat (IntKind.i64.wrap (y0 - 1))) (0:Int)) == 0) false)=false)→(y0≤(p0.length:Int)))]
def s_Zl (p0:gF):(List Int) := (lpv [] (st_Zl_0 p0) (p0.length:Int))
abbrev pre_Zl (p0:gF):List Prop := [(OkL (st_Zl_0 p0) (sp_Zl_0 p0) (p0.length:Int))]
theorem d_Zl (p0:gF) (K:(List Int)→Prop) (hp:∀ p∈pre_Zl p0,p) (h:K (s_Zl p0)):w_Zl p0 K := by
 unfold w_Zl
 unfold s_Zl at h
 obtain ⟨hp0,_⟩ := conj_of hp
 exact (loop_gen (hp0) h (fun y0 k0 hp h => by
 unfold st_Zl_0 at h; obtain ⟨hp0,hp1,hp2,hp3,_⟩ := conj_of hp
 exact ⟨rf,rf,rf,(hp0),(hp1),rf,rf,rfl,(br' h (fun e1 h => h)
  (fun e1 h => ⟨(hp2 e1),(hp3 e1),h⟩))⟩))
/-! Digits to the base 10^9,the lowest one first. -/
def v_val:List Int→Int
 | [] => 0
 | d :: r => d + 1000000000 * v_val r
def v_dgok (l:gF):Prop := ∀ d∈l,0≤d∧d < 1000000000
def v_digs (n:Nat):List Int := if h:n = 0 then [] else ((n % 1000000000:Nat):Int) :: v_digs (n / 1000000000)
termination_by n
decreasing_by exact Nat.div_lt_self (Nat.pos_of_ne_zero h) (by decide)
theorem v_digs_0:v_digs 0 = [] := by unfold v_digs; rfl
theorem v_digs_pos {n:Nat} (h:n ≠ 0):v_digs n = ((n % 1000000000:Nat):Int) :: v_digs (n / 1000000000) := by rw [v_digs,dif_neg h]
theorem v_digs_ok (n:Nat):v_dgok (v_digs n) := by
 induction n using Nat.strongRecOn with
 | _ n ih =>
  by_cases h:n = 0
  ·subst h; rw [v_digs_0]; intro d hd; cases hd
  ·rw [v_digs_pos h]
   intro d hd
   rcases List.mem_cons.1 hd with rfl | hd
   ·omega
   ·exact ih _ (Nat.div_lt_self (Nat.pos_of_ne_zero h) (by decide)) d hd
theorem v_digs_val (n:Nat):v_val (v_digs n)=n := by
 induction n using Nat.strongRecOn with
 | _ n ih =>
  by_cases h:n = 0
  ·subst h; rw [v_digs_0]; rfl
  ·rw [v_digs_pos h]
   show _ + 1000000000 * v_val _ = _
   rw [ih _ (Nat.div_lt_self (Nat.pos_of_ne_zero h) (by decide))]
   omega
theorem v_val_nn:∀ {l:List Int},v_dgok l→0≤v_val l
 | [],_ => Int.le_refl _
 | d :: r,h => by
  have := h d (by simp)
  have := v_val_nn (l := r) fun x hx => h x (by simp [hx])
  show 0≤d + 1000000000 * v_val r
  omega
/-- What so many digits can say. -/
def v_pow (k:Nat):Int := 1000000000 ^ k
theorem v_pow_0:v_pow 0 = 1 := rfl
theorem v_pow_s (k:Nat):v_pow (k + 1)=1000000000 * v_pow k := by unfold v_pow; rw [Int.pow_succ,Int.mul_comm]
theorem v_pow_pos (k:Nat):1≤v_pow k := by
 induction k with
 | zero => exact Int.le_refl _
 | succ k ih => rw [v_pow_s]; omega
theorem v_pow_add (a b:Nat):v_pow (a + b)=v_pow a * v_pow b := by unfold v_pow; rw [Int.pow_add]
theorem v_pow_le {a b:Nat} (h:a≤b):v_pow a≤v_pow b := by
 obtain ⟨c,rfl⟩ : ∃ c,b = a + c := ⟨b - a,by omega⟩
 rw [v_pow_add]
 have h1 := v_pow_pos a
 have h2 := v_pow_pos c
 have := Int.mul_le_mul_of_nonneg_left h2 (show 0≤v_pow a by omega)
 omega
theorem v_val_lt:∀ {l:List Int},v_dgok l→v_val l < v_pow l.length
 | [],_ => by decide
 | d :: r,h => by
  have := h d (by simp)
  have := v_val_lt (l := r) fun x hx => h x (by simp [hx])
  show d + 1000000000 * v_val r < v_pow (r.length + 1)
  rw [v_pow_s]; omega
theorem v_digs_low (n:Nat):v_digs n = [] ∨ v_pow ((v_digs n).length - 1)≤n := by
 induction n using Nat.strongRecOn with
 | _ n ih =>
  by_cases h:n = 0
  ·subst h; exact .inl v_digs_0
  ·right
   rw [v_digs_pos h,List.length_cons,Nat.add_sub_cancel]
   rcases ih (n / 1000000000) (Nat.div_lt_self (Nat.pos_of_ne_zero h) (by decide)) with e | e
   ·rw [e]; show (1:Int)≤n; omega
   ·generalize hL:(v_digs (n / 1000000000)).length = L at *
    rcases Nat.eq_zero_or_pos L with h0 | h0
    ·rw [h0]; show (1:Int)≤n; omega
    ·rw [show L = L - 1 + 1 by omega,v_pow_s]
     omega
theorem v_digs_high (n:Nat):(n:Int) < v_pow (v_digs n).length := by
 have := v_val_lt (v_digs_ok n)
 rwa [v_digs_val] at this
theorem v_pow_lt {a b:Nat} (h:v_pow a < v_pow b):a < b := by
 rcases Nat.lt_or_ge a b with g | g
 ·exact g
 ·have := v_pow_le g; omega
theorem v_digs_len {n k:Nat} (h:(n:Int) < v_pow k):(v_digs n).length≤k := by
 rcases v_digs_low n with e | e
 ·rw [e]; simp
 ·have := v_pow_lt (show v_pow ((v_digs n).length - 1) < v_pow k by omega)
  omega
theorem v_digs_len_lt {m n:Nat} (h:(v_digs m).length < (v_digs n).length):m < n := by
 have h1 := v_digs_high m
 rcases v_digs_low n with e | e
 ·rw [e] at h; simp at h
 ·have := v_pow_le (show (v_digs m).length≤(v_digs n).length - 1 by omega)
  omega
/-- Without zeros at the end. -/
def v_trim:List Int→List Int
 | [] => []
 | d :: r => match v_trim r with
  | [] => cond (d == 0) [] [d]
  | x :: q => d :: x :: q
theorem v_trim_is:∀ {l:List Int},v_dgok l→v_trim l = v_digs (v_val l).toNat
 | [],_ => by rw [show (v_val []).toNat = 0 from rfl,v_digs_0]; rfl
 | d :: r,h => by
  have hd := h d (by simp)
  have hr:v_dgok r := fun x hx => h x (by simp [hx])
  have hn := v_val_nn hr
  have ih := v_trim_is hr
  have e:v_val (d :: r)=d + 1000000000 * v_val r := rfl
  have e1:(d + 1000000000 * v_val r).toNat % 1000000000 = d.toNat := by omega
  have e2:(d + 1000000000 * v_val r).toNat / 1000000000 = (v_val r).toNat := by omega
  rw [e]
  unfold v_trim
  rw [ih]
  by_cases hz:v_val r = 0
  ·rw [hz,show (0:Int).toNat = 0 from rfl,v_digs_0]
   by_cases hd0:d = 0
   ·subst hd0; rw [show ((0:Int) + 1000000000 * 0).toNat = 0 from rfl,v_digs_0]; rfl
   ·rw [hz] at e1 e2
    rw [v_digs_pos (by omega),e1,e2,show (0:Int).toNat = 0 from rfl,v_digs_0,Int.toNat_of_nonneg hd.1,show (d == 0)=false from beq_eq_false_iff_ne.2 hd0]; rfl
  ·rw [v_digs_pos (n := (d + 1000000000 * v_val r).toNat) (by omega),e1,e2,Int.toNat_of_nonneg hd.1]
   cases hq:v_digs (v_val r).toNat with
   | nil =>
    have := v_digs_val (v_val r).toNat
    rw [hq] at this
    have:(0:Int)=((v_val r).toNat:Int) := this
    omega
   | cons x q => rfl
theorem v_val_append:∀ (a b:gF),v_val (a ++ b)=v_val a + v_pow a.length * v_val b
 | [],b => by show v_val b = 0 + 1 * v_val b; omega
 | d :: a,b => by
  show d + 1000000000 * v_val (a ++ b)=d + 1000000000 * v_val a + v_pow (a.length + 1) * v_val b
  rw [v_val_append a b,v_pow_s,Int.mul_add,Int.mul_assoc]; omega
theorem v_val_zeros:∀ n,v_val (List.replicate n 0)=0
 | 0 => rfl
 | n + 1 => by rw [List.replicate_succ]; show (0:Int) + 1000000000 * v_val _ = 0; rw [v_val_zeros n]; rfl
theorem v_val_set:∀ (l:gF) (i:Nat) (x:Int),i < l.length→v_val (l.set i x)=v_val l + v_pow i * (x - l.getD i 0)
 | [],i,x,h => by simp at h
 | d :: r,0,x,_ => by
  show x + 1000000000 * v_val r = d + 1000000000 * v_val r + 1 * (x - d)
  omega
 | d :: r,i + 1,x,h => by
  show d + 1000000000 * v_val (r.set i x)=d + 1000000000 * v_val r + v_pow (i + 1) * (x - r.getD i 0)
  rw [v_val_set r i x (by simpa using h),v_pow_s,Int.mul_add,Int.mul_assoc]; omega
theorem v_val_split (l:gF) (i:Nat) (h:i < l.length):v_val l = v_val (l.take i) + v_pow i * (l.getD i 0 + 1000000000 * v_val (l.drop (i + 1))) := by
 have e:l = l.take i ++ (l.getD i 0 :: l.drop (i + 1)) := by rw [← drop_getD 0 h,List.take_append_drop]
 have := v_val_append (l.take i) (l.getD i 0 :: l.drop (i + 1))
 rw [← e] at this
 rw [this,List.length_take,Nat.min_eq_left (Nat.le_of_lt h)]; rfl
/-- A whole number,as its sign and its digits. -/
def v_wide (n:Int):Int×List Int := (n.sign,v_digs n.natAbs)
def v_wval (p:Int×List Int):Int := p.1 * v_val p.2
theorem v_wval_wide (n:Int):v_wval (v_wide n)=n := by
 unfold v_wval v_wide
 simp only
 rw [v_digs_val]
 exact Int.sign_mul_natAbs n
theorem v_val_take_s {l:List Int} {i:Nat} (h:i < l.length):v_val (l.take (i + 1))=v_val (l.take i) + v_pow i * l.getD i 0 := by
 have e:l.take (i + 1)=l.take i ++ [l.getD i 0] := by
  rw [List.take_succ_eq_append_getElem h,List.getD_eq_getElem?_getD,List.getElem?_eq_getElem h]; rfl
 rw [e,v_val_append,List.length_take,Nat.min_eq_left (Nat.le_of_lt h)]
 show _ + v_pow i * (l.getD i 0 + 1000000000 * 0)=_
 rw [Int.mul_zero,Int.add_zero]
theorem v_dgok_take {l:List Int} (h:v_dgok l) (i:Nat):v_dgok (l.take i) := fun d hd => h d (List.mem_of_mem_take hd)
theorem v_dgok_drop {l:List Int} (h:v_dgok l) (i:Nat):v_dgok (l.drop i) := fun d hd => h d (List.mem_of_mem_drop hd)
theorem v_dgok_get {l:List Int} (h:v_dgok l) (i:Nat):0≤l.getD i 0∧l.getD i 0 < 1000000000 := by
 rcases Nat.lt_or_ge i l.length with hi | hi
 ·exact h _ (getD_mem' 0 hi)
 ·rw [List.getD_eq_getElem?_getD,List.getElem?_eq_none hi]; simp
theorem v_dgok_snoc {l:List Int} {x:Int} (h:v_dgok l) (hx:0≤x∧x < 1000000000):v_dgok (l ++ [x]) := fun d hd => by
 rcases List.mem_append.1 hd with hd | hd
 ·exact h d hd
 ·simp at hd; subst hd; exact hx
theorem v_dgok_set {l:List Int} {x:Int} {i:Nat} (h:v_dgok l) (hx:0≤x∧x < 1000000000):v_dgok (l.set i x) := fun d hd => by
 rcases List.mem_or_eq_of_mem_set hd with hd | rfl
 ·exact h d hd
 ·exact hx
theorem v_val_snoc (l:gF) (x:Int):v_val (l ++ [x])=v_val l + v_pow l.length * x := by
 rw [v_val_append]
 show _ + v_pow l.length * (x + 1000000000 * 0)=_
 rw [Int.mul_zero,Int.add_zero]
theorem v_dcmp_lt {a b:List Int} (ha:v_dgok a) (hb:v_dgok b) {i:Nat} (hia:i < a.length) (hib:i < b.length) (hd:a.drop (i + 1)=b.drop (i + 1)) (h:a.getD i 0 < b.getD i 0):v_val a < v_val b := by
 rw [v_val_split a i hia,v_val_split b i hib,hd]
 have h1 := v_val_lt (v_dgok_take ha i)
 rw [List.length_take,Nat.min_eq_left (Nat.le_of_lt hia)] at h1
 have h2 := v_val_nn (v_dgok_take hb i)
 have h3 := v_pow_pos i
 have := Int.mul_le_mul_of_nonneg_left (show 1≤b.getD i 0 - a.getD i 0 by omega) (show 0≤v_pow i by omega)
 rw [Int.mul_add,Int.mul_add]
 rw [Int.mul_sub] at this
 omega
/-- Rounds from a number down to 0; t: what is carried besides. -/
theorem down_is {τ σ ρ:Type} {dd:ρ} {st:σ→σ ⊕ ρ} {sp:σ→List Prop} (mk:Int→τ→σ) (n:Nat) (I:Nat→τ→Prop) (F:Nat→τ→ρ) (hl:n≤4611686018427387904)
  (hn:∀ t,I 0 t→(∀ p∈sp (mk (-1) t),p)∧st (mk (-1) t) = .inr (F 0 t))
  (hc:∀ (j:Nat) (t:τ),j < n→I (j + 1) t→(∀ p∈sp (mk j t),p)∧((∃ t',st (mk j t) = .inl (mk ((j:Int) - 1) t')∧I j t'∧F j t' = F (j + 1) t) ∨ st (mk j t) = .inr (F (j + 1) t))) (t:τ) (h:I n t):OkL st sp (mk ((n:Int) - 1) t)∧lpv dd st (mk ((n:Int) - 1) t)=F n t := by
 have key:∀ (j f:Nat) (t:τ),j≤n→j < f→I j t→OkN st sp f (mk ((j:Int) - 1) t)∧runL dd st f (mk ((j:Int) - 1) t)=F j t := by
  intro j
  induction j with
  | zero =>
   intro f t _ hf hi
   obtain ⟨g1,g2⟩ := hn t hi
   cases f with
   | zero => omega
   | succ f => unfold OkN runL; rw [show ((0:Nat):Int) - 1 = -1 from rfl,g2]; exact ⟨⟨g1,trivial⟩,rfl⟩
  | succ j ih =>
   intro f t hjn hf hi
   obtain ⟨g1,g2⟩ := hc j t (by omega) hi
   cases f with
   | zero => omega
   | succ f =>
    unfold OkN runL
    rw [show ((j + 1:Nat):Int) - 1 = (j:Int) by omega]
    rcases g2 with ⟨t',e,i',f'⟩ | e
    ·rw [e]
     obtain ⟨q1,q2⟩ := ih f t' (by omega) (by omega) i'
     exact ⟨⟨g1,q1⟩,by rw [← f']; exact q2⟩
    ·rw [e]; exact ⟨⟨g1,trivial⟩,rfl⟩
 exact key n fuel t (Nat.le_refl _) (by unfold fuel; omega) h
/-- What holds at each round,and falls,ends in what is asked. -/
theorem loop_post {σ ρ:Type} {d:ρ} {st:σ→σ ⊕ ρ} {sp:σ→List Prop} (I:σ→Prop) (μ:σ→Nat) (R:ρ→Prop)
  (h:∀ x,I x→(∀ p∈sp x,p)∧match st x with | .inl y => I y∧μ y < μ x | .inr r => R r) {x:σ} (hx:I x) (hm:μ x < fuel):OkL st sp x∧R (lpv d st x) := by
 have key:∀ (n:Nat) (x:σ),I x→μ x < n→OkN st sp n x∧R (runL d st n x) := by
  intro n
  induction n with
  | zero => intro x _ hn; omega
  | succ n ih =>
   intro x hi hn
   obtain ⟨h1,h2⟩ := h x hi
   unfold OkN runL
   cases hst:st x with
   | inl y =>
    rw [hst] at h2
    obtain ⟨q1,q2⟩ := ih y h2.1 (by omega)
    exact ⟨⟨h1,q1⟩,q2⟩
   | inr r => rw [hst] at h2; exact ⟨⟨h1,trivial⟩,h2⟩
 exact key fuel x hx hm
theorem for_post {τ σ ρ:Type} {dd:ρ} {st:σ→σ ⊕ ρ} {sp:σ→List Prop} (mk:Int→τ→σ) (a n:Nat) (I:Nat→τ→Prop) (R:ρ→Prop) (ha:a≤n) (hl:n≤4611686018427387904)
  (hn:∀ t,I n t→(∀ p∈sp (mk n t),p)∧∃ r,st (mk n t) = .inr r∧R r)
  (hc:∀ (j:Nat) (t:τ),a≤j→j < n→I j t→(∀ p∈sp (mk j t),p)∧((∃ t',st (mk j t) = .inl (mk ((j + 1:Nat):Int) t')∧I (j + 1) t') ∨ ∃ r,st (mk j t) = .inr r∧R r)) (t:τ) (h:I a t):OkL st sp (mk a t)∧R (lpv dd st (mk a t)) := by
 have key:∀ (m j f:Nat) (t:τ),a≤j→m + j = n→m < f→I j t→OkN st sp f (mk j t)∧R (runL dd st f (mk j t)) := by
  intro m
  induction m with
  | zero =>
   intro j f t _ hj hf hi
   have:j = n := by omega
   subst this
   obtain ⟨g1,r,g2,g3⟩ := hn t hi
   cases f with
   | zero => omega
   | succ f => unfold OkN runL; rw [g2]; exact ⟨⟨g1,trivial⟩,g3⟩
  | succ m ih =>
   intro j f t haj hj hf hi
   obtain ⟨g1,g2⟩ := hc j t haj (by omega) hi
   cases f with
   | zero => omega
   | succ f =>
    unfold OkN runL
    rcases g2 with ⟨t',e,i'⟩ | ⟨r,e,g3⟩
    ·rw [e]
     obtain ⟨q1,q2⟩ := ih (j + 1) f t' (by omega) (by omega) (by omega) i'
     exact ⟨⟨g1,q1⟩,q2⟩
    ·rw [e]; exact ⟨⟨g1,trivial⟩,g3⟩
 exact key (n - a) a fuel t (Nat.le_refl _) (by omega) (by unfold fuel; omega) h
/-- A sum,digit by digit: a round. -/
theorem v_add_round {out:List Int} {s R X:Int} (h:v_val out + v_pow out.length * (s + 1000000000 * R)=X):v_val (out ++ [s % 1000000000]) + v_pow (out.length + 1) * (s / 1000000000 + R)=X := by
 rw [v_val_snoc,v_pow_s,← h]
 have e:s = 1000000000 * (s / 1000000000) + s % 1000000000 := (Int.mul_ediv_add_emod s 1000000000).symm
 generalize s / 1000000000 = q at *
 generalize s % 1000000000 = r at *
 subst e
 grind
/-- A product,digit by digit: a round. -/
theorem v_mul_round {out b:List Int} {i k:Nat} {x c s V:Int} (hk:k < b.length) (ho:i + k < out.length) (hs:s = out.getD (i + k) 0 + x * b.getD k 0 + c)
  (h:v_val out + c * v_pow (i + k)=V + x * v_pow i * v_val (b.take k)):v_val (out.set (i + k) (s % 1000000000)) + (s / 1000000000) * v_pow (i + k + 1)=V + x * v_pow i * v_val (b.take (k + 1)) := by
 rw [v_val_set _ _ _ ho,v_val_take_s hk,v_pow_s,v_pow_add]
 rw [v_pow_add] at h
 have e:s = 1000000000 * (s / 1000000000) + s % 1000000000 := (Int.mul_ediv_add_emod s 1000000000).symm
 generalize s / 1000000000 = q at *
 generalize s % 1000000000 = r at *
 generalize out.getD (i + k) 0 = o at *
 generalize b.getD k 0 = d at *
 generalize v_pow i = P at *
 generalize v_pow k = Q at *
 generalize v_val out = X at *
 generalize v_val (b.take k)=Y at *
 grind
theorem v_mul_small {o x d c:Int} (ho:0≤o∧o < 1000000000) (hx:0≤x∧x < 1000000000) (hd:0≤d∧d < 1000000000) (hc:0≤c∧c < 1000000000):0≤x * d∧x * d≤999999998000000001∧0≤o + x * d + c∧(o + x * d + c) / 1000000000 < 1000000000 := by
 have h1:0≤x * d := Int.mul_nonneg hx.1 hd.1
 have h2:0≤(999999999 - x) * (999999999 + d) := Int.mul_nonneg (by omega) (by omega)
 have h3:0≤(999999999 + x) * (999999999 - d) := Int.mul_nonneg (by omega) (by omega)
 have h4:0≤(999999999 - x) * (999999999 - d) := Int.mul_nonneg (by omega) (by omega)
 simp only [Int.sub_mul,Int.mul_sub,Int.mul_add,Int.add_mul] at h2 h3 h4
 omega
theorem v_trim_z:∀ (l:gF),v_trim (l ++ [0])=v_trim l
 | [] => rfl
 | d :: r => by
  rw [List.cons_append]
  unfold v_trim
  rw [v_trim_z r]
theorem v_trim_n {d:Int} (h:d ≠ 0):∀ (l:gF),v_trim (l ++ [d])=l ++ [d]
 | [] => by
  show (match v_trim [] with | [] => cond (d == 0) [] [d] | x :: q => d :: x :: q)=_
  rw [show v_trim []=[] from rfl]
  simp only
  rw [show (d == 0)=false from beq_eq_false_iff_ne.2 h]; rfl
 | x :: r => by
  rw [List.cons_append]
  unfold v_trim
  rw [v_trim_n h r]
  cases r <;> rfl
theorem l_Zl_0 (p0:gF) (h:p0.length≤10000000000000):OkL (st_Zl_0 p0) (sp_Zl_0 p0) (p0.length:Int)∧lpv ([]:List Int) (st_Zl_0 p0) (p0.length:Int)=v_trim p0 := by
 refine loop_is (fun (y:Int) => 0≤y∧y≤p0.length∧v_trim (p0.take y.toNat)=v_trim p0) (fun (y:Int) => y.toNat) (fun _ => v_trim p0) ?_ ⟨by omega,Int.le_refl _,by rw [Int.toNat_natCast,List.take_length]⟩ (by unfold fuel; omega)
 rintro y ⟨h1,h2,h3⟩
 rcases Int.lt_or_le 0 y with h0 | h0
 ·have hw:IntKind.i64.wrap (y - 1)=y - 1 := wrap_id (by omega) (by omega)
  have hk:(y - 1).toNat < p0.length := by omega
  have ht := take_snoc hk
  rw [show (y - 1).toNat + 1 = y.toNat by omega] at ht
  simp only [sp_Zl_0,st_Zl_0,hw,decide_eq_true (show y > 0 from h0),fM,cond_true]
  refine ⟨⟨fun _ => by omega,fun _ => by omega,fun _ => by omega,fun _ => h2,by simp⟩,?_⟩
  rcases int0 (p0.getD (y - 1).toNat 0) with ⟨z,_,e⟩ | ⟨z,_,e⟩ <;> rw [e]
  ·simp only [cond_true]
   refine ⟨⟨by omega,by omega,?_⟩,by omega,trivial⟩
   rw [← h3,ht,z,v_trim_z]
  ·simp only [cond_false]
   rw [← h3,ht,v_trim_n z]
 ·have:y = 0 := by omega
  subst this
  simp only [sp_Zl_0,st_Zl_0,decide_eq_false (show ¬ (0:Int) > 0 by omega),fM,cond_false]
  refine ⟨⟨fun h => (by cases h),fun h => (by cases h),fun _ => Int.le_refl _,fun _ => h2,by simp⟩,?_⟩
  rw [← h3]; rfl
abbrev t_Zl (p0:gF):List Int := v_trim p0
abbrev qre_Zl (p0:gF):List Prop := [p0.length≤10000000000000]
theorem pp_Zl (p0:gF) (hq:∀ p∈qre_Zl p0,p):∀ p∈pre_Zl p0,p := by
 simp only [pre_Zl,fM]
 exact ⟨(l_Zl_0 p0 (conj_of hq).1).1,by simp⟩
theorem tt_Zl (p0:gF) (hq:∀ p∈qre_Zl p0,p):s_Zl p0 = t_Zl p0 := by
 exact (l_Zl_0 p0 (conj_of hq).1).2

abbrev con_Zl:Con := ⟨P_Zl,R_Zl,fun x => qre_Zl x,fun x => t_Zl x⟩
theorem ok_Zl:ConOk Try.prog 156 con_Zl := okG k_Zl e_Zl hC_Zl fun x hx => tf_of (w_Zl_eq x _) (d_Zl x _ (pp_Zl x hx) (tt_Zl x hx))
def C_Zk:Cons := []
theorem hC_Zk:ConsOk Try.prog C_Zk := ConsOk.nil
def w_Zk (p0:gF) (p1:gF) (K:Int→Prop):Prop := (((((p0.length:Int) != (p1.length:Int))=true) →((((decide ((p0.length:Int) < (p1.length:Int)))=true) →(K (-1:Int))) ∧(((decide ((p0.length:Int) < (p1.length:Int)))=false) →(K zz1)))) ∧((((p0.length:Int) != (p1.length:Int))=false) →(∃ n0,(loopP (fun (y1:Int) k2 => ((((decide (y1 ≥ 0))=true) →((zz0≤y1) ∧((y1 < (p0.length:Int)) ∧((zz0≤y1) ∧((y1 < (p1.length:Int)) ∧((((decide ((p0.getD y1.toNat zz0) < (p1.getD y1.toNat zz0)))=true) →(K (-1:Int))) ∧(((decide ((p0.getD y1.toNat zz0) < (p1.getD y1.toNat zz0)))=false) →((zz0≤y1) ∧((y1 < (p0.length:Int)) ∧((zz0≤y1) ∧((y1 < (p1.length:Int)) ∧((((decide ((p0.getD y1.toNat zz0) > (p1.getD y1.toNat zz0)))=true) →(K zz1)) ∧(((decide ((p0.getD y1.toNat zz0) > (p1.getD y1.toNat zz0)))=false) →(k2 (IntKind.i64.wrap (y1 - 1)))))))))))))))) ∧(((decide (y1 ≥ 0))=false) →(K zz0)))) n0 (IntKind.i64.wrap ((p0.length:Int) - 1))))))
theorem w_Zk_eq (p0:gF) (p1:gF) (K:Int→Prop):tfn F_Zk A_Zk C_Zk P_Zk R_Zk (p0,p1) K = w_Zk p0 p1 K := by kernel_rfl
def st_Zk_0 (p0:gF) (p1:gF) (y2:Int):Int ⊕ Int := (cond (decide (y2 ≥ 0)) (cond (decide ((p0.getD y2.toNat (0:Int)) < (p1.getD y2.toNat (0:Int)))) (Sum.inr (-1:Int)) (cond (decide ((p0.getD y2.toNat (0:Int)) > (p1.getD y2.toNat (0:Int)))) (Sum.inr (1:Int)) (Sum.inl (IntKind.i64.wrap (y2 - 1))))) (Sum.inr (0:Int)))
abbrev sp_Zk_0 (p0:gF) (p1:gF) (y2:Int):List Prop := [(((decide (y2 ≥ 0))=true)→((0:Int)≤y2)),(((decide (y2 ≥ 0))=true)→(y2 < (p0.length:Int))),(((decide (y2 ≥ 0))=true)→(y2 < (p1.length:Int))),(((decide (y2 ≥ 0))=true)→(((decide ((p0.getD y2.toNat (0:Int)) < (p1.getD y2.toNat (0:Int))))=false)→((0:Int)≤y2))),(((decide (y2 ≥ 0))=true)→(((decide ((p0.getD y2.toNat (0:Int)) < (p1.getD y2.toNat (0:Int))))=false)→(y2 < (p0.length:Int)))),(((decide (y2 ≥ 0))=true)→(((decide ((p0.getD y2.toNat (0:Int)) < (p1.getD y2.toNat (0:Int))))=false)→(y2 < (p1.length:Int))))]
def s_Zk (p0:gF) (p1:gF):Int := (cond ((p0.length:Int) != (p1.length:Int)) (cond (decide ((p0.length:Int) < (p1.length:Int))) (-1:Int) (1:Int)) (lpv (0:Int) (st_Zk_0 p0 p1) (IntKind.i64.wrap ((p0.length:Int) - 1))))
abbrev pre_Zk (p0:gF) (p1:gF):List Prop := [((((p0.length:Int) != (p1.length:Int))=false)→(OkL (st_Zk_0 p0 p1) (sp_Zk_0 p0 p1) (IntKind.i64.wrap ((p0.length:Int) - 1))))]
theorem d_Zk (p0:gF) (p1:gF) (K:Int→Prop) (hp:∀ p∈pre_Zk p0 p1,p) (h:K (s_Zk p0 p1)):w_Zk p0 p1 K := by
 unfold w_Zk
 unfold s_Zk at h
 obtain ⟨hp0,_⟩ := conj_of hp
 exact (br' h (fun e0 h => (br' h (fun e1 h => h)
  (fun e1 h => h)))
  (fun e0 h => (loop_gen (hp0 e0) h (fun y2 k2 hp h => by
 unfold st_Zk_0 at h; obtain ⟨hp0,hp1,hp2,hp3,hp4,hp5,_⟩ := conj_of hp
 exact (br' h (fun e3 h => ⟨(hp0 e3),(hp1 e3),(hp0 e3),(hp2 e3),(br' h (fun e4 h => h)
  (fun e4 h => ⟨(hp3 e3 e4),(hp4 e3 e4),(hp3 e3 e4),(hp5 e3 e4),(br' h (fun e5 h => h)
  (fun e5 h => h))⟩))⟩)
  (fun e3 h => h))))))
/-- Digits that are those of their number. -/
structure v_can (l:gF):Prop where
 eq:l = v_digs (v_val l).toNat
 len:l.length≤1000000000000
theorem v_can.ok {l:List Int} (h:v_can l):v_dgok l := by rw [h.eq]; exact v_digs_ok _
theorem v_can.lt {a b:List Int} (ha:v_can a) (hb:v_can b) (h:a.length < b.length):v_val a < v_val b := by
 have h1 := v_val_nn ha.ok
 have h2 := v_val_nn hb.ok
 have := v_digs_len_lt (m := (v_val a).toNat) (n := (v_val b).toNat) (by rw [← ha.eq,← hb.eq]; exact h)
 omega
theorem l_Zk_0 (p0 p1:gF) (h1:v_can p0) (h2:v_can p1) (hl:p0.length = p1.length):OkL (st_Zk_0 p0 p1) (sp_Zk_0 p0 p1) (IntKind.i64.wrap ((p0.length:Int) - 1))∧lpv (0:Int) (st_Zk_0 p0 p1) (IntKind.i64.wrap ((p0.length:Int) - 1))=v_cmp (v_val p0) (v_val p1) := by
 have hlen := h1.len
 rw [wrap_id (n := (p0.length:Int) - 1) (by omega) (by omega)]
 refine down_is (dd := (0:Int)) (fun i (_:Unit) => i) p0.length (fun j _ => p0.drop j = p1.drop j) (fun _ _ => v_cmp (v_val p0) (v_val p1)) (by omega) ?_ ?_ () (by rw [List.drop_length,hl,List.drop_length])
 ·intro _ h
  simp only [List.drop_zero] at h
  subst h
  simp only [sp_Zk_0,st_Zk_0,fM,show decide ((-1:Int) ≥ 0)=false from rfl,cond_false]
  refine ⟨⟨fun h => (by cases h),fun h => (by cases h),fun h => (by cases h),fun h => (by cases h),fun h => (by cases h),fun h => (by cases h),by simp⟩,?_⟩
  unfold v_cmp
  rw [decide_eq_false (by omega)]; rfl
 ·intro j _ hj h
  have hj1:j < p1.length := by omega
  have hd:decide ((j:Int) ≥ 0)=true := decide_eq_true (by omega)
  have hw:IntKind.i64.wrap ((j:Int) - 1)=(j:Int) - 1 := wrap_id (by omega) (by omega)
  simp only [sp_Zk_0,st_Zk_0,fM,hd,cond_true,Int.toNat_natCast,hw]
  refine ⟨⟨fun _ => by omega,fun _ => by omega,fun _ => by omega,fun _ _ => by omega,fun _ _ => by omega,fun _ _ => by omega,by simp⟩,?_⟩
  rcases Int.lt_trichotomy (p0.getD j 0) (p1.getD j 0) with c | c | c
  ·right
   rw [decide_eq_true c,cond_true]
   have := v_dcmp_lt h1.ok h2.ok hj hj1 h c
   unfold v_cmp
   rw [decide_eq_true this]; rfl
  ·left
   rw [decide_eq_false (show ¬ p0.getD j 0 < p1.getD j 0 by omega),decide_eq_false (show ¬ p0.getD j 0 > p1.getD j 0 by omega),cond_false,cond_false]
   exact ⟨(),rfl,by rw [drop_getD 0 hj,drop_getD 0 hj1,h,c],trivial⟩
  ·right
   rw [decide_eq_false (show ¬ p0.getD j 0 < p1.getD j 0 by omega),decide_eq_true (show p0.getD j 0 > p1.getD j 0 from c),cond_true,cond_false]
   have := v_dcmp_lt h2.ok h1.ok hj1 hj h.symm c
   unfold v_cmp
   rw [decide_eq_false (show ¬ v_val p0 < v_val p1 by omega),decide_eq_true (show v_val p0 > v_val p1 from this)]; rfl
abbrev t_Zk (p0:gF) (p1:gF):Int := v_cmp (v_val p0) (v_val p1)
abbrev qre_Zk (p0:gF) (p1:gF):List Prop := [v_can p0,v_can p1]
theorem pp_Zk (p0:gF) (p1:gF) (hq:∀ p∈qre_Zk p0 p1,p):∀ p∈pre_Zk p0 p1,p := by
 obtain ⟨h1,h2,_⟩ := conj_of hq
 simp only [pre_Zk,fM]
 exact ⟨fun h => (l_Zk_0 p0 p1 h1 h2 (by simp at h; omega)).1,by simp⟩
theorem tt_Zk (p0:gF) (p1:gF) (hq:∀ p∈qre_Zk p0 p1,p):s_Zk p0 p1 = t_Zk p0 p1 := by
 obtain ⟨h1,h2,_⟩ := conj_of hq
 unfold s_Zk t_Zk
 rcases Nat.lt_trichotomy p0.length p1.length with h | h | h
 ·rw [show ((p0.length:Int) != (p1.length:Int))=true from bne_iff_ne.2 (by omega),decide_eq_true (by omega)]
  have := h1.lt h2 h
  unfold v_cmp
  rw [decide_eq_true this]; rfl
 ·have e := (l_Zk_0 p0 p1 h1 h2 h).2
  rw [e,h,bne_self_eq_false,cond_false]
 ·rw [show ((p0.length:Int) != (p1.length:Int))=true from bne_iff_ne.2 (by omega),decide_eq_false (by omega)]
  have := h2.lt h1 h
  unfold v_cmp
  rw [decide_eq_false (by omega),decide_eq_true (show v_val p0 > v_val p1 from this)]; rfl

abbrev con_Zk:Con := ⟨P_Zk,R_Zk,fun x => qre_Zk x.1 x.2,fun x => t_Zk x.1 x.2⟩
theorem ok_Zk:ConOk Try.prog 150 con_Zk := okG k_Zk e_Zk hC_Zk fun x hx => tf_of (w_Zk_eq x.1 x.2 _) (d_Zk x.1 x.2 _ (pp_Zk x.1 x.2 hx) (tt_Zk x.1 x.2 hx))
def C_Zp:Cons := [(156,[],con_Zl)]
theorem hC_Zp:ConsOk Try.prog C_Zp := cC ok_Zl <| ConsOk.nil
def w_Zp (p0:Int) (p1:gF) (K:(Int×(List Int))→Prop):Prop := ((p1.length≤10000000000000) ∧(((((((v_trim p1).length:Nat):Int) == 0)=true) →(K (zz0,(v_trim p1)))) ∧((((((v_trim p1).length:Nat):Int) == 0)=false) →(K (p0,(v_trim p1))))))
theorem w_Zp_eq (p0:Int) (p1:gF) (K:(Int×(List Int))→Prop):tfn F_Zp A_Zp C_Zp P_Zp R_Zp (p0,p1) K = w_Zp p0 p1 K := by kernel_rfl
def s_Zp (p0:Int) (p1:gF):(Int×(List Int)) := (cond ((((v_trim p1).length:Nat):Int) == 0) ((0:Int),(v_trim p1)) (p0,(v_trim p1)))
abbrev pre_Zp (_p0:Int) (p1:gF):List Prop := [(p1.length≤10000000000000)]
theorem d_Zp (p0:Int) (p1:gF) (K:(Int×(List Int))→Prop) (hp:∀ p∈pre_Zp p0 p1,p) (h:K (s_Zp p0 p1)):w_Zp p0 p1 K := by
 unfold w_Zp
 unfold s_Zp at h
 obtain ⟨hp0,_⟩ := conj_of hp
 exact ⟨(hp0),(br' h (fun e0 h => h)
  (fun e0 h => h))⟩
/-- A sign that fits digits. -/
def v_sgn (s:Int) (l:gF):Prop := s = 1 ∨ s = -1 ∨ v_val l = 0
abbrev t_Zp (p0:Int) (p1:gF):Int×List Int := v_wide (p0 * v_val p1)
abbrev qre_Zp (p0:Int) (p1:gF):List Prop := [v_sgn p0 p1,v_dgok p1,p1.length≤10000000000000]
theorem pp_Zp (p0:Int) (p1:gF) (hq:∀ p∈qre_Zp p0 p1,p):∀ p∈pre_Zp p0 p1,p := by
 obtain ⟨_,_,h3,_⟩ := conj_of hq
 simp only [pre_Zp,fM]
 exact ⟨h3,by simp⟩
theorem tt_Zp (p0:Int) (p1:gF) (hq:∀ p∈qre_Zp p0 p1,p):s_Zp p0 p1 = t_Zp p0 p1 := by
 obtain ⟨h1,h2,_⟩ := conj_of hq
 have hn := v_val_nn h2
 unfold s_Zp t_Zp v_wide
 rw [v_trim_is h2]
 rcases Decidable.em (v_val p1 = 0) with z | z
 ·rw [z,Int.mul_zero,show (0:Int).toNat = 0 from rfl]
  show cond (((v_digs 0).length:Int) == 0) ((0:Int),v_digs 0) (p0,v_digs 0)=((0:Int),v_digs 0)
  rw [v_digs_0]; rfl
 ·have hp:v_digs (v_val p1).toNat ≠ [] := by rw [v_digs_pos (by omega)]; simp
  have hl:((v_digs (v_val p1).toNat).length:Int) ≠ 0 := by have := List.length_pos_iff.2 hp; omega
  rw [show (((v_digs (v_val p1).toNat).length:Int) == 0)=false from beq_eq_false_iff_ne.2 hl]
  rcases h1 with rfl | rfl | h1
  ·rw [Int.one_mul,Int.sign_eq_one_of_pos (by omega)]
   simp only [cond_false]
   congr 2
   omega
  ·rw [show -1 * v_val p1 = -(v_val p1) by omega,Int.sign_eq_neg_one_of_neg (by omega)]
   simp only [cond_false]
   congr 2
   omega
  ·exact absurd h1 z

abbrev con_Zp:Con := ⟨P_Zp,R_Zp,fun x => qre_Zp x.1 x.2,fun x => t_Zp x.1 x.2⟩
theorem ok_Zp:ConOk Try.prog 146 con_Zp := okG k_Zp e_Zp hC_Zp fun x hx => tf_of (w_Zp_eq x.1 x.2 _) (d_Zp x.1 x.2 _ (pp_Zp x.1 x.2 hx) (tt_Zp x.1 x.2 hx))
def C_Zo:Cons := []
theorem hC_Zo:ConsOk Try.prog C_Zo := ConsOk.nil
def w_Zo (p0:gE) (K:(Int×(List Int))→Prop):Prop := (K ((IntKind.i64.wrap (zz0 - p0.1)),p0.2))
theorem w_Zo_eq (p0:gE) (K:(Int×(List Int))→Prop):tfn F_Zo A_Zo C_Zo P_Zo R_Zo p0 K = w_Zo p0 K := by kernel_rfl
def s_Zo (p0:gE):(Int×(List Int)) := ((IntKind.i64.wrap ((0:Int) - p0.1)),p0.2)
abbrev pre_Zo (_p0:gE):List Prop := []
theorem d_Zo (p0:gE) (K:(Int×(List Int))→Prop) (_hp:∀ p∈pre_Zo p0,p) (h:K (s_Zo p0)):w_Zo p0 K := by
 unfold w_Zo
 unfold s_Zo at h
 exact h
/-- A number that is as it should be. -/
structure v_wok (p:Int×List Int):Prop where
 eq:p = v_wide (v_wval p)
 ln:p.2.length≤1000000000000
/-- How many digits a number has. -/
def v_dl (n:Int):Nat := (v_digs n.natAbs).length
theorem v_wok.ex {p:Int×List Int} (h:v_wok p):∃ n:Int,p = v_wide n∧v_dl n≤1000000000000 := ⟨_,h.eq,by have := h.ln; rw [h.eq] at this; exact this⟩
theorem v_wok_of {n:Int} (h:v_dl n≤1000000000000):v_wok (v_wide n) := ⟨by rw [v_wval_wide],h⟩
theorem v_digs_mono {m n:Nat} (h:m≤n):(v_digs m).length≤(v_digs n).length := by
 rcases Nat.lt_or_ge (v_digs n).length (v_digs m).length with k | k
 ·have := v_digs_len_lt k; omega
 ·exact k
theorem v_dl_mono {m n:Int} (h:m.natAbs≤n.natAbs):v_dl m≤v_dl n := v_digs_mono h
theorem v_dl_mul (m n:Int):v_dl (m * n)≤v_dl m + v_dl n := by
 unfold v_dl
 refine v_digs_len ?_
 have h1 := v_digs_high m.natAbs
 have h2 := v_digs_high n.natAbs
 rw [Int.natAbs_mul,v_pow_add,Int.natCast_mul]
 rcases Int.lt_or_le 0 (n.natAbs:Int) with k | k
 ·exact Int.lt_of_lt_of_le (Int.mul_lt_mul_of_pos_right h1 k) (Int.mul_le_mul_of_nonneg_left (Int.le_of_lt h2) (by have := v_pow_pos (v_digs m.natAbs).length; omega))
 ·have:(n.natAbs:Int)=0 := by omega
  rw [this,Int.mul_zero,← v_pow_add]
  have := v_pow_pos ((v_digs m.natAbs).length + (v_digs n.natAbs).length); omega
theorem v_dl_add (m n:Int):v_dl (m + n)≤max (v_dl m) (v_dl n) + 1 := by
 unfold v_dl
 refine v_digs_len ?_
 have h1 := v_digs_high m.natAbs
 have h2 := v_digs_high n.natAbs
 have h3 := v_pow_le (Nat.le_max_left (v_digs m.natAbs).length (v_digs n.natAbs).length)
 have h4 := v_pow_le (Nat.le_max_right (v_digs m.natAbs).length (v_digs n.natAbs).length)
 have h5 := v_pow_pos (max (v_digs m.natAbs).length (v_digs n.natAbs).length)
 rw [v_pow_s]; omega
theorem v_dl_neg (n:Int):v_dl (-n)=v_dl n := by unfold v_dl; rw [Int.natAbs_neg]
theorem v_wide_1 (n:Int):(v_wide n).1 = n.sign := rfl
theorem v_wide_val (n:Int):v_val (v_wide n).2 = n.natAbs := v_digs_val _
theorem v_wide_ok (n:Int):v_dgok (v_wide n).2 := v_digs_ok _
theorem v_wide_len (n:Int):(v_wide n).2.length = v_dl n := rfl
theorem v_wide_can {n:Int} (h:v_dl n≤1000000000000):v_can (v_wide n).2 := ⟨by rw [v_wide_val,Int.toNat_natCast]; rfl,h⟩
theorem v_sign_abs (n:Int):n.sign * (n.natAbs:Int)=n := Int.sign_mul_natAbs n
theorem v_sign3 (n:Int):(n < 0∧n.sign = -1∧(n.sign == 0)=false) ∨ (n = 0∧n.sign = 0∧(n.sign == 0)=true) ∨ (0 < n∧n.sign = 1∧(n.sign == 0)=false) := by
 rcases Int.lt_trichotomy n 0 with h | h | h
 ·have e := Int.sign_eq_neg_one_of_neg h; exact .inl ⟨h,e,by rw [e]; rfl⟩
 ·subst h; exact .inr (.inl ⟨rfl,rfl,rfl⟩)
 ·have e := Int.sign_eq_one_of_pos h; exact .inr (.inr ⟨h,e,by rw [e]; rfl⟩)
theorem v_cmp_sign (a b:Int):(a - b).sign = v_cmp a b := by
 unfold v_cmp
 rcases Int.lt_trichotomy a b with h | h | h
 ·rw [decide_eq_true h,Int.sign_eq_neg_one_of_neg (by omega)]; rfl
 ·subst h; rw [Int.sub_self,decide_eq_false (by omega)]; rfl
 ·rw [decide_eq_false (show ¬ a < b by omega),decide_eq_true (show a > b from h),Int.sign_eq_one_of_pos (by omega)]; rfl
abbrev t_Zo (p0:Int×List Int):Int×List Int := v_wide (-(v_wval p0))
abbrev qre_Zo (p0:Int×List Int):List Prop := [v_wok p0]
theorem pp_Zo (p0:Int×List Int) (_hq:∀ p∈qre_Zo p0,p):∀ p∈pre_Zo p0,p := by
 simp [pre_Zo]
theorem tt_Zo (p0:Int×List Int) (hq:∀ p∈qre_Zo p0,p):s_Zo p0 = t_Zo p0 := by
 obtain ⟨n,rfl,h⟩ := (conj_of hq).1.ex
 unfold s_Zo t_Zo
 rw [v_wval_wide]
 unfold v_wide
 rw [Int.natAbs_neg,Int.sign_neg]
 rcases v_sign3 n with ⟨_,e,_⟩ | ⟨_,e,_⟩ | ⟨_,e,_⟩ <;> rw [e] <;> rfl

abbrev con_Zo:Con := ⟨P_Zo,R_Zo,fun x => qre_Zo x,fun x => t_Zo x⟩
theorem ok_Zo:ConOk Try.prog 141 con_Zo := okG k_Zo e_Zo hC_Zo fun x hx => tf_of (w_Zo_eq x _) (d_Zo x _ (pp_Zo x hx) (tt_Zo x hx))
def C_Zy:Cons := []
theorem hC_Zy:ConsOk Try.prog C_Zy := ConsOk.nil
def w_Zy (p0:gF) (p1:Int) (K:Int→Prop):Prop := ((((decide (p1 < (p0.length:Int)))=true) →((zz0≤p1) ∧((p1 < (p0.length:Int)) ∧(K (p0.getD p1.toNat zz0))))) ∧(((decide (p1 < (p0.length:Int)))=false) →(K zz0)))
theorem w_Zy_eq (p0:gF) (p1:Int) (K:Int→Prop):tfn F_Zy A_Zy C_Zy P_Zy R_Zy (p0,p1) K = w_Zy p0 p1 K := by kernel_rfl
def s_Zy (p0:gF) (p1:Int):Int := (cond (decide (p1 < (p0.length:Int))) (p0.getD p1.toNat (0:Int)) (0:Int))
abbrev pre_Zy (p0:gF) (p1:Int):List Prop := [(((decide (p1 < (p0.length:Int)))=true)→((0:Int)≤p1)),(((decide (p1 < (p0.length:Int)))=true)→(p1 < (p0.length:Int)))]
theorem d_Zy (p0:gF) (p1:Int) (K:Int→Prop) (hp:∀ p∈pre_Zy p0 p1,p) (h:K (s_Zy p0 p1)):w_Zy p0 p1 K := by
 unfold w_Zy
 unfold s_Zy at h
 obtain ⟨hp0,hp1,_⟩ := conj_of hp
 exact (br' h (fun e0 h => ⟨(hp0 e0),(hp1 e0),h⟩)
  (fun e0 h => h))
abbrev t_Zy (p0:gF) (p1:Int):Int := p0.getD p1.toNat 0
abbrev qre_Zy (_p0:gF) (p1:Int):List Prop := [0≤p1]
theorem pp_Zy (p0:gF) (p1:Int) (hq:∀ p∈qre_Zy p0 p1,p):∀ p∈pre_Zy p0 p1,p := by
 have h := (conj_of hq).1
 simp only [pre_Zy,fM]
 exact ⟨fun _ => h,fun c => of_decide_eq_true c,by simp⟩
theorem tt_Zy (p0:gF) (p1:Int) (hq:∀ p∈qre_Zy p0 p1,p):s_Zy p0 p1 = t_Zy p0 p1 := by
 have h := (conj_of hq).1
 unfold s_Zy t_Zy
 rcases Int.lt_or_le p1 p0.length with c | c
 ·rw [decide_eq_true c]; rfl
 ·rw [decide_eq_false (by omega),gd_out 0 (by omega)]; rfl

abbrev con_Zy:Con := ⟨P_Zy,R_Zy,fun x => qre_Zy x.1 x.2,fun x => t_Zy x.1 x.2⟩
theorem ok_Zy:ConOk Try.prog 158 con_Zy := okG k_Zy e_Zy hC_Zy fun x hx => tf_of (w_Zy_eq x.1 x.2 _) (d_Zy x.1 x.2 _ (pp_Zy x.1 x.2 hx) (tt_Zy x.1 x.2 hx))
def C_Zc:Cons := [(158,[],con_Zy)]
theorem hC_Zc:ConsOk Try.prog C_Zc := cC ok_Zy <| ConsOk.nil
abbrev q0_Zc (p0:gF) (p1:gF) (y1:(Int×((List Int)×Int))) := (cond (decide (y1.1 < (p0.length:Int))) true (decide (y1.1 < (p1.length:Int))))
def w_Zc (p0:gF) (p1:gF) (K:(List Int)→Prop):Prop := (∃ n0,(loopP (fun (y1:(Int×((List Int)×Int))) k2 => ((((decide (y1.1 < (p0.length:Int)))=false) →((decide (y1.1 < (p0.length:Int)))=(decide (y1.1 < (p0.length:Int))))) ∧((((decide (y1.1 < (p0.length:Int)))=false) →((decide (y1.1 < (p0.length:Int)))=(decide (y1.1 < (p0.length:Int))))) ∧((((decide (y1.1 < (p0.length:Int)))=false) →((decide (y1.1 < (p0.length:Int)))=(decide (y1.1 < (p0.length:Int))))) ∧(((decide (y1.1 < (p0.length:Int)))=(decide (y1.1 < (p0.length:Int)))) ∧((((q0_Zc p0 p1 y1)=false) →((q0_Zc p0 p1 y1)=(q0_Zc p0 p1 y1))) ∧(((q0_Zc p0 p1 y1)=(q0_Zc p0 p1 y1)) ∧((((cond (q0_Zc p0 p1 y1) true (decide (y1.2.2 > zz0)))=true) →((zz0≤y1.1) ∧((zz0≤y1.1) ∧((((y1.2.1.length + (List.length ((Int.tmod (wi ((wi ((p0.getD y1.1.toNat zz0) + (p1.getD y1.1.toNat zz0))) + y1.2.2)) (1000000000:Int)) :: ([]:List Int)))) * 8)≤140737488355328) ∧(k2 ((wi (y1.1 + zz1)),((y1.2.1 ++ ((Int.tmod (wi ((wi ((p0.getD y1.1.toNat zz0) + (p1.getD y1.1.toNat zz0))) + y1.2.2)) (1000000000:Int)) :: ([]:List Int))),(wi (Int.tdiv (wi ((wi ((p0.getD y1.1.toNat zz0) + (p1.getD y1.1.toNat zz0))) + y1.2.2)) (1000000000:Int)))))))))) ∧(((cond (q0_Zc p0 p1 y1) true (decide (y1.2.2 > zz0)))=false) →(K y1.2.1)))))))))) n0 (zz0,(([]:List Int),zz0))))
theorem w_Zc_eq (p0:gF) (p1:gF) (K:(List Int)→Prop):tfn F_Zc A_Zc C_Zc P_Zc R_Zc (p0,p1) K = w_Zc p0 p1 K := by kernel_rfl
def st_Zc_0 (p0:gF) (p1:gF) (y0:(Int×((List Int)×Int))):(Int×((List Int)×Int)) ⊕ (List Int) := (cond (cond (cond (decide (y0.1 < (p0.length:Int))) true (decide (y0.1 < (p1.length:Int)))) true (decide (y0.2.2 > 0))) (Sum.inl ((IntKind.i64.wrap (y0.1 + 1)),((y0.2.1 ++ ((Int.tmod (IntKind.i64.wrap ((IntKind.i64.wrap ((p0.getD y0.1.toNat (0:Int)) + (p1.getD y0.1.toNat (0:Int)))) + y0.2.2)) (1000000000:Int)) :: ([]:List Int))),(IntKind.i64.wrap (Int.tdiv (IntKind.i64.wrap ((IntKind.i64.wrap ((p0.getD y0.1.toNat (0:Int)) + (p1.getD y0.1.toNat (0:Int)))) + y0.2.2)) (1000000000:Int)))))) (Sum.inr y0.2.1))
abbrev sp_Zc_0 (p0:gF) (p1:gF) (y0:(Int×((List Int)×Int))):List Prop := [(((cond (cond (decide (y0.1 < (p0.length:Int))) true (decide (y0.1 < (p1.length:Int)))) true (decide (y0.2.2 > 0)))=true)→((0:Int)≤y0.1)),(((cond (cond (decide (y0.1 < (p0.length:Int))) true (decide (y0.1 < (p1.length:Int)))) true (decide (y0.2.2 > 0)))=true)→(((y0.2.1.length + (List.length ((Int.tmod (IntKind.i64.wrap ((IntKind.i64.wrap ((p0.getD y0.1.toNat (0:Int)) + (p1.getD y0.1.toNat (0:Int)))) + y0.2.2)) (1000000000:Int)) :: ([]:List Int)))) * 8)≤140737488355328))]
def s_Zc (p0:gF) (p1:gF):(List Int) := (lpv [] (st_Zc_0 p0 p1) ((0:Int),(([]:List Int),(0:Int))))
abbrev pre_Zc (p0:gF) (p1:gF):List Prop := [(OkL (st_Zc_0 p0 p1) (sp_Zc_0 p0 p1) ((0:Int),(([]:List Int),(0:Int))))]
theorem d_Zc (p0:gF) (p1:gF) (K:(List Int)→Prop) (hp:∀ p∈pre_Zc p0 p1,p) (h:K (s_Zc p0 p1)):w_Zc p0 p1 K := by
 unfold w_Zc
 unfold s_Zc at h
 obtain ⟨hp0,_⟩ := conj_of hp
 exact (loop_gen (hp0) h (fun y0 k0 hp h => by
 unfold st_Zc_0 at h; obtain ⟨hp0,hp1,_⟩ := conj_of hp
 exact ⟨rf,rf,rf,rfl,rf,rfl,(br' h (fun e1 h => ⟨(hp0 e1),(hp0 e1),(hp1 e1),h⟩)
  (fun e1 h => h))⟩))
abbrev con_Zc:Con := ⟨P_Zc,R_Zc,fun x => pre_Zc x.1 x.2,fun x => s_Zc x.1 x.2⟩
theorem ok_Zc:ConOk Try.prog 149 con_Zc := okG k_Zc e_Zc hC_Zc fun x hx => tf_of (w_Zc_eq x.1 x.2 _) (d_Zc x.1 x.2 _ hx rfl)
theorem l_Zc (p0 p1:gF) (h1:v_dgok p0) (h2:v_dgok p1) (l1:p0.length≤1000000000000) (l2:p1.length≤1000000000000):OkL (st_Zc_0 p0 p1) (sp_Zc_0 p0 p1) (0,[],0)∧(v_dgok (s_Zc p0 p1)∧v_val (s_Zc p0 p1)=v_val p0 + v_val p1∧(s_Zc p0 p1).length≤1000000000001) := by
 unfold s_Zc
 refine loop_post (st := st_Zc_0 p0 p1) (sp := sp_Zc_0 p0 p1) (fun (y:Int×List Int×Int) => ∃ i:Nat,y.1 = i∧y.2.1.length = i∧v_dgok y.2.1∧(0≤y.2.2∧y.2.2≤1)∧v_val y.2.1 + v_pow i * (y.2.2 + (v_val (p0.drop i) + v_val (p1.drop i)))=v_val p0 + v_val p1∧i≤max p0.length p1.length + 1∧(i = max p0.length p1.length + 1→y.2.2 = 0)) (fun y => (max p0.length p1.length + 1 - y.1).toNat) (fun r => v_dgok r∧v_val r = v_val p0 + v_val p1∧r.length≤1000000000001) ?_ ⟨0,rfl,rfl,(fun d hd => by cases hd),⟨Int.le_refl _,by decide⟩,?_,Nat.zero_le _,fun _ => rfl⟩ (by unfold fuel; simp only; omega)
 ·rintro ⟨_,out,c⟩ ⟨i,rfl,g1,g2,g3,g4,g5,g6⟩
  simp only at g1 g2 g3 g4 g6
  have d0 := v_dgok_get h1 i
  have d1 := v_dgok_get h2 i
  have hb:(cond (cond (decide ((i:Int) < p0.length)) true (decide ((i:Int) < p1.length))) true (decide (c > 0)))=true→i≤max p0.length p1.length := by
   intro hb
   rcases Nat.lt_or_ge (max p0.length p1.length) i with k | k
   ·have hz := g6 (by omega)
    subst hz
    rw [decide_eq_false (show ¬ (i:Int) < p0.length by omega),decide_eq_false (show ¬ (i:Int) < p1.length by omega)] at hb
    cases hb
   ·exact k
  have w1:IntKind.i64.wrap (IntKind.i64.wrap (p0.getD i 0 + p1.getD i 0) + c)=p0.getD i 0 + p1.getD i 0 + c := by rw [w_add_l]; exact wrap_id (by omega) (by omega)
  simp only [sp_Zc_0,st_Zc_0,fM,Int.toNat_natCast,w1]
  cases hc:(cond (cond (decide ((i:Int) < p0.length)) true (decide ((i:Int) < p1.length))) true (decide (c > 0)))
  ·refine ⟨by and_intros <;> first | (intro p hp; cases hp; done) | (intro h; cases h; done) | (intros; omega) | (intros; simp; omega),?_⟩
   simp only [cond_false]
   have e0:¬ (i:Int) < p0.length := fun k => by rw [decide_eq_true k] at hc; cases hc
   rw [decide_eq_false e0] at hc
   have e1:¬ (i:Int) < p1.length := fun k => by rw [decide_eq_true k] at hc; cases hc
   rw [decide_eq_false e1] at hc
   have e2:¬ c > 0 := fun k => by rw [decide_eq_true k] at hc; cases hc
   rw [List.drop_eq_nil_of_le (show p0.length≤i by omega),List.drop_eq_nil_of_le (show p1.length≤i by omega),show c = 0 by omega] at g4
   have e3:v_val ([]:List Int)=0 := rfl
   rw [e3,Int.add_zero,Int.add_zero,Int.mul_zero,Int.add_zero] at g4
   exact ⟨g2,g4,by omega⟩
  ·have hi := hb hc
   refine ⟨by and_intros <;> first | (intro p hp; cases hp; done) | (intros; omega) | (intros; simp; omega),?_⟩
   simp only [cond_true]
   have nn:0≤p0.getD i 0 + p1.getD i 0 + c := by omega
   rw [Int.tmod_eq_emod_of_nonneg nn,Int.tdiv_eq_ediv_of_nonneg nn]
   have q1 := Int.emod_nonneg (p0.getD i 0 + p1.getD i 0 + c) (show (1000000000:Int) ≠ 0 by decide)
   have q2 := Int.emod_lt_of_pos (p0.getD i 0 + p1.getD i 0 + c) (show (0:Int) < 1000000000 by decide)
   have q3:0≤(p0.getD i 0 + p1.getD i 0 + c) / 1000000000∧(p0.getD i 0 + p1.getD i 0 + c) / 1000000000≤1 := by omega
   rw [wrap_id (n := (p0.getD i 0 + p1.getD i 0 + c) / 1000000000) (by omega) (by omega),wrap_nat (by omega)]
   refine ⟨⟨i + 1,rfl,by simp [g1],v_dgok_snoc g2 ⟨q1,q2⟩,q3,?_,by omega,fun h => ?_⟩,by omega⟩
   ·rw [← g1]
    refine v_add_round ?_
    rw [g1,← g4]
    have s0:v_val (p0.drop i)=p0.getD i 0 + 1000000000 * v_val (p0.drop (i + 1)) := by
     rcases Nat.lt_or_ge i p0.length with k | k
     ·rw [drop_getD 0 k]; rfl
     ·rw [gd_out 0 k,List.drop_eq_nil_of_le k,List.drop_eq_nil_of_le (by omega)]; rfl
    have s1:v_val (p1.drop i)=p1.getD i 0 + 1000000000 * v_val (p1.drop (i + 1)) := by
     rcases Nat.lt_or_ge i p1.length with k | k
     ·rw [drop_getD 0 k]; rfl
     ·rw [gd_out 0 k,List.drop_eq_nil_of_le k,List.drop_eq_nil_of_le (by omega)]; rfl
    rw [s0,s1]
    generalize v_pow i = P
    grind
   ·have e0:p0.getD i 0 = 0 := gd_out 0 (by omega)
    have e1:p1.getD i 0 = 0 := gd_out 0 (by omega)
    rw [e0,e1]; omega
 ·show (0:Int) + 1 * (0 + (v_val p0 + v_val p1))=_
  omega
def C_Zd:Cons := [(158,[],con_Zy),(156,[],con_Zl)]
theorem hC_Zd:ConsOk Try.prog C_Zd := cC ok_Zy <| cC ok_Zl <| ConsOk.nil
abbrev q0_Zd (p0:gF) (p1:gF) (y1:(Int×((List Int)×Int))) := ((p0.getD y1.1.toNat zz0) - (p1.getD y1.1.toNat zz0))
def w_Zd (p0:gF) (p1:gF) (K:(List Int)→Prop):Prop := (∃ n0,(loopP (fun (y1:(Int×((List Int)×Int))) k2 => ((((decide (y1.1 < (p0.length:Int)))=true) →((zz0≤y1.1) ∧((y1.1 < (p0.length:Int)) ∧((zz0≤y1.1) ∧((((decide ((wi ((wi (q0_Zd p0 p1 y1)) - y1.2.2)) < zz0))=true) →((((y1.2.1.length + (List.length ((wi ((wi ((wi (q0_Zd p0 p1 y1)) - y1.2.2)) + 1000000000)) :: ([]:List Int)))) * 8)≤140737488355328) ∧(k2 ((wi (y1.1 + zz1)),((y1.2.1 ++ ((wi ((wi ((wi (q0_Zd p0 p1 y1)) - y1.2.2)) + 1000000000)) :: ([]:List Int))),zz1))))) ∧(((decide ((wi ((wi (q0_Zd p0 p1 y1)) - y1.2.2)) < zz0))=false) →((((y1.2.1.length + (List.length ((wi ((wi (q0_Zd p0 p1 y1)) - y1.2.2)) :: ([]:List Int)))) * 8)≤140737488355328) ∧(k2 ((wi (y1.1 + zz1)),((y1.2.1 ++ ((wi ((wi (q0_Zd p0 p1 y1)) - y1.2.2)) :: ([]:List Int))),zz0)))))))))) ∧(((decide (y1.1 < (p0.length:Int)))=false) →((y1.2.1.length≤10000000000000) ∧(K (v_trim y1.2.1)))))) n0 (zz0,(([]:List Int),zz0))))
theorem w_Zd_eq (p0:gF) (p1:gF) (K:(List Int)→Prop):tfn F_Zd A_Zd C_Zd P_Zd R_Zd (p0,p1) K = w_Zd p0 p1 K := by kernel_rfl
def st_Zd_0 (p0:gF) (p1:gF) (y0:(Int×((List Int)×Int))):(Int×((List Int)×Int)) ⊕ (List Int) := (cond (decide (y0.1 < (p0.length:Int))) (cond (decide ((IntKind.i64.wrap ((IntKind.i64.wrap ((p0.getD y0.1.toNat (0:Int)) - (p1.getD y0.1.toNat (0:Int)))) - y0.2.2)) < 0)) (Sum.inl ((IntKind.i64.wrap (y0.1 + 1)),((y0.2.1 ++ ((IntKind.i64.wrap ((IntKind.i64.wrap ((IntKind.i64.wrap ((p0.getD y0.1.toNat (0:Int)) - (p1.getD y0.1.toNat (0:Int)))) - y0.2.2)) + 1000000000)) :: ([]:List Int))),(1:Int)))) (Sum.inl ((IntKind.i64.wrap (y0.1 + 1)),((y0.2.1 ++ ((IntKind.i64.wrap ((IntKind.i64.wrap ((p0.getD y0.1.toNat (0:Int)) - (p1.getD y0.1.toNat (0:Int)))) - y0.2.2)) :: ([]:List Int))),(0:Int))))) (Sum.inr (v_trim y0.2.1)))
abbrev sp_Zd_0 (p0:gF) (p1:gF) (y0:(Int×((List Int)×Int))):List Prop := [(((decide (y0.1 < (p0.length:Int)))=true)→((0:Int)≤y0.1)),(((decide (y0.1 < (p0.length:Int)))=true)→(y0.1 < (p0.length:Int))),(((decide (y0.1 < (p0.length:Int)))=true)→(((decide ((IntKind.i64.wrap ((IntKind.i64.wrap ((p0.getD y0.1.toNat (0:Int)) - (p1.getD y0.1.toNat (0:Int)))) - y0.2.2)) < 0))=true)→(((y0.2.1.length + (List.length ((IntKind.i64.wrap ((IntKind.i64.wrap ((IntKind.i64.wrap ((p0.getD y0.1.toNat (0:Int)) - (p1.getD y0.1.toNat (0:Int)))) - y0.2.2)) + 1000000000)) :: ([]:List Int)))) * 8)≤140737488355328))),(((decide (y0.1 < (p0.length:Int)))=true)→(((decide ((IntKind.i64.wrap ((IntKind.i64.wrap ((p0.getD y0.1.toNat (0:Int)) - (p1.getD y0.1.toNat (0:Int)))) - y0.2.2)) < 0))=false)→(((y0.2.1.length + (List.length ((IntKind.i64.wrap ((IntKind.i64.wrap ((p0.getD y0.1.toNat (0:Int)) - (p1.getD y0.1.toNat (0:Int)))) - y0.2.2)) :: ([]:List Int)))) * 8)≤140737488355328))),(((decide (y0.1 < (p0.length:Int)))=false)→(y0.2.1.length≤10000000000000))]
def s_Zd (p0:gF) (p1:gF):(List Int) := (lpv [] (st_Zd_0 p0 p1) ((0:Int),(([]:List Int),(0:Int))))
abbrev pre_Zd (p0:gF) (p1:gF):List Prop := [(OkL (st_Zd_0 p0 p1) (sp_Zd_0 p0 p1) ((0:Int),(([]:List Int),(0:Int))))]
theorem d_Zd (p0:gF) (p1:gF) (K:(List Int)→Prop) (hp:∀ p∈pre_Zd p0 p1,p) (h:K (s_Zd p0 p1)):w_Zd p0 p1 K := by
 unfold w_Zd
 unfold s_Zd at h
 obtain ⟨hp0,_⟩ := conj_of hp
 exact (loop_gen (hp0) h (fun y0 k0 hp h => by
 unfold st_Zd_0 at h; obtain ⟨hp0,hp1,hp2,hp3,hp4,_⟩ := conj_of hp
 exact (br' h (fun e1 h => ⟨(hp0 e1),(hp1 e1),(hp0 e1),(br' h (fun e2 h => ⟨(hp2 e1 e2),h⟩)
  (fun e2 h => ⟨(hp3 e1 e2),h⟩))⟩)
  (fun e1 h => ⟨(hp4 e1),h⟩))))
theorem l_Zd (p0 p1:gF) (h1:v_dgok p0) (h2:v_dgok p1) (l1:p0.length≤5000000000000) (hle:v_val p1≤v_val p0):OkL (st_Zd_0 p0 p1) (sp_Zd_0 p0 p1) (0,[],0)∧lpv [] (st_Zd_0 p0 p1) (0,[],0)=v_digs (v_val p0 - v_val p1).toNat := by
 refine for_post (dd := []) (st := st_Zd_0 p0 p1) (sp := sp_Zd_0 p0 p1) (fun i (t:List Int×Int) => (i,t)) 0 p0.length (fun j t => t.1.length = j∧v_dgok t.1∧(0≤t.2∧t.2≤1)∧v_val (p0.take j) - v_val (p1.take j)=v_val t.1 - t.2 * v_pow j) (fun r => r = v_digs (v_val p0 - v_val p1).toNat) (Nat.zero_le _) (by omega) ?_ ?_ ([],0) ⟨rfl,(fun d hd => by cases hd),⟨Int.le_refl _,by decide⟩,rfl⟩
 ·rintro ⟨out,c⟩ ⟨g1,g2,g3,g4⟩
  simp only at g1 g2 g3 g4
  have hd:decide ((p0.length:Int) < p0.length)=false := decide_eq_false (by omega)
  simp only [sp_Zd_0,st_Zd_0,fM,hd,cond_false]
  refine ⟨by and_intros <;> first | (intro p hp; cases hp; done) | (intro h; cases h; done) | (intros; omega),_,rfl,?_⟩
  rw [v_trim_is g2]
  rw [List.take_length] at g4
  have b1:v_val p1 = v_val (p1.take p0.length) := by
   have e := v_val_append (p1.take p0.length) (p1.drop p0.length)
   rw [List.take_append_drop] at e
   have n1 := v_val_nn (v_dgok_take h2 p0.length)
   have n2 := v_val_nn (v_dgok_drop h2 p0.length)
   have n3 := v_val_lt h1
   rcases Nat.lt_or_ge p0.length p1.length with k | k
   ·rw [List.length_take,Nat.min_eq_left (by omega)] at e
    have:v_val (p1.drop p0.length)=0 := by
     rcases Int.lt_or_le 0 (v_val (p1.drop p0.length)) with q | q
     ·have := Int.mul_le_mul_of_nonneg_left (show 1≤v_val (p1.drop p0.length) by omega) (show 0≤v_pow p0.length by have := v_pow_pos p0.length; omega)
      omega
     ·omega
    rw [this,Int.mul_zero] at e; omega
   ·rw [List.take_of_length_le k]
  have n4 := v_val_lt g2
  have n5 := v_val_nn g2
  rw [g1] at n4
  have hc:c = 0 := by
   rcases Int.lt_or_le 0 c with q | q
   ·have:c = 1 := by omega
    rw [this,Int.one_mul] at g4; omega
   ·omega
  rw [hc,Int.zero_mul] at g4
  congr 2
  omega
 ·rintro j ⟨out,c⟩ _ hj ⟨g1,g2,g3,g4⟩
  simp only at g1 g2 g3 g4
  have d0 := v_dgok_get h1 j
  have d1 := v_dgok_get h2 j
  have hd:decide ((j:Int) < p0.length)=true := decide_eq_true (by omega)
  have w1:IntKind.i64.wrap (IntKind.i64.wrap (p0.getD j 0 - p1.getD j 0) - c)=p0.getD j 0 - p1.getD j 0 - c := by rw [w_sub_l]; exact wrap_id (by omega) (by omega)
  have w2:IntKind.i64.wrap (p0.getD j 0 - p1.getD j 0 - c + 1000000000)=p0.getD j 0 - p1.getD j 0 - c + 1000000000 := wrap_id (by omega) (by omega)
  have t0 := v_val_take_s hj
  have t1:v_val (p1.take (j + 1))=v_val (p1.take j) + v_pow j * p1.getD j 0 := by
   rcases Nat.lt_or_ge j p1.length with k | k
   ·exact v_val_take_s k
   ·rw [List.take_of_length_le k,List.take_of_length_le (by omega),gd_out 0 k,Int.mul_zero,Int.add_zero]
  simp only [sp_Zd_0,st_Zd_0,fM,hd,cond_true,Int.toNat_natCast,w1,w2,wrap_nat (show (j:Int)≤9223372036854775806 by omega)]
  refine ⟨by and_intros <;> first | (intro p hp; cases hp; done) | (intro h; cases h; done) | (intros; omega) | (intros; simp; omega),.inl ?_⟩
  rcases dec0 (a := p0.getD j 0 - p1.getD j 0 - c) (b := 0) with ⟨k,e,_⟩ | ⟨k,e,_⟩ <;> rw [e]
  ·refine ⟨(out ++ [p0.getD j 0 - p1.getD j 0 - c + 1000000000],1),rfl,by simp [g1],v_dgok_snoc g2 ⟨by omega,by omega⟩,⟨by simp only; omega,Int.le_refl _⟩,?_⟩
   simp only
   rw [t0,t1,v_val_snoc,g1,v_pow_s]
   generalize v_pow j = P at *
   grind
  ·refine ⟨(out ++ [p0.getD j 0 - p1.getD j 0 - c],0),rfl,by simp [g1],v_dgok_snoc g2 ⟨by omega,by omega⟩,⟨Int.le_refl _,by simp only; omega⟩,?_⟩
   simp only
   rw [t0,t1,v_val_snoc,g1,v_pow_s]
   generalize v_pow j = P at *
   grind
abbrev t_Zd (p0:gF) (p1:gF):List Int := v_digs (v_val p0 - v_val p1).toNat
abbrev qre_Zd (p0:gF) (p1:gF):List Prop := [v_dgok p0,v_dgok p1,p0.length≤5000000000000,v_val p1≤v_val p0]
theorem pp_Zd (p0:gF) (p1:gF) (hq:∀ p∈qre_Zd p0 p1,p):∀ p∈pre_Zd p0 p1,p := by
 obtain ⟨h1,h2,h3,h4,_⟩ := conj_of hq
 simp only [pre_Zd,fM]
 exact ⟨(l_Zd p0 p1 h1 h2 h3 h4).1,by simp⟩
theorem tt_Zd (p0:gF) (p1:gF) (hq:∀ p∈qre_Zd p0 p1,p):s_Zd p0 p1 = t_Zd p0 p1 := by
 obtain ⟨h1,h2,h3,h4,_⟩ := conj_of hq
 exact (l_Zd p0 p1 h1 h2 h3 h4).2

abbrev con_Zd:Con := ⟨P_Zd,R_Zd,fun x => qre_Zd x.1 x.2,fun x => t_Zd x.1 x.2⟩
theorem ok_Zd:ConOk Try.prog 151 con_Zd := okG k_Zd e_Zd hC_Zd fun x hx => tf_of (w_Zd_eq x.1 x.2 _) (d_Zd x.1 x.2 _ (pp_Zd x.1 x.2 hx) (tt_Zd x.1 x.2 hx))
def C_Zw:Cons := [(149,[],con_Zc),(146,[],con_Zp),(150,[],con_Zk),(151,[],con_Zd)]
theorem hC_Zw:ConsOk Try.prog C_Zw := cC ok_Zc <| cC ok_Zp <| cC ok_Zk <| cC ok_Zd <| ConsOk.nil
def w_Zw (p0:gE) (p1:gE) (K:(Int×(List Int))→Prop):Prop := ((((p0.1 == 0)=true) →(K p1)) ∧(((p0.1 == 0)=false) →((((p1.1 == 0)=true) →(K p0)) ∧(((p1.1 == 0)=false) →((((p0.1 == p1.1)=true) →((OkL (st_Zc_0 p0.2 p1.2) (sp_Zc_0 p0.2 p1.2) (zz0,(([]:List Int),zz0))) ∧((v_sgn p0.1 (s_Zc p0.2 p1.2)) ∧((v_dgok (s_Zc p0.2 p1.2)) ∧(((List.length (s_Zc p0.2 p1.2))≤10000000000000) ∧(K (v_wide (p0.1 * (v_val (s_Zc p0.2 p1.2)))))))))) ∧(((p0.1 == p1.1)=false) →((v_can p0.2) ∧((v_can p1.2) ∧(((((v_cmp (v_val p0.2) (v_val p1.2)) == 0)=true) →(K (zz0,([]:List Int)))) ∧((((v_cmp (v_val p0.2) (v_val p1.2)) == 0)=false) →((((decide ((v_cmp (v_val p0.2) (v_val p1.2)) > 0))=true) →((v_dgok p0.2) ∧((v_dgok p1.2) ∧((p0.2.length≤5000000000000) ∧(((v_val p1.2)≤(v_val p0.2)) ∧((v_sgn p0.1 (v_digs (Int.toNat ((v_val p0.2) - (v_val p1.2))))) ∧((v_dgok (v_digs (Int.toNat ((v_val p0.2) - (v_val p1.2))))) ∧(((List.length (v_digs (Int.toNat ((v_val p0.2) - (v_val p1.2)))))≤10000000000000) ∧(K (v_wide (p0.1 * (v_val (v_digs (Int.toNat ((v_val p0.2) - (v_val p1.2)))))))))))))))) ∧(((decide ((v_cmp (v_val p0.2) (v_val p1.2)) > 0))=false) →((v_dgok p1.2) ∧((v_dgok p0.2) ∧((p1.2.length≤5000000000000) ∧(((v_val p0.2)≤(v_val p1.2)) ∧((v_sgn p1.1 (v_digs (Int.toNat ((v_val p1.2) - (v_val p0.2))))) ∧((v_dgok (v_digs (Int.toNat ((v_val p1.2) - (v_val p0.2))))) ∧(((List.length (v_digs (Int.toNat ((v_val p1.2) - (v_val p0.2)))))≤10000000000000) ∧(K (v_wide (p1.1 * (v_val (v_digs (Int.toNat ((v_val p1.2) - (v_val p0.2)))))))))))))))))))))))))))
theorem w_Zw_eq (p0:gE) (p1:gE) (K:(Int×(List Int))→Prop):tfn F_Zw A_Zw C_Zw P_Zw R_Zw (p0,p1) K = w_Zw p0 p1 K := by kernel_rfl
def s_Zw (p0:gE) (p1:gE):(Int×(List Int)) := (cond (p0.1 == 0) p1 (cond (p1.1 == 0) p0 (cond (p0.1 == p1.1) (v_wide (p0.1 * (v_val (s_Zc p0.2 p1.2)))) (cond ((v_cmp (v_val p0.2) (v_val p1.2)) == 0) ((0:Int),([]:List Int)) (cond (decide ((v_cmp (v_val p0.2) (v_val p1.2)) > 0)) (v_wide (p0.1 * (v_val (v_digs (Int.toNat ((v_val p0.2) - (v_val p1.2))))))) (v_wide (p1.1 * (v_val (v_digs (Int.toNat ((v_val p1.2) - (v_val p0.2))))))))))))
abbrev pre_Zw (p0:gE) (p1:gE):List Prop := [(((p0.1 == 0)=false)→(((p1.1 == 0)=false)→(((p0.1 == p1.1)=true)→(OkL (st_Zc_0 p0.2 p1.2) (sp_Zc_0 p0.2 p1.2) ((0:Int),(([]:List Int),(0:Int))))))),(((p0.1 == 0)=false)→(((p1.1 == 0)=false)→(((p0.1 == p1.1)=true)→(v_sgn p0.1 (s_Zc p0.2 p1.2))))),(((p0.1 == 0)=false)→(((p1.1 == 0)=false)→(((p0.1 == p1.1)=true)→(v_dgok (s_Zc p0.2 p1.2))))),(((p0.1 == 0)=false)→(((p1.1 == 0)=false)→(((p0.1 == p1.1)=true)→((List.length (s_Zc p0.2 p1.2))≤10000000000000)))),(((p0.1 == 0)=false)→(((p1.1 == 0)=false)→(((p0.1 == p1.1)=false)→(v_can p0.2)))),(((p0.1 == 0)=false)→(((p1.1 == 0)=false)→(((p0.1 == p1.1)=false)→(v_can p1.2)))),(((p0.1 == 0)=false)→(((p1.1 == 0)=false)→(((p0.1 == p1.1)=false)→((((v_cmp (v_val p0.2) (v_val p1.2)) == 0)=false)→(((decide ((v_cmp (v_val p0.2) (v_val p1.2)) > 0))=true)→(v_dgok p0.2)))))),(((p0.1 == 0)=false)→(((p1.1 == 0)=false)→(((p0.1 == p1.1)=false)→((((v_cmp (v_val p0.2) (v_val p1.2)) == 0)=false)→(((decide ((v_cmp (v_val p0.2) (v_val p1.2)) > 0))=true)→(v_dgok p1.2)))))),(((p0.1 == 0)=false)→(((p1.1 == 0)=false)→(((p0.1 == p1.1)=false)→((((v_cmp (v_val p0.2) (v_val p1.2)) == 0)=false)→(((decide ((v_cmp (v_val p0.2) (v_val p1.2)) > 0))=true)→(p0.2.length≤5000000000000)))))),(((p0.1 == 0)=false)→(((p1.1 == 0)=false)→(((p0.1 == p1.1)=false)→((((v_cmp (v_val p0.2) (v_val p1.2)) == 0)=false)→(((decide ((v_cmp (v_val p0.2) (v_val p1.2)) > 0))=true)→((v_val p1.2)≤(v_val p0.2))))))),(((p0.1 == 0)=false)→(((p1.1 == 0)=false)→(((p0.1 == p1.1)=false)→((((v_cmp (v_val p0.2) (v_val p1.2)) == 0)=false)→(((decide ((v_cmp (v_val p0.2) (v_val p1.2)) > 0))=true)→(v_sgn p0.1 (v_digs (Int.toNat ((v_val p0.2) - (v_val p1.2)))))))))),(((p0.1 == 0)=false)→(((p1.1 == 0)=false)→(((p0.1 == p1.1)=false)→((((v_cmp (v_val p0.2) (v_val p1.2)) == 0)=false)→(((decide ((v_cmp (v_val p0.2) (v_val p1.2)) > 0))=true)→(v_dgok (v_digs (Int.toNat ((v_val p0.2) - (v_val p1.2)))))))))),(((p0.1 == 0)=false)→(((p1.1 == 0)=false)→(((p0.1 == p1.1)=false)→((((v_cmp (v_val p0.2) (v_val p1.2)) == 0)=false)→(((decide ((v_cmp (v_val p0.2) (v_val p1.2)) > 0))=true)→((List.length (v_digs (Int.toNat ((v_val p0.2) - (v_val p1.2)))))≤10000000000000)))))),(((p0.1 == 0)=false)→(((p1.1 == 0)=false)→(((p0.1 == p1.1)=false)→((((v_cmp (v_val p0.2) (v_val p1.2)) == 0)=false)→(((decide ((v_cmp (v_val p0.2) (v_val p1.2)) > 0))=false)→(v_dgok p1.2)))))),(((p0.1 == 0)=false)→(((p1.1 == 0)=false)→(((p0.1 == p1.1)=false)→((((v_cmp (v_val p0.2) (v_val p1.2)) == 0)=false)→(((decide ((v_cmp (v_val p0.2) (v_val p1.2)) > 0))=false)→(v_dgok p0.2)))))),(((p0.1 == 0)=false)→(((p1.1 == 0)=false)→(((p0.1 == p1.1)=false)→((((v_cmp (v_val p0.2) (v_val p1.2)) == 0)=false)→(((decide ((v_cmp (v_val p0.2) (v_val p1.2)) > 0))=false)→(p1.2.length≤5000000000000)))))),(((p0.1 == 0)=false)→(((p1.1 == 0)=false)→(((p0.1 == p1.1)=false)→((((v_cmp (v_val p0.2) (v_val p1.2)) == 0)=false)→(((decide ((v_cmp (v_val p0.2) (v_val p1.2)) > 0))=false)→((v_val p0.2)≤(v_val p1.2))))))),(((p0.1 == 0)=false)→(((p1.1 == 0)=false)→(((p0.1 == p1.1)=false)→((((v_cmp (v_val p0.2) (v_val p1.2)) == 0)=false)→(((decide ((v_cmp (v_val p0.2) (v_val p1.2)) > 0))=false)→(v_sgn p1.1 (v_digs (Int.toNat ((v_val p1.2) - (v_val p0.2)))))))))),(((p0.1 == 0)=false)→(((p1.1 == 0)=false)→(((p0.1 == p1.1)=false)→((((v_cmp (v_val p0.2) (v_val p1.2)) == 0)=false)→(((decide ((v_cmp (v_val p0.2) (v_val p1.2)) > 0))=false)→(v_dgok (v_digs (Int.toNat ((v_val p1.2) - (v_val p0.2)))))))))),(((p0.1 == 0)=false)→(((p1.1 == 0)=false)→(((p0.1 == p1.1)=false)→((((v_cmp (v_val p0.2) (v_val p1.2)) == 0)=false)→(((decide ((v_cmp (v_val p0.2) (v_val p1.2)) > 0))=false)→((List.length (v_digs (Int.toNat ((v_val p1.2) - (v_val p0.2)))))≤10000000000000))))))]
theorem d_Zw (p0:gE) (p1:gE) (K:(Int×(List Int))→Prop) (hp:∀ p∈pre_Zw p0 p1,p) (h:K (s_Zw p0 p1)):w_Zw p0 p1 K := by
 unfold w_Zw
 unfold s_Zw at h
 obtain ⟨hp0,hp1,hp2,hp3,hp4,hp5,hp6,hp7,hp8,hp9,hp10,hp11,hp12,hp13,hp14,hp15,hp16,hp17,hp18,hp19,_⟩ := conj_of hp
 exact (br' h (fun e0 h => h)
  (fun e0 h => (br' h (fun e1 h => h)
  (fun e1 h => (br' h (fun e2 h => ⟨(hp0 e0 e1 e2),(hp1 e0 e1 e2),(hp2 e0 e1 e2),(hp3 e0 e1 e2),h⟩)
  (fun e2 h => ⟨(hp4 e0 e1 e2),(hp5 e0 e1 e2),(br' h (fun e3 h => h)
  (fun e3 h => (br' h (fun e4 h => ⟨(hp6 e0 e1 e2 e3 e4),(hp7 e0 e1 e2 e3 e4),(hp8 e0 e1 e2 e3 e4),(hp9 e0 e1 e2 e3 e4),(hp10 e0 e1 e2 e3 e4),(hp11 e0 e1 e2 e3 e4),(hp12 e0 e1 e2 e3 e4),h⟩)
  (fun e4 h => ⟨(hp13 e0 e1 e2 e3 e4),(hp14 e0 e1 e2 e3 e4),(hp15 e0 e1 e2 e3 e4),(hp16 e0 e1 e2 e3 e4),(hp17 e0 e1 e2 e3 e4),(hp18 e0 e1 e2 e3 e4),(hp19 e0 e1 e2 e3 e4),h⟩))))⟩))))))
abbrev t_Zw (p0:Int×List Int) (p1:Int×List Int):Int×List Int := v_wide (v_wval p0 + v_wval p1)
abbrev qre_Zw (p0:Int×List Int) (p1:Int×List Int):List Prop := [v_wok p0,v_wok p1]
theorem pp_Zw (p0:Int×List Int) (p1:Int×List Int) (hq:∀ p∈qre_Zw p0 p1,p):∀ p∈pre_Zw p0 p1,p := by
 obtain ⟨h1,h2,_⟩ := conj_of hq
 obtain ⟨m,rfl,hm⟩ := h1.ex
 obtain ⟨n,rfl,hn⟩ := h2.ex
 simp only [pre_Zw,fM,v_wide_1,v_wide_val]
 obtain ⟨a1,a2,a3,a4⟩ := l_Zc _ _ (v_wide_ok m) (v_wide_ok n) hm hn
 have c1 := v_wide_can hm
 have c2 := v_wide_can hn
 have k1 := v_wide_ok m
 have k2 := v_wide_ok n
 have dl1:(v_digs ((m.natAbs:Int) - n.natAbs).toNat).length≤10000000000000 := Nat.le_trans (v_digs_mono (n := m.natAbs) (by omega)) (Nat.le_trans hm (by decide))
 have dl2:(v_digs ((n.natAbs:Int) - m.natAbs).toNat).length≤10000000000000 := Nat.le_trans (v_digs_mono (n := n.natAbs) (by omega)) (Nat.le_trans hn (by decide))
 have sg:∀ (x:Int) (l:gF),(x.sign == 0)=false→v_sgn x.sign l := fun x l h => by
  rcases v_sign3 x with ⟨_,e,f⟩ | ⟨_,e,f⟩ | ⟨_,e,f⟩
  ·exact .inr (.inl e)
  ·rw [f] at h; cases h
  ·exact .inl e
 have cgt:∀ a b:Int,decide (v_cmp a b > 0)=true→b≤a := fun a b h => by have := v_cmp_gt.1 (of_decide_eq_true h); omega
 have clt:∀ a b:Int,decide (v_cmp a b > 0)=false→a≤b := fun a b h => by
  have h := of_decide_eq_false h
  rcases Int.lt_or_le b a with k | k
  ·exact absurd (v_cmp_gt.2 k) h
  ·exact k
 have hm5:(v_wide m).2.length≤5000000000000 := Nat.le_trans hm (by decide)
 have hn5:(v_wide n).2.length≤5000000000000 := Nat.le_trans hn (by decide)
 refine ⟨fun _ _ _ => a1,fun h _ _ => sg _ _ h,fun _ _ _ => a2,fun _ _ _ => by omega,fun _ _ _ => c1,fun _ _ _ => c2,?_⟩
 refine ⟨fun _ _ _ _ _ => k1,fun _ _ _ _ _ => k2,fun _ _ _ _ _ => hm5,fun _ _ _ _ h => cgt _ _ h,fun h _ _ _ _ => sg _ _ h,fun _ _ _ _ _ => v_digs_ok _,fun _ _ _ _ _ => dl1,?_⟩
 exact ⟨fun _ _ _ _ _ => k2,fun _ _ _ _ _ => k1,fun _ _ _ _ _ => hn5,fun _ _ _ _ h => clt _ _ h,fun _ h _ _ _ => sg _ _ h,fun _ _ _ _ _ => v_digs_ok _,fun _ _ _ _ _ => dl2,by simp⟩
theorem tt_Zw (p0:Int×List Int) (p1:Int×List Int) (hq:∀ p∈qre_Zw p0 p1,p):s_Zw p0 p1 = t_Zw p0 p1 := by
 obtain ⟨h1,h2,_⟩ := conj_of hq
 obtain ⟨m,rfl,hm⟩ := h1.ex
 obtain ⟨n,rfl,hn⟩ := h2.ex
 unfold s_Zw t_Zw
 obtain ⟨_,_,a3,_⟩ := l_Zc _ _ (v_wide_ok m) (v_wide_ok n) hm hn
 rw [v_wval_wide,v_wval_wide,a3]
 simp only [v_wide_1,v_wide_val,v_digs_val]
 rcases v_sign3 m with ⟨k1,e1,f1⟩ | ⟨k1,e1,f1⟩ | ⟨k1,e1,f1⟩ <;> rw [f1]
 ·rcases v_sign3 n with ⟨k2,e2,f2⟩ | ⟨k2,e2,f2⟩ | ⟨k2,e2,f2⟩ <;> rw [f2]
  ·rw [e1,e2]
   simp only [cond_false,beq_self_eq_true,cond_true]
   congr 1; omega
  ·subst k2; simp
  ·rw [e1,e2]
   simp only [cond_false,show ((-1:Int) == 1)=false from rfl]
   unfold v_cmp
   rcases Int.lt_trichotomy (m.natAbs:Int) n.natAbs with c | c | c
   ·rw [decide_eq_true c]
    simp only [cond_true,show ((-1:Int) == 0)=false from rfl,show decide ((-1:Int) > 0)=false from rfl,cond_false]
    congr 1; omega
   ·rw [decide_eq_false (show ¬ (m.natAbs:Int) < n.natAbs by omega),decide_eq_false (show ¬ (m.natAbs:Int) > n.natAbs by omega)]
    simp only [cond_false,beq_self_eq_true,cond_true]
    rw [show m + n = 0 by omega]
    unfold v_wide
    rw [show Int.natAbs 0 = 0 from rfl,v_digs_0]; rfl
   ·rw [decide_eq_false (show ¬ (m.natAbs:Int) < n.natAbs by omega),decide_eq_true (show (m.natAbs:Int) > n.natAbs from c)]
    simp only [cond_true,cond_false,show ((1:Int) == 0)=false from rfl,show decide ((1:Int) > 0)=true from rfl]
    congr 1; omega
 ·subst k1; simp
 ·rcases v_sign3 n with ⟨k2,e2,f2⟩ | ⟨k2,e2,f2⟩ | ⟨k2,e2,f2⟩ <;> rw [f2]
  ·rw [e1,e2]
   simp only [cond_false,show ((1:Int) == -1)=false from rfl]
   unfold v_cmp
   rcases Int.lt_trichotomy (m.natAbs:Int) n.natAbs with c | c | c
   ·rw [decide_eq_true c]
    simp only [cond_true,show ((-1:Int) == 0)=false from rfl,show decide ((-1:Int) > 0)=false from rfl,cond_false]
    congr 1; omega
   ·rw [decide_eq_false (show ¬ (m.natAbs:Int) < n.natAbs by omega),decide_eq_false (show ¬ (m.natAbs:Int) > n.natAbs by omega)]
    simp only [cond_false,beq_self_eq_true,cond_true]
    rw [show m + n = 0 by omega]
    unfold v_wide
    rw [show Int.natAbs 0 = 0 from rfl,v_digs_0]; rfl
   ·rw [decide_eq_false (show ¬ (m.natAbs:Int) < n.natAbs by omega),decide_eq_true (show (m.natAbs:Int) > n.natAbs from c)]
    simp only [cond_true,cond_false,show ((1:Int) == 0)=false from rfl,show decide ((1:Int) > 0)=true from rfl]
    congr 1; omega
  ·subst k2; simp
  ·rw [e1,e2]
   simp only [cond_false,beq_self_eq_true,cond_true]
   congr 1; omega

abbrev con_Zw:Con := ⟨P_Zw,R_Zw,fun x => qre_Zw x.1 x.2,fun x => t_Zw x.1 x.2⟩
theorem ok_Zw:ConOk Try.prog 130 con_Zw := okG k_Zw e_Zw hC_Zw fun x hx => tf_of (w_Zw_eq x.1 x.2 _) (d_Zw x.1 x.2 _ (pp_Zw x.1 x.2 hx) (tt_Zw x.1 x.2 hx))
def C_Z3:Cons := [(146,[],con_Zp)]
theorem hC_Z3:ConsOk Try.prog C_Z3 := cC ok_Zp <| ConsOk.nil
def w_Z3 (p0:gE) (p1:gE) (K:(Int×(List Int))→Prop):Prop := ((zz0≤(IntKind.i64.wrap ((IntKind.i64.wrap ((p0.2.length:Int) + (p1.2.length:Int))) + 1))) ∧((((8:Int) * (IntKind.i64.wrap ((IntKind.i64.wrap ((p0.2.length:Int) + (p1.2.length:Int))) + 1)))≤281474976710656) ∧(((IntKind.i64.wrap ((IntKind.i64.wrap ((p0.2.length:Int) + (p1.2.length:Int))) + 1))≤9223372036854775807) ∧(∃ n0,(loopP (fun (y1:gE) k2 => ((((decide (y1.1 < (p0.2.length:Int)))=true) →(∃ n3,(loopP (fun (y4:(Int×(Int×(List Int)))) k5 => ((((decide (y4.1 < (p1.2.length:Int)))=true) →((zz0≤(IntKind.i64.wrap (y1.1 + y4.1))) ∧(((IntKind.i64.wrap (y1.1 + y4.1)) < (y4.2.2.length:Int)) ∧((zz0≤y1.1) ∧((y1.1 < (p0.2.length:Int)) ∧((zz0≤y4.1) ∧((y4.1 < (p1.2.length:Int)) ∧((zz0≤(IntKind.i64.wrap (y1.1 + y4.1))) ∧(((IntKind.i64.wrap (y1.1 + y4.1)) < (y4.2.2.length:Int)) ∧(k5 ((IntKind.i64.wrap (y4.1 + 1)),((IntKind.i64.wrap (Int.tdiv (IntKind.i64.wrap ((IntKind.i64.wrap ((y4.2.2.getD (Int.toNat (IntKind.i64.wrap (y1.1 + y4.1))) zz0) + (IntKind.i64.wrap ((p0.2.getD y1.1.toNat zz0) * (p1.2.getD y4.1.toNat zz0))))) + y4.2.1)) (1000000000:Int))),(List.set y4.2.2 (Int.toNat (IntKind.i64.wrap (y1.1 + y4.1))) (Int.tmod (IntKind.i64.wrap ((IntKind.i64.wrap ((y4.2.2.getD (Int.toNat (IntKind.i64.wrap (y1.1 + y4.1))) zz0) + (IntKind.i64.wrap ((p0.2.getD y1.1.toNat zz0) * (p1.2.getD y4.1.toNat zz0))))) + y4.2.1)) (1000000000:Int))))))))))))))) ∧(((decide (y4.1 < (p1.2.length:Int)))=false) →((zz0≤(IntKind.i64.wrap (y1.1 + (p1.2.length:Int)))) ∧(((IntKind.i64.wrap (y1.1 + (p1.2.length:Int))) < (y4.2.2.length:Int)) ∧((zz0≤(IntKind.i64.wrap (y1.1 + (p1.2.length:Int)))) ∧(((IntKind.i64.wrap (y1.1 + (p1.2.length:Int))) < (y4.2.2.length:Int)) ∧(k2 ((IntKind.i64.wrap (y1.1 + 1)),(List.set y4.2.2 (Int.toNat (IntKind.i64.wrap (y1.1 + (p1.2.length:Int)))) (IntKind.i64.wrap ((y4.2.2.getD (Int.toNat (IntKind.i64.wrap (y1.1 + (p1.2.length:Int)))) zz0) + y4.2.1)))))))))))) n3 (zz0,(zz0,y1.2))))) ∧(((decide (y1.1 < (p0.2.length:Int)))=false) →((v_sgn (IntKind.i64.wrap (p0.1 * p1.1)) y1.2) ∧((v_dgok y1.2) ∧((y1.2.length≤10000000000000) ∧(K (v_wide ((IntKind.i64.wrap (p0.1 * p1.1)) * (v_val y1.2)))))))))) n0 (zz0,(List.replicate (Int.toNat (IntKind.i64.wrap ((IntKind.i64.wrap ((p0.2.length:Int) + (p1.2.length:Int))) + 1))) zz0)))))))
theorem w_Z3_eq (p0:gE) (p1:gE) (K:(Int×(List Int))→Prop):tfn F_Z3 A_Z3 C_Z3 P_Z3 R_Z3 (p0,p1) K = w_Z3 p0 p1 K := by kernel_rfl
def st_Z3_0 (p0:gE) (p1:gE) (y0:gE) (y2:(Int×(Int×(List Int)))):(Int×(Int×(List Int))) ⊕ ((Int×(List Int)) ⊕ (Int×(List Int))) := (cond (decide (y2.1 < (p1.2.length:Int))) (Sum.inl ((IntKind.i64.wrap (y2.1 + 1)),((IntKind.i64.wrap (Int.tdiv (IntKind.i64.wrap ((IntKind.i64.wrap ((y2.2.2.getD (Int.toNat (IntKind.i64.wrap (y0.1 + y2.1))) (0:Int)) + (IntKind.i64.wrap ((p0.2.getD y0.1.toNat (0:Int)) * (p1.2.getD y2.1.toNat (0:Int)))))) + y2.2.1)) (1000000000:Int))),(List.set y2.2.2 (Int.toNat (IntKind.i64.wrap (y0.1 + y2.1))) (Int.tmod (IntKind.i64.wrap ((IntKind.i64.wrap ((y2.2.2.getD (Int.toNat (IntKind.i64.wrap (y0.1 + y2.1))) (0:Int)) + (IntKind.i64.wrap ((p0.2.getD y0.1.toNat (0:Int)) * (p1.2.getD y2.1.toNat (0:Int)))))) + y2.2.1)) (1000000000:Int)))))) (Sum.inr (Sum.inl ((IntKind.i64.wrap (y0.1 + 1)),(List.set y2.2.2 (Int.toNat (IntKind.i64.wrap (y0.1 + (p1.2.length:Int)))) (IntKind.i64.wrap ((y2.2.2.getD (Int.toNat (IntKind.i64.wrap (y0.1 + (p1.2.length:Int)))) (0:Int)) + y2.2.1)))))))
abbrev sp_Z3_0 (p0:gE) (p1:gE) (y0:gE) (y2:(Int×(Int×(List Int)))):List Prop := [(((decide (y2.1 < (p1.2.length:Int)))=true)→((0:Int)≤(IntKind.i64.wrap (y0.1 + y2.1)))),(((decide (y2.1 < (p1.2.length:Int)))=true)→((IntKind.i64.wrap (y0.1 + y2.1)) < (y2.2.2.length:Int))),(((decide (y2.1 < (p1.2.length:Int)))=true)→((0:Int)≤y0.1)),(((decide (y2.1 < (p1.2.length:Int)))=true)→(y0.1 < (p0.2.length:Int))),(((decide (y2.1 < (p1.2.length:Int)))=true)→((0:Int)≤y2.1)),(((decide (y2.1 < (p1.2.length:Int)))=true)→(y2.1 < (p1.2.length:Int))),(((decide (y2.1 < (p1.2.length:Int)))=false)→((0:Int)≤(IntKind.i64.wrap (y0.1 + (p1.2.length:Int))))),(((decide (y2.1 < (p1.2.length:Int)))=false)→((IntKind.i64.wrap (y0.1 + (p1.2.length:Int))) < (y2.2.2.length:Int)))]
def st_Z3_1 (p0:gE) (p1:gE) (y0:gE):(Int×(List Int)) ⊕ (Int×(List Int)) := (cond (decide (y0.1 < (p0.2.length:Int))) (lpv (Sum.inr ((0:Int),[])) (st_Z3_0 p0 p1 y0) ((0:Int),((0:Int),y0.2))) (Sum.inr (v_wide ((IntKind.i64.wrap (p0.1 * p1.1)) * (v_val y0.2)))))
abbrev sp_Z3_1 (p0:gE) (p1:gE) (y0:gE):List Prop := [(((decide (y0.1 < (p0.2.length:Int)))=true)→(OkL (st_Z3_0 p0 p1 y0) (sp_Z3_0 p0 p1 y0) ((0:Int),((0:Int),y0.2)))),(((decide (y0.1 < (p0.2.length:Int)))=false)→(v_sgn (IntKind.i64.wrap (p0.1 * p1.1)) y0.2)),(((decide (y0.1 < (p0.2.length:Int)))=false)→(v_dgok y0.2)),(((decide (y0.1 < (p0.2.length:Int)))=false)→(y0.2.length≤10000000000000))]
def s_Z3 (p0:gE) (p1:gE):(Int×(List Int)) := (lpv ((0:Int),[]) (st_Z3_1 p0 p1) ((0:Int),(List.replicate (Int.toNat (IntKind.i64.wrap ((IntKind.i64.wrap ((p0.2.length:Int) + (p1.2.length:Int))) + 1))) (0:Int))))
abbrev pre_Z3 (p0:gE) (p1:gE):List Prop := [((0:Int)≤(IntKind.i64.wrap ((IntKind.i64.wrap ((p0.2.length:Int) + (p1.2.length:Int))) + 1))),(((8:Int) * (IntKind.i64.wrap ((IntKind.i64.wrap ((p0.2.length:Int) + (p1.2.length:Int))) + 1)))≤281474976710656),((IntKind.i64.wrap ((IntKind.i64.wrap ((p0.2.length:Int) + (p1.2.length:Int))) + 1))≤9223372036854775807),(OkL (st_Z3_1 p0 p1) (sp_Z3_1 p0 p1) ((0:Int),(List.replicate (Int.toNat (IntKind.i64.wrap ((IntKind.i64.wrap ((p0.2.length:Int) + (p1.2.length:Int))) + 1))) (0:Int))))]
theorem d_Z3 (p0:gE) (p1:gE) (K:(Int×(List Int))→Prop) (hp:∀ p∈pre_Z3 p0 p1,p) (h:K (s_Z3 p0 p1)):w_Z3 p0 p1 K := by
 unfold w_Z3
 unfold s_Z3 at h
 obtain ⟨hp0,hp1,hp2,hp3,_⟩ := conj_of hp
 exact ⟨(hp0),(hp1),(hp2),(loop_gen (hp3) h (fun y0 k0 hp h => by
 unfold st_Z3_1 at h; obtain ⟨hp0,hp1,hp2,hp3,_⟩ := conj_of hp
 exact (br' h (fun e1 h => (loop_gen (hp0 e1) h (fun y2 k2 hp h => by
 unfold st_Z3_0 at h; obtain ⟨hp0,hp1,hp2,hp3,hp4,hp5,hp6,hp7,_⟩ := conj_of hp
 exact (br' h (fun e3 h => ⟨(hp0 e3),(hp1 e3),(hp2 e3),(hp3 e3),(hp4 e3),(hp5 e3),(hp0 e3),(hp1 e3),h⟩)
  (fun e3 h => ⟨(hp6 e3),(hp7 e3),(hp6 e3),(hp7 e3),h⟩)))))
  (fun e1 h => ⟨(hp1 e1),(hp2 e1),(hp3 e1),h⟩))))⟩
theorem l_Z3_0 (p0 p1:Int×List Int) (d1:v_dgok p0.2) (d2:v_dgok p1.2) (l1:p0.2.length≤1000000000000) (l2:p1.2.length≤1000000000000) (j:Nat) (hj:j < p0.2.length) (out:gF) (ho:out.length = p0.2.length + p1.2.length + 1) (hd:v_dgok out) (hz:∀ m,j + p1.2.length≤m→out.getD m 0 = 0) :
  OkL (st_Z3_0 p0 p1 ((j:Int),out)) (sp_Z3_0 p0 p1 ((j:Int),out)) (0,0,out)∧(fun (r:(Int×List Int) ⊕ (Int×List Int)) => ∃ o2:List Int,r = .inl (((j + 1:Nat):Int),o2)∧o2.length = p0.2.length + p1.2.length + 1∧v_dgok o2∧v_val o2 = v_val out + p0.2.getD j 0 * v_pow j * v_val p1.2∧(∀ m,j + 1 + p1.2.length≤m→o2.getD m 0 = 0)) (lpv (.inr (0,[])) (st_Z3_0 p0 p1 ((j:Int),out)) (0,0,out)) := by
 refine @for_post (Int×List Int) (Int×Int×List Int) ((Int×List Int) ⊕ (Int×List Int)) (.inr (0,[])) (st_Z3_0 p0 p1 ((j:Int),out)) (sp_Z3_0 p0 p1 ((j:Int),out)) (fun i (t:Int×List Int) => (i,t)) 0 p1.2.length
  (fun k t => t.2.length = p0.2.length + p1.2.length + 1∧v_dgok t.2∧(0≤t.1∧t.1 < 1000000000)∧v_val t.2 + t.1 * v_pow (j + k)=v_val out + p0.2.getD j 0 * v_pow j * v_val (p1.2.take k)∧(∀ m,j + p1.2.length≤m→t.2.getD m 0 = 0))
  (fun r => ∃ o2:List Int,r = .inl (((j + 1:Nat):Int),o2)∧o2.length = p0.2.length + p1.2.length + 1∧v_dgok o2∧v_val o2 = v_val out + p0.2.getD j 0 * v_pow j * v_val p1.2∧(∀ m,j + 1 + p1.2.length≤m→o2.getD m 0 = 0)) (Nat.zero_le _) (by omega) ?_ ?_ (0,out) ⟨ho,hd,⟨Int.le_refl _,by simp only; omega⟩,?_,hz⟩
 ·rintro ⟨c,o⟩ ⟨g1,g2,g3,g4,g5⟩
  simp only at g1 g2 g3 g4 g5
  have hd:decide ((p1.2.length:Int) < p1.2.length)=false := decide_eq_false (by omega)
  have wi:IntKind.i64.wrap ((j:Int) + p1.2.length)=((j + p1.2.length:Nat):Int) := by rw [wrap_id (by omega) (by omega)]; omega
  have hz0 := g5 (j + p1.2.length) (Nat.le_refl _)
  simp only [sp_Z3_0,st_Z3_0,fM,hd,cond_false,wi,Int.toNat_natCast,hz0]
  refine ⟨by and_intros <;> first | (intro p hp; cases hp; done) | (intro h; cases h; done) | (intros; omega),_,rfl,o.set (j + p1.2.length) c,?_,by rw [List.length_set]; exact g1,v_dgok_set g2 g3,?_,fun m hm => ?_⟩
  ·rw [wrap_nat (by omega),Int.zero_add,wrap_id (n := c) (by omega) (by omega)]
  ·rw [v_val_set _ _ _ (by omega),hz0,Int.sub_zero,Int.mul_comm (v_pow _) c,g4,List.take_length]
  ·rw [gd_set (by omega),if_neg (by omega)]; exact g5 m (by omega)
 ·rintro k ⟨c,o⟩ _ hk ⟨g1,g2,g3,g4,g5⟩
  simp only at g1 g2 g3 g4 g5
  have hdd:decide ((k:Int) < p1.2.length)=true := decide_eq_true (by omega)
  have wi:IntKind.i64.wrap ((j:Int) + k)=((j + k:Nat):Int) := by rw [wrap_id (by omega) (by omega)]; omega
  obtain ⟨b1,b2,b3,b4⟩ := v_mul_small (v_dgok_get g2 (j + k)) (v_dgok_get d1 j) (v_dgok_get d2 k) g3
  have q0 := v_dgok_get g2 (j + k)
  have ws:IntKind.i64.wrap (IntKind.i64.wrap (o.getD (j + k) 0 + IntKind.i64.wrap (p0.2.getD j 0 * p1.2.getD k 0)) + c)=o.getD (j + k) 0 + p0.2.getD j 0 * p1.2.getD k 0 + c := by
   rw [w_add_r,w_add_l]; exact wrap_id (by omega) (by omega)
  simp only [sp_Z3_0,st_Z3_0,fM,hdd,cond_true,wi,Int.toNat_natCast,ws,wrap_nat (show (k:Int)≤9223372036854775806 by omega)]
  refine ⟨by and_intros <;> first | (intro p hp; cases hp; done) | (intro h; cases h; done) | (intros; omega),.inl ?_⟩
  rw [Int.tmod_eq_emod_of_nonneg b3,Int.tdiv_eq_ediv_of_nonneg b3]
  have r1 := Int.emod_nonneg (o.getD (j + k) 0 + p0.2.getD j 0 * p1.2.getD k 0 + c) (show (1000000000:Int) ≠ 0 by decide)
  have r2 := Int.emod_lt_of_pos (o.getD (j + k) 0 + p0.2.getD j 0 * p1.2.getD k 0 + c) (show (0:Int) < 1000000000 by decide)
  have r3:0≤(o.getD (j + k) 0 + p0.2.getD j 0 * p1.2.getD k 0 + c) / 1000000000 := Int.ediv_nonneg b3 (by decide)
  rw [wrap_id (n := (o.getD (j + k) 0 + p0.2.getD j 0 * p1.2.getD k 0 + c) / 1000000000) (by omega) (by omega)]
  refine ⟨(_,o.set (j + k) _),rfl,by rw [List.length_set]; exact g1,v_dgok_set g2 ⟨r1,r2⟩,⟨r3,b4⟩,?_,fun m hm => ?_⟩
  ·exact v_mul_round hk (by omega) rfl g4
  ·show (o.set (j + k) _).getD m 0 = 0
   rw [gd_set (by omega),if_neg (by omega)]; exact g5 m hm
 ·simp only [List.take_zero]
  show v_val out + 0 * v_pow (j + 0)=v_val out + p0.2.getD j 0 * v_pow j * 0
  omega
theorem l_Z3_1 (p0 p1:Int×List Int) (h1:v_wok p0) (h2:v_wok p1):OkL (st_Z3_1 p0 p1) (sp_Z3_1 p0 p1) (0,List.replicate (p0.2.length + p1.2.length + 1) 0)∧lpv (0,[]) (st_Z3_1 p0 p1) (0,List.replicate (p0.2.length + p1.2.length + 1) 0)=v_wide (v_wval p0 * v_wval p1) := by
 have l1 := h1.ln
 have l2 := h2.ln
 obtain ⟨a,ea,_⟩ := h1.ex
 obtain ⟨b,eb,_⟩ := h2.ex
 have d1:v_dgok p0.2 := by rw [ea]; exact v_wide_ok a
 have d2:v_dgok p1.2 := by rw [eb]; exact v_wide_ok b
 refine for_post (dd := (0,[])) (st := st_Z3_1 p0 p1) (sp := sp_Z3_1 p0 p1) (fun i (t:gF) => (i,t)) 0 p0.2.length
  (fun j t => t.length = p0.2.length + p1.2.length + 1∧v_dgok t∧v_val t = v_val (p0.2.take j) * v_val p1.2∧(∀ m,j + p1.2.length≤m→t.getD m 0 = 0)) (fun r => r = v_wide (v_wval p0 * v_wval p1)) (Nat.zero_le _) (by omega) ?_ ?_ _ ⟨by simp,?_,?_,fun m _ => gd_rep'⟩
 ·rintro o ⟨g1,g2,g3,_⟩
  have hd:decide ((p0.2.length:Int) < p0.2.length)=false := decide_eq_false (by omega)
  rw [List.take_length] at g3
  have s0:p0.1 = a.sign := by rw [ea]; rfl
  have s1:p1.1 = b.sign := by rw [eb]; rfl
  have x0:v_val p0.2 = a.natAbs := by rw [ea]; exact v_wide_val a
  have x1:v_val p1.2 = b.natAbs := by rw [eb]; exact v_wide_val b
  have hs:IntKind.i64.wrap (p0.1 * p1.1)=a.sign * b.sign := by
   rw [s0,s1]
   rcases v_sign3 a with ⟨_,e,_⟩ | ⟨_,e,_⟩ | ⟨_,e,_⟩ <;> rcases v_sign3 b with ⟨_,f,_⟩ | ⟨_,f,_⟩ | ⟨_,f,_⟩ <;> rw [e,f] <;> rfl
  simp only [sp_Z3_1,st_Z3_1,fM,hd,cond_false,hs]
  refine ⟨⟨fun h => (by cases h),fun _ => ?_,fun _ => g2,fun _ => by omega,by simp⟩,_,rfl,?_⟩
  ·rcases v_sign3 a with ⟨_,e,_⟩ | ⟨k,e,_⟩ | ⟨_,e,_⟩ <;> rcases v_sign3 b with ⟨_,f,_⟩ | ⟨k',f,_⟩ | ⟨_,f,_⟩ <;> rw [e,f]
   ·exact .inl rfl
   ·right; right; rw [g3,x1,k']; simp
   ·exact .inr (.inl rfl)
   ·right; right; rw [g3,x0,k]; simp
   ·right; right; rw [g3,x0,k]; simp
   ·right; right; rw [g3,x0,k]; simp
   ·exact .inr (.inl rfl)
   ·right; right; rw [g3,x1,k']; simp
   ·exact .inl rfl
  ·rw [g3,x0,x1]
   have := v_sign_abs a
   have := v_sign_abs b
   congr 1
   rw [show v_wval p0 = a by rw [ea,v_wval_wide],show v_wval p1 = b by rw [eb,v_wval_wide]]
   rw [Int.mul_assoc,← Int.mul_assoc b.sign,Int.mul_comm b.sign,Int.mul_assoc,← Int.mul_assoc,v_sign_abs,v_sign_abs]
 ·rintro j o _ hj ⟨g1,g2,g3,g4⟩
  obtain ⟨i1,o2,i2,i3,i4,i5,i6⟩ := l_Z3_0 p0 p1 d1 d2 l1 l2 j hj o g1 g2 g4
  have hd:decide ((j:Int) < p0.2.length)=true := decide_eq_true (by omega)
  simp only [sp_Z3_1,st_Z3_1,fM,hd,cond_true]
  refine ⟨⟨fun _ => i1,fun h => (by cases h),fun h => (by cases h),fun h => (by cases h),by simp⟩,.inl ⟨o2,i2,i3,i4,?_,i6⟩⟩
  rw [i5,g3,v_val_take_s hj,Int.add_mul,Int.mul_comm (v_pow j)]
 ·intro d hd
  rw [List.eq_of_mem_replicate hd]; exact ⟨Int.le_refl _,by decide⟩
 ·rw [v_val_zeros]
  show (0:Int)=0 * _
  rw [Int.zero_mul]
abbrev t_Z3 (p0:Int×List Int) (p1:Int×List Int):Int×List Int := v_wide (v_wval p0 * v_wval p1)
abbrev qre_Z3 (p0:Int×List Int) (p1:Int×List Int):List Prop := [v_wok p0,v_wok p1]
theorem pp_Z3 (p0:Int×List Int) (p1:Int×List Int) (hq:∀ p∈qre_Z3 p0 p1,p):∀ p∈pre_Z3 p0 p1,p := by
 obtain ⟨h1,h2,_⟩ := conj_of hq
 have l1 := h1.ln
 have l2 := h2.ln
 have e := (l_Z3_1 p0 p1 h1 h2).1
 have w:IntKind.i64.wrap (IntKind.i64.wrap ((p0.2.length:Int) + p1.2.length) + 1)=((p0.2.length + p1.2.length + 1:Nat):Int) := by rw [w_add_l,wrap_id (by omega) (by omega)]; omega
 simp only [pre_Z3,fM,w,Int.toNat_natCast]
 exact ⟨by omega,by omega,by omega,e,by simp⟩
theorem tt_Z3 (p0:Int×List Int) (p1:Int×List Int) (hq:∀ p∈qre_Z3 p0 p1,p):s_Z3 p0 p1 = t_Z3 p0 p1 := by
 obtain ⟨h1,h2,_⟩ := conj_of hq
 have l1 := h1.ln
 have l2 := h2.ln
 have w:IntKind.i64.wrap (IntKind.i64.wrap ((p0.2.length:Int) + p1.2.length) + 1)=((p0.2.length + p1.2.length + 1:Nat):Int) := by rw [w_add_l,wrap_id (by omega) (by omega)]; omega
 unfold s_Z3 t_Z3
 rw [w,Int.toNat_natCast]
 exact (l_Z3_1 p0 p1 h1 h2).2

abbrev con_Z3:Con := ⟨P_Z3,R_Z3,fun x => qre_Z3 x.1 x.2,fun x => t_Z3 x.1 x.2⟩
theorem ok_Z3:ConOk Try.prog 129 con_Z3 := okG k_Z3 e_Z3 hC_Z3 fun x hx => tf_of (w_Z3_eq x.1 x.2 _) (d_Z3 x.1 x.2 _ (pp_Z3 x.1 x.2 hx) (tt_Z3 x.1 x.2 hx))
def C_Zr:Cons := [(141,[],con_Zo),(130,[],con_Zw)]
theorem hC_Zr:ConsOk Try.prog C_Zr := cC ok_Zo <| cC ok_Zw <| ConsOk.nil
def w_Zr (p0:gE) (p1:gE) (K:(Int×(List Int))→Prop):Prop := ((v_wok p1) ∧((v_wok p0) ∧((v_wok (v_wide (-(v_wval p1)))) ∧(K (v_wide ((v_wval p0) + (v_wval (v_wide (-(v_wval p1))))))))))
theorem w_Zr_eq (p0:gE) (p1:gE) (K:(Int×(List Int))→Prop):tfn F_Zr A_Zr C_Zr P_Zr R_Zr (p0,p1) K = w_Zr p0 p1 K := by kernel_rfl
def s_Zr (p0:gE) (p1:gE):(Int×(List Int)) := (v_wide ((v_wval p0) + (v_wval (v_wide (-(v_wval p1))))))
abbrev pre_Zr (p0:gE) (p1:gE):List Prop := [(v_wok p1),(v_wok p0),(v_wok (v_wide (-(v_wval p1))))]
theorem d_Zr (p0:gE) (p1:gE) (K:(Int×(List Int))→Prop) (hp:∀ p∈pre_Zr p0 p1,p) (h:K (s_Zr p0 p1)):w_Zr p0 p1 K := by
 unfold w_Zr
 unfold s_Zr at h
 obtain ⟨hp0,hp1,hp2,_⟩ := conj_of hp
 exact ⟨(hp0),(hp1),(hp2),h⟩
abbrev t_Zr (p0:Int×List Int) (p1:Int×List Int):Int×List Int := v_wide (v_wval p0 - v_wval p1)
abbrev qre_Zr (p0:Int×List Int) (p1:Int×List Int):List Prop := [v_wok p0,v_wok p1]
theorem pp_Zr (p0:Int×List Int) (p1:Int×List Int) (hq:∀ p∈qre_Zr p0 p1,p):∀ p∈pre_Zr p0 p1,p := by
 obtain ⟨h1,h2,_⟩ := conj_of hq
 obtain ⟨n,rfl,hn⟩ := h2.ex
 simp only [pre_Zr,fM]
 exact ⟨h2,h1,by rw [v_wval_wide]; exact v_wok_of (by rw [v_dl_neg]; exact hn),by simp⟩
theorem tt_Zr (p0:Int×List Int) (p1:Int×List Int) (hq:∀ p∈qre_Zr p0 p1,p):s_Zr p0 p1 = t_Zr p0 p1 := by
 obtain ⟨h1,h2,_⟩ := conj_of hq
 unfold s_Zr t_Zr
 rw [v_wval_wide]; rfl

abbrev con_Zr:Con := ⟨P_Zr,R_Zr,fun x => qre_Zr x.1 x.2,fun x => t_Zr x.1 x.2⟩
theorem ok_Zr:ConOk Try.prog 153 con_Zr := okG k_Zr e_Zr hC_Zr fun x hx => tf_of (w_Zr_eq x.1 x.2 _) (d_Zr x.1 x.2 _ (pp_Zr x.1 x.2 hx) (tt_Zr x.1 x.2 hx))
def C_Z17:Cons := []
theorem hC_Z17:ConsOk Try.prog C_Z17 := ConsOk.nil
def w_Z17 (p0:Int) (K:Int→Prop):Prop := (K (max p0 (IntKind.i64.wrap (zz0 - p0))))
theorem w_Z17_eq (p0:Int) (K:Int→Prop):tfn F_Z17 A_Z17 C_Z17 P_Z17 R_Z17 p0 K = w_Z17 p0 K := by kernel_rfl
def s_Z17 (p0:Int):Int := (max p0 (IntKind.i64.wrap ((0:Int) - p0)))
abbrev pre_Z17 (_p0:Int):List Prop := []
theorem d_Z17 (p0:Int) (K:Int→Prop) (_hp:∀ p∈pre_Z17 p0,p) (h:K (s_Z17 p0)):w_Z17 p0 K := by
 unfold w_Z17
 unfold s_Z17 at h
 exact h
abbrev con_Z17:Con := ⟨P_Z17,R_Z17,fun x => pre_Z17 x,fun x => s_Z17 x⟩
theorem ok_Z17:ConOk Try.prog 131 con_Z17 := okG k_Z17 e_Z17 hC_Z17 fun x hx => tf_of (w_Z17_eq x _) (d_Z17 x _ hx rfl)
end Go.Proofs.Ytehblgccaiiikaa
