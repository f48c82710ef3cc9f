/- What the functions that MagnetBases reaches compute: contracts, each function once. No condition. -/
import Derived.Test.YtdkhhafmidokmaaGreatWalkMagnetBasesA
import Derived.KernelRfl
namespace Go.Proofs.YtdkhhafmidokmaaGreat
open Go Go.Mx
set_option maxRecDepth 100000
set_option maxHeartbeats 4000000
def C_Zm:Cons := []
theorem hC_Zm:ConsOk Tryz.prog C_Zm := ConsOk.nil
def w_Zm (p0:gF) (K:(List Int)→Prop):Prop := (∃ n0,(loopP (fun (y1:Int) k2 => ((((decide (y1 > 0))=true) →((decide (y1 > 0))=(decide (y1 > 0)))) ∧((((decide (y1 > 0))=true) →((decide (y1 > 0))=(decide (y1 > 0)))) ∧((((decide (y1 > 0))=true) →((decide (y1 > 0))=(decide (y1 > 0)))) ∧((((decide (y1 > 0))=true) →(zz0≤(IntKind.i64.wrap (y1 - 1)))) ∧((((decide (y1 > 0))=true) →((IntKind.i64.wrap (y1 - 1)) < (p0.length:Int))) ∧((((decide (y1 > 0))=true) →((decide (y1 > 0))=(decide (y1 > 0)))) ∧((((decide (y1 > 0))=true) →((decide (y1 > 0))=(decide (y1 > 0)))) ∧(((decide (y1 > 0))=(decide (y1 > 0))) ∧((((cond (decide (y1 > 0)) ((p0.getD (Int.toNat (IntKind.i64.wrap (y1 - 1))) zz0) == 0) false)=true) →(k2 (IntKind.i64.wrap (y1 - 1)))) ∧(((cond (decide (y1 > 0)) ((p0.getD (Int.toNat (IntKind.i64.wrap (y1 - 1))) zz0) == 0) false)=false) →((zz0≤y1) ∧((y1≤(p0.length:Int)) ∧(K (List.take y1.toNat p0))))))))))))))) n0 (p0.length:Int)))
theorem w_Zm_eq (p0:gF) (K:(List Int)→Prop):tfn F_Zm A_Zm C_Zm P_Zm R_Zm p0 K = w_Zm p0 K := by kernel_rfl
def st_Zm_0 (p0:gF) (y0:Int):Int ⊕ (List Int) := (cond (cond (decide (y0 > 0)) ((p0.getD (Int.toNat (IntKind.i64.wrap (y0 - 1))) (0:Int)) == 0) false) (Sum.inl (IntKind.i64.wrap (y0 - 1))) (Sum.inr (List.take y0.toNat p0)))
abbrev sp_Zm_0 (p0:gF) (y0:Int):List Prop := [(((decide (y0 > 0))=true)→((0:Int)≤(IntKind.i64.wrap (y0 - 1)))),(((decide (y0 > 0))=true)→((IntKind.i64.wrap (y0 - 1)) < (p0.length:Int))),(((cond (decide (y0 > 0)) ((p0.getD (Int.toNat (IntKind.i64.wrap (y0 - 1))) (0:Int)) == 0) false)=false)→((0:Int)≤y0)),(((cond (decide (y0 > 0)) ((p0.getD (Int.toNat (IntKind.i64.wrap (y0 - 1))) (0:Int)) == 0) false)=false)→(y0≤(p0.length:Int)))]
def s_Zm (p0:gF):(List Int) := (lpv [] (st_Zm_0 p0) (p0.length:Int))
abbrev pre_Zm (p0:gF):List Prop := [(OkL (st_Zm_0 p0) (sp_Zm_0 p0) (p0.length:Int))]
theorem d_Zm (p0:gF) (K:(List Int)→Prop) (hp:∀ p∈pre_Zm p0,p) (h:K (s_Zm p0)):w_Zm p0 K := by
 unfold w_Zm
 unfold s_Zm at h
 obtain ⟨hp0,_⟩ := conj_of hp
 exact (loop_gen (hp0) h (fun y0 k0 hp h => by
 unfold st_Zm_0 at h; obtain ⟨hp0,hp1,hp2,hp3,_⟩ := conj_of hp
 exact ⟨rf,rf,rf,(hp0),(hp1),rf,rf,rfl,(br' h (fun e1 h => h)
  (fun e1 h => ⟨(hp2 e1),(hp3 e1),h⟩))⟩))
def v_cmp (a b:Int):Int := cond (decide (a < b)) (-1) (cond (decide (a > b)) 1 0)
theorem v_cmp_gt {a b:Int}:0 < v_cmp a b ↔ b < a := by
 unfold v_cmp
 rcases Int.lt_trichotomy a b with h | h | h
 ·rw [decide_eq_true h]; simp; omega
 ·subst h; simp
 ·rw [decide_eq_false (show ¬ a < b by omega),decide_eq_true (show a > b from h)]; simp; omega
/-- A rational number as a pair,in lowest terms. -/
def v_frac (q:Rat):Int×Int := (q.num,(q.den:Int))
theorem v_low_frac {n d:Int} (hd:0 < d):v_low (n,d)=v_frac ((n:Rat) / (d:Rat)) := by
 unfold v_low v_frac v_gcd
 rw [← Rat.divInt_eq_div,Rat.num_divInt,Rat.den_divInt,if_neg (by omega),Int.sign_eq_one_of_pos hd,Int.one_mul]
 simp only
 rw [Int.gcd_comm d n]
 congr 1
 rw [Int.natCast_ediv]
 congr 1
 omega
/-! Digits to the base 10^9,the lowest one first. -/
def v_dvl:List Int→Int
 | [] => 0
 | d :: r => d + 1000000000 * v_dvl r
def v_dgok (l:gF):Prop := ∀ d∈l,0≤d∧d < 1000000000
def v_digs (n:Nat):List Int := if h:n = 0 then [] else ((n % 1000000000:Nat):Int) :: v_digs (n / 1000000000)
termination_by n
decreasing_by exact Nat.div_lt_self (Nat.pos_of_ne_zero h) (by decide)
theorem v_digs_0:v_digs 0 = [] := by unfold v_digs; rfl
theorem v_digs_pos {n:Nat} (h:n ≠ 0):v_digs n = ((n % 1000000000:Nat):Int) :: v_digs (n / 1000000000) := by rw [v_digs,dif_neg h]
theorem v_digs_ok (n:Nat):v_dgok (v_digs n) := by
 induction n using Nat.strongRecOn with
 | _ n ih =>
  by_cases h:n = 0
  ·subst h; rw [v_digs_0]; intro d hd; cases hd
  ·rw [v_digs_pos h]
   intro d hd
   rcases List.mem_cons.1 hd with rfl | hd
   ·omega
   ·exact ih _ (Nat.div_lt_self (Nat.pos_of_ne_zero h) (by decide)) d hd
theorem v_digs_val (n:Nat):v_dvl (v_digs n)=n := by
 induction n using Nat.strongRecOn with
 | _ n ih =>
  by_cases h:n = 0
  ·subst h; rw [v_digs_0]; rfl
  ·rw [v_digs_pos h]
   show _ + 1000000000 * v_dvl _ = _
   rw [ih _ (Nat.div_lt_self (Nat.pos_of_ne_zero h) (by decide))]
   omega
theorem v_val_nn:∀ {l:List Int},v_dgok l→0≤v_dvl l
 | [],_ => Int.le_refl _
 | d :: r,h => by
  have := h d (by simp)
  have := v_val_nn (l := r) fun x hx => h x (by simp [hx])
  show 0≤d + 1000000000 * v_dvl r
  omega
/-- What so many digits can say. -/
def v_pow (k:Nat):Int := 1000000000 ^ k
theorem v_pow_0:v_pow 0 = 1 := rfl
theorem v_pow_s (k:Nat):v_pow (k + 1)=1000000000 * v_pow k := by unfold v_pow; rw [Int.pow_succ,Int.mul_comm]
theorem v_pow_pos (k:Nat):1≤v_pow k := by
 induction k with
 | zero => exact Int.le_refl _
 | succ k ih => rw [v_pow_s]; omega
theorem v_pow_add (a b:Nat):v_pow (a + b)=v_pow a * v_pow b := by unfold v_pow; rw [Int.pow_add]
theorem v_pow_le {a b:Nat} (h:a≤b):v_pow a≤v_pow b := by
 obtain ⟨c,rfl⟩ : ∃ c,b = a + c := ⟨b - a,by omega⟩
 rw [v_pow_add]
 have h1 := v_pow_pos a
 have h2 := v_pow_pos c
 have := Int.mul_le_mul_of_nonneg_left h2 (show 0≤v_pow a by omega)
 omega
theorem v_val_lt:∀ {l:List Int},v_dgok l→v_dvl l < v_pow l.length
 | [],_ => by decide
 | d :: r,h => by
  have := h d (by simp)
  have := v_val_lt (l := r) fun x hx => h x (by simp [hx])
  show d + 1000000000 * v_dvl r < v_pow (r.length + 1)
  rw [v_pow_s]; omega
theorem v_digs_low (n:Nat):v_digs n = [] ∨ v_pow ((v_digs n).length - 1)≤n := by
 induction n using Nat.strongRecOn with
 | _ n ih =>
  by_cases h:n = 0
  ·subst h; exact .inl v_digs_0
  ·right
   rw [v_digs_pos h,List.length_cons,Nat.add_sub_cancel]
   rcases ih (n / 1000000000) (Nat.div_lt_self (Nat.pos_of_ne_zero h) (by decide)) with e | e
   ·rw [e]; show (1:Int)≤n; omega
   ·generalize hL:(v_digs (n / 1000000000)).length = L at *
    rcases Nat.eq_zero_or_pos L with h0 | h0
    ·rw [h0]; show (1:Int)≤n; omega
    ·rw [show L = L - 1 + 1 by omega,v_pow_s]
     omega
theorem v_digs_high (n:Nat):(n:Int) < v_pow (v_digs n).length := by
 have := v_val_lt (v_digs_ok n)
 rwa [v_digs_val] at this
theorem v_pow_lt {a b:Nat} (h:v_pow a < v_pow b):a < b := by
 rcases Nat.lt_or_ge a b with g | g
 ·exact g
 ·have := v_pow_le g; omega
theorem v_digs_len {n k:Nat} (h:(n:Int) < v_pow k):(v_digs n).length≤k := by
 rcases v_digs_low n with e | e
 ·rw [e]; simp
 ·have := v_pow_lt (show v_pow ((v_digs n).length - 1) < v_pow k by omega)
  omega
theorem v_digs_len_lt {m n:Nat} (h:(v_digs m).length < (v_digs n).length):m < n := by
 have h1 := v_digs_high m
 rcases v_digs_low n with e | e
 ·rw [e] at h; simp at h
 ·have := v_pow_le (show (v_digs m).length≤(v_digs n).length - 1 by omega)
  omega
/-- Without zeros at the end. -/
def v_trim:List Int→List Int
 | [] => []
 | d :: r => match v_trim r with
  | [] => cond (d == 0) [] [d]
  | x :: q => d :: x :: q
theorem v_trim_is:∀ {l:List Int},v_dgok l→v_trim l = v_digs (v_dvl l).toNat
 | [],_ => by rw [show (v_dvl []).toNat = 0 from rfl,v_digs_0]; rfl
 | d :: r,h => by
  have hd := h d (by simp)
  have hr:v_dgok r := fun x hx => h x (by simp [hx])
  have hn := v_val_nn hr
  have ih := v_trim_is hr
  have e:v_dvl (d :: r)=d + 1000000000 * v_dvl r := rfl
  have e1:(d + 1000000000 * v_dvl r).toNat % 1000000000 = d.toNat := by omega
  have e2:(d + 1000000000 * v_dvl r).toNat / 1000000000 = (v_dvl r).toNat := by omega
  rw [e]
  unfold v_trim
  rw [ih]
  by_cases hz:v_dvl r = 0
  ·rw [hz,show (0:Int).toNat = 0 from rfl,v_digs_0]
   by_cases hd0:d = 0
   ·subst hd0; rw [show ((0:Int) + 1000000000 * 0).toNat = 0 from rfl,v_digs_0]; rfl
   ·rw [hz] at e1 e2
    rw [v_digs_pos (by omega),e1,e2,show (0:Int).toNat = 0 from rfl,v_digs_0,Int.toNat_of_nonneg hd.1,show (d == 0)=false from beq_eq_false_iff_ne.2 hd0]; rfl
  ·rw [v_digs_pos (n := (d + 1000000000 * v_dvl r).toNat) (by omega),e1,e2,Int.toNat_of_nonneg hd.1]
   cases hq:v_digs (v_dvl r).toNat with
   | nil =>
    have := v_digs_val (v_dvl r).toNat
    rw [hq] at this
    have:(0:Int)=((v_dvl r).toNat:Int) := this
    omega
   | cons x q => rfl
theorem v_val_append:∀ (a b:gF),v_dvl (a ++ b)=v_dvl a + v_pow a.length * v_dvl b
 | [],b => by show v_dvl b = 0 + 1 * v_dvl b; omega
 | d :: a,b => by
  show d + 1000000000 * v_dvl (a ++ b)=d + 1000000000 * v_dvl a + v_pow (a.length + 1) * v_dvl b
  rw [v_val_append a b,v_pow_s,Int.mul_add,Int.mul_assoc]; omega
theorem v_val_zeros:∀ n,v_dvl (List.replicate n 0)=0
 | 0 => rfl
 | n + 1 => by rw [List.replicate_succ]; show (0:Int) + 1000000000 * v_dvl _ = 0; rw [v_val_zeros n]; rfl
theorem v_val_set:∀ (l:gF) (i:Nat) (x:Int),i < l.length→v_dvl (l.set i x)=v_dvl l + v_pow i * (x - l.getD i 0)
 | [],i,x,h => by simp at h
 | d :: r,0,x,_ => by
  show x + 1000000000 * v_dvl r = d + 1000000000 * v_dvl r + 1 * (x - d)
  omega
 | d :: r,i + 1,x,h => by
  show d + 1000000000 * v_dvl (r.set i x)=d + 1000000000 * v_dvl r + v_pow (i + 1) * (x - r.getD i 0)
  rw [v_val_set r i x (by simpa using h),v_pow_s,Int.mul_add,Int.mul_assoc]; omega
theorem v_val_split (l:gF) (i:Nat) (h:i < l.length):v_dvl l = v_dvl (l.take i) + v_pow i * (l.getD i 0 + 1000000000 * v_dvl (l.drop (i + 1))) := by
 have e:l = l.take i ++ (l.getD i 0 :: l.drop (i + 1)) := by rw [← drop_getD 0 h,List.take_append_drop]
 have := v_val_append (l.take i) (l.getD i 0 :: l.drop (i + 1))
 rw [← e] at this
 rw [this,List.length_take,Nat.min_eq_left (Nat.le_of_lt h)]; rfl
/-- A whole number,as its sign and its digits. -/
def v_wide (n:Int):Int×List Int := (n.sign,v_digs n.natAbs)
def v_wval (p:Int×List Int):Int := p.1 * v_dvl p.2
theorem v_wval_wide (n:Int):v_wval (v_wide n)=n := by
 unfold v_wval v_wide
 simp only
 rw [v_digs_val]
 exact Int.sign_mul_natAbs n
theorem v_val_take_s {l:List Int} {i:Nat} (h:i < l.length):v_dvl (l.take (i + 1))=v_dvl (l.take i) + v_pow i * l.getD i 0 := by
 have e:l.take (i + 1)=l.take i ++ [l.getD i 0] := by
  rw [List.take_succ_eq_append_getElem h,List.getD_eq_getElem?_getD,List.getElem?_eq_getElem h]; rfl
 rw [e,v_val_append,List.length_take,Nat.min_eq_left (Nat.le_of_lt h)]
 show _ + v_pow i * (l.getD i 0 + 1000000000 * 0)=_
 rw [Int.mul_zero,Int.add_zero]
theorem v_dgok_take {l:List Int} (h:v_dgok l) (i:Nat):v_dgok (l.take i) := fun d hd => h d (List.mem_of_mem_take hd)
theorem v_dgok_drop {l:List Int} (h:v_dgok l) (i:Nat):v_dgok (l.drop i) := fun d hd => h d (List.mem_of_mem_drop hd)
theorem v_dgok_get {l:List Int} (h:v_dgok l) (i:Nat):0≤l.getD i 0∧l.getD i 0 < 1000000000 := by
 rcases Nat.lt_or_ge i l.length with hi | hi
 ·exact h _ (getD_mem' 0 hi)
 ·rw [List.getD_eq_getElem?_getD,List.getElem?_eq_none hi]; simp
theorem v_dgok_snoc {l:List Int} {x:Int} (h:v_dgok l) (hx:0≤x∧x < 1000000000):v_dgok (l ++ [x]) := fun d hd => by
 rcases List.mem_append.1 hd with hd | hd
 ·exact h d hd
 ·simp at hd; subst hd; exact hx
theorem v_dgok_set {l:List Int} {x:Int} {i:Nat} (h:v_dgok l) (hx:0≤x∧x < 1000000000):v_dgok (l.set i x) := fun d hd => by
 rcases List.mem_or_eq_of_mem_set hd with hd | rfl
 ·exact h d hd
 ·exact hx
theorem v_val_snoc (l:gF) (x:Int):v_dvl (l ++ [x])=v_dvl l + v_pow l.length * x := by
 rw [v_val_append]
 show _ + v_pow l.length * (x + 1000000000 * 0)=_
 rw [Int.mul_zero,Int.add_zero]
theorem v_dcmp_lt {a b:List Int} (ha:v_dgok a) (hb:v_dgok b) {i:Nat} (hia:i < a.length) (hib:i < b.length) (hd:a.drop (i + 1)=b.drop (i + 1)) (h:a.getD i 0 < b.getD i 0):v_dvl a < v_dvl b := by
 rw [v_val_split a i hia,v_val_split b i hib,hd]
 have h1 := v_val_lt (v_dgok_take ha i)
 rw [List.length_take,Nat.min_eq_left (Nat.le_of_lt hia)] at h1
 have h2 := v_val_nn (v_dgok_take hb i)
 have h3 := v_pow_pos i
 have := Int.mul_le_mul_of_nonneg_left (show 1≤b.getD i 0 - a.getD i 0 by omega) (show 0≤v_pow i by omega)
 rw [Int.mul_add,Int.mul_add]
 rw [Int.mul_sub] at this
 omega
/-- Rounds from a number down to 0; t: what is carried besides. -/
theorem down_is {τ σ ρ:Type} {dd:ρ} {st:σ→σ ⊕ ρ} {sp:σ→List Prop} (mk:Int→τ→σ) (n:Nat) (I:Nat→τ→Prop) (F:Nat→τ→ρ) (hl:n≤4611686018427387904)
  (hn:∀ t,I 0 t→(∀ p∈sp (mk (-1) t),p)∧st (mk (-1) t) = .inr (F 0 t))
  (hc:∀ (j:Nat) (t:τ),j < n→I (j + 1) t→(∀ p∈sp (mk j t),p)∧((∃ t',st (mk j t) = .inl (mk ((j:Int) - 1) t')∧I j t'∧F j t' = F (j + 1) t) ∨ st (mk j t) = .inr (F (j + 1) t))) (t:τ) (h:I n t):OkL st sp (mk ((n:Int) - 1) t)∧lpv dd st (mk ((n:Int) - 1) t)=F n t := by
 have key:∀ (j f:Nat) (t:τ),j≤n→j < f→I j t→OkN st sp f (mk ((j:Int) - 1) t)∧runL dd st f (mk ((j:Int) - 1) t)=F j t := by
  intro j
  induction j with
  | zero =>
   intro f t _ hf hi
   obtain ⟨g1,g2⟩ := hn t hi
   cases f with
   | zero => omega
   | succ f => unfold OkN runL; rw [show ((0:Nat):Int) - 1 = -1 from rfl,g2]; exact ⟨⟨g1,trivial⟩,rfl⟩
  | succ j ih =>
   intro f t hjn hf hi
   obtain ⟨g1,g2⟩ := hc j t (by omega) hi
   cases f with
   | zero => omega
   | succ f =>
    unfold OkN runL
    rw [show ((j + 1:Nat):Int) - 1 = (j:Int) by omega]
    rcases g2 with ⟨t',e,i',f'⟩ | e
    ·rw [e]
     obtain ⟨q1,q2⟩ := ih f t' (by omega) (by omega) i'
     exact ⟨⟨g1,q1⟩,by rw [← f']; exact q2⟩
    ·rw [e]; exact ⟨⟨g1,trivial⟩,rfl⟩
 exact key n fuel t (Nat.le_refl _) (by unfold fuel; omega) h
/-- What holds at each round,and falls,ends in what is asked. -/
theorem loop_post {σ ρ:Type} {d:ρ} {st:σ→σ ⊕ ρ} {sp:σ→List Prop} (I:σ→Prop) (μ:σ→Nat) (R:ρ→Prop)
  (h:∀ x,I x→(∀ p∈sp x,p)∧match st x with | .inl y => I y∧μ y < μ x | .inr r => R r) {x:σ} (hx:I x) (hm:μ x < fuel):OkL st sp x∧R (lpv d st x) := by
 have key:∀ (n:Nat) (x:σ),I x→μ x < n→OkN st sp n x∧R (runL d st n x) := by
  intro n
  induction n with
  | zero => intro x _ hn; omega
  | succ n ih =>
   intro x hi hn
   obtain ⟨h1,h2⟩ := h x hi
   unfold OkN runL
   cases hst:st x with
   | inl y =>
    rw [hst] at h2
    obtain ⟨q1,q2⟩ := ih y h2.1 (by omega)
    exact ⟨⟨h1,q1⟩,q2⟩
   | inr r => rw [hst] at h2; exact ⟨⟨h1,trivial⟩,h2⟩
 exact key fuel x hx hm
theorem for_post {τ σ ρ:Type} {dd:ρ} {st:σ→σ ⊕ ρ} {sp:σ→List Prop} (mk:Int→τ→σ) (a n:Nat) (I:Nat→τ→Prop) (R:ρ→Prop) (ha:a≤n) (hl:n≤4611686018427387904)
  (hn:∀ t,I n t→(∀ p∈sp (mk n t),p)∧∃ r,st (mk n t) = .inr r∧R r)
  (hc:∀ (j:Nat) (t:τ),a≤j→j < n→I j t→(∀ p∈sp (mk j t),p)∧((∃ t',st (mk j t) = .inl (mk ((j + 1:Nat):Int) t')∧I (j + 1) t') ∨ ∃ r,st (mk j t) = .inr r∧R r)) (t:τ) (h:I a t):OkL st sp (mk a t)∧R (lpv dd st (mk a t)) := by
 have key:∀ (m j f:Nat) (t:τ),a≤j→m + j = n→m < f→I j t→OkN st sp f (mk j t)∧R (runL dd st f (mk j t)) := by
  intro m
  induction m with
  | zero =>
   intro j f t _ hj hf hi
   have:j = n := by omega
   subst this
   obtain ⟨g1,r,g2,g3⟩ := hn t hi
   cases f with
   | zero => omega
   | succ f => unfold OkN runL; rw [g2]; exact ⟨⟨g1,trivial⟩,g3⟩
  | succ m ih =>
   intro j f t haj hj hf hi
   obtain ⟨g1,g2⟩ := hc j t haj (by omega) hi
   cases f with
   | zero => omega
   | succ f =>
    unfold OkN runL
    rcases g2 with ⟨t',e,i'⟩ | ⟨r,e,g3⟩
    ·rw [e]
     obtain ⟨q1,q2⟩ := ih (j + 1) f t' (by omega) (by omega) (by omega) i'
     exact ⟨⟨g1,q1⟩,q2⟩
    ·rw [e]; exact ⟨⟨g1,trivial⟩,g3⟩
 exact key (n - a) a fuel t (Nat.le_refl _) (by omega) (by unfold fuel; omega) h
/-- A sum,digit by digit: a round. -/
theorem v_add_round {out:List Int} {s R X:Int} (h:v_dvl out + v_pow out.length * (s + 1000000000 * R)=X):v_dvl (out ++ [s % 1000000000]) + v_pow (out.length + 1) * (s / 1000000000 + R)=X := by
 rw [v_val_snoc,v_pow_s,← h]
 have e:s = 1000000000 * (s / 1000000000) + s % 1000000000 := (Int.mul_ediv_add_emod s 1000000000).symm
 generalize s / 1000000000 = q at *
 generalize s % 1000000000 = r at *
 subst e
 grind
/-- A product,digit by digit: a round. -/
theorem v_mul_round {out b:List Int} {i k:Nat} {x c s V:Int} (hk:k < b.length) (ho:i + k < out.length) (hs:s = out.getD (i + k) 0 + x * b.getD k 0 + c)
  (h:v_dvl out + c * v_pow (i + k)=V + x * v_pow i * v_dvl (b.take k)):v_dvl (out.set (i + k) (s % 1000000000)) + (s / 1000000000) * v_pow (i + k + 1)=V + x * v_pow i * v_dvl (b.take (k + 1)) := by
 rw [v_val_set _ _ _ ho,v_val_take_s hk,v_pow_s,v_pow_add]
 rw [v_pow_add] at h
 have e:s = 1000000000 * (s / 1000000000) + s % 1000000000 := (Int.mul_ediv_add_emod s 1000000000).symm
 generalize s / 1000000000 = q at *
 generalize s % 1000000000 = r at *
 generalize out.getD (i + k) 0 = o at *
 generalize b.getD k 0 = d at *
 generalize v_pow i = P at *
 generalize v_pow k = Q at *
 generalize v_dvl out = X at *
 generalize v_dvl (b.take k)=Y at *
 grind
theorem v_mul_small {o x d c:Int} (ho:0≤o∧o < 1000000000) (hx:0≤x∧x < 1000000000) (hd:0≤d∧d < 1000000000) (hc:0≤c∧c < 1000000000):0≤x * d∧x * d≤999999998000000001∧0≤o + x * d + c∧(o + x * d + c) / 1000000000 < 1000000000 := by
 have h1:0≤x * d := Int.mul_nonneg hx.1 hd.1
 have h2:0≤(999999999 - x) * (999999999 + d) := Int.mul_nonneg (by omega) (by omega)
 have h3:0≤(999999999 + x) * (999999999 - d) := Int.mul_nonneg (by omega) (by omega)
 have h4:0≤(999999999 - x) * (999999999 - d) := Int.mul_nonneg (by omega) (by omega)
 simp only [Int.sub_mul,Int.mul_sub,Int.mul_add,Int.add_mul] at h2 h3 h4
 omega
theorem v_trim_z:∀ (l:gF),v_trim (l ++ [0])=v_trim l
 | [] => rfl
 | d :: r => by
  rw [List.cons_append]
  unfold v_trim
  rw [v_trim_z r]
theorem v_trim_n {d:Int} (h:d ≠ 0):∀ (l:gF),v_trim (l ++ [d])=l ++ [d]
 | [] => by
  show (match v_trim [] with | [] => cond (d == 0) [] [d] | x :: q => d :: x :: q)=_
  rw [show v_trim []=[] from rfl]
  simp only
  rw [show (d == 0)=false from beq_eq_false_iff_ne.2 h]; rfl
 | x :: r => by
  rw [List.cons_append]
  unfold v_trim
  rw [v_trim_n h r]
  cases r <;> rfl
theorem l_Zm_0 (p0:gF) (h:p0.length≤10000000000000):OkL (st_Zm_0 p0) (sp_Zm_0 p0) (p0.length:Int)∧lpv ([]:List Int) (st_Zm_0 p0) (p0.length:Int)=v_trim p0 := by
 refine loop_is (fun (y:Int) => 0≤y∧y≤p0.length∧v_trim (p0.take y.toNat)=v_trim p0) (fun (y:Int) => y.toNat) (fun _ => v_trim p0) ?_ ⟨by omega,Int.le_refl _,by rw [Int.toNat_natCast,List.take_length]⟩ (by unfold fuel; omega)
 rintro y ⟨h1,h2,h3⟩
 rcases Int.lt_or_le 0 y with h0 | h0
 ·have hw:IntKind.i64.wrap (y - 1)=y - 1 := wrap_id (by omega) (by omega)
  have hk:(y - 1).toNat < p0.length := by omega
  have ht := take_snoc hk
  rw [show (y - 1).toNat + 1 = y.toNat by omega] at ht
  simp only [sp_Zm_0,st_Zm_0,hw,decide_eq_true (show y > 0 from h0),fM,cond_true]
  refine ⟨⟨fun _ => by omega,fun _ => by omega,fun _ => by omega,fun _ => h2,by simp⟩,?_⟩
  rcases int0 (p0.getD (y - 1).toNat 0) with ⟨z,_,e⟩ | ⟨z,_,e⟩ <;> rw [e]
  ·simp only [cond_true]
   refine ⟨⟨by omega,by omega,?_⟩,by omega,trivial⟩
   rw [← h3,ht,z,v_trim_z]
  ·simp only [cond_false]
   rw [← h3,ht,v_trim_n z]
 ·have:y = 0 := by omega
  subst this
  simp only [sp_Zm_0,st_Zm_0,decide_eq_false (show ¬ (0:Int) > 0 by omega),fM,cond_false]
  refine ⟨⟨fun h => (by cases h),fun h => (by cases h),fun _ => Int.le_refl _,fun _ => h2,by simp⟩,?_⟩
  rw [← h3]; rfl
abbrev t_Zm (p0:gF):List Int := v_trim p0
abbrev qre_Zm (p0:gF):List Prop := [p0.length≤10000000000000]
theorem pp_Zm (p0:gF) (hq:∀ p∈qre_Zm p0,p):∀ p∈pre_Zm p0,p := by
 simp only [pre_Zm,fM]
 exact ⟨(l_Zm_0 p0 (conj_of hq).1).1,by simp⟩
theorem tt_Zm (p0:gF) (hq:∀ p∈qre_Zm p0,p):s_Zm p0 = t_Zm p0 := by
 exact (l_Zm_0 p0 (conj_of hq).1).2

abbrev con_Zm:Con := ⟨P_Zm,R_Zm,fun x => qre_Zm x,fun x => t_Zm x⟩
theorem ok_Zm:ConOk Tryz.prog 120 con_Zm := okG k_Zm e_Zm hC_Zm fun x hx => tf_of (w_Zm_eq x _) (d_Zm x _ (pp_Zm x hx) (tt_Zm x hx))
def C_Zl:Cons := []
theorem hC_Zl:ConsOk Tryz.prog C_Zl := ConsOk.nil
def w_Zl (p0:gF) (p1:gF) (K:Int→Prop):Prop := (((((p0.length:Int) != (p1.length:Int))=true) →((((decide ((p0.length:Int) < (p1.length:Int)))=true) →(K (-1:Int))) ∧(((decide ((p0.length:Int) < (p1.length:Int)))=false) →(K zz1)))) ∧((((p0.length:Int) != (p1.length:Int))=false) →(∃ n0,(loopP (fun (y1:Int) k2 => ((((decide (y1 ≥ 0))=true) →((zz0≤y1) ∧((y1 < (p0.length:Int)) ∧((zz0≤y1) ∧((y1 < (p1.length:Int)) ∧((((decide ((p0.getD y1.toNat zz0) < (p1.getD y1.toNat zz0)))=true) →(K (-1:Int))) ∧(((decide ((p0.getD y1.toNat zz0) < (p1.getD y1.toNat zz0)))=false) →((zz0≤y1) ∧((y1 < (p0.length:Int)) ∧((zz0≤y1) ∧((y1 < (p1.length:Int)) ∧((((decide ((p0.getD y1.toNat zz0) > (p1.getD y1.toNat zz0)))=true) →(K zz1)) ∧(((decide ((p0.getD y1.toNat zz0) > (p1.getD y1.toNat zz0)))=false) →(k2 (IntKind.i64.wrap (y1 - 1)))))))))))))))) ∧(((decide (y1 ≥ 0))=false) →(K zz0)))) n0 (IntKind.i64.wrap ((p0.length:Int) - 1))))))
theorem w_Zl_eq (p0:gF) (p1:gF) (K:Int→Prop):tfn F_Zl A_Zl C_Zl P_Zl R_Zl (p0,p1) K = w_Zl p0 p1 K := by kernel_rfl
def st_Zl_0 (p0:gF) (p1:gF) (y2:Int):Int ⊕ Int := (cond (decide (y2 ≥ 0)) (cond (decide ((p0.getD y2.toNat (0:Int)) < (p1.getD y2.toNat (0:Int)))) (Sum.inr (-1:Int)) (cond (decide ((p0.getD y2.toNat (0:Int)) > (p1.getD y2.toNat (0:Int)))) (Sum.inr (1:Int)) (Sum.inl (IntKind.i64.wrap (y2 - 1))))) (Sum.inr (0:Int)))
abbrev sp_Zl_0 (p0:gF) (p1:gF) (y2:Int):List Prop := [(((decide (y2 ≥ 0))=true)→((0:Int)≤y2)),(((decide (y2 ≥ 0))=true)→(y2 < (p0.length:Int))),(((decide (y2 ≥ 0))=true)→(y2 < (p1.length:Int))),(((decide (y2 ≥ 0))=true)→(((decide ((p0.getD y2.toNat (0:Int)) < (p1.getD y2.toNat (0:Int))))=false)→((0:Int)≤y2))),(((decide (y2 ≥ 0))=true)→(((decide ((p0.getD y2.toNat (0:Int)) < (p1.getD y2.toNat (0:Int))))=false)→(y2 < (p0.length:Int)))),(((decide (y2 ≥ 0))=true)→(((decide ((p0.getD y2.toNat (0:Int)) < (p1.getD y2.toNat (0:Int))))=false)→(y2 < (p1.length:Int))))]
def s_Zl (p0:gF) (p1:gF):Int := (cond ((p0.length:Int) != (p1.length:Int)) (cond (decide ((p0.length:Int) < (p1.length:Int))) (-1:Int) (1:Int)) (lpv (0:Int) (st_Zl_0 p0 p1) (IntKind.i64.wrap ((p0.length:Int) - 1))))
abbrev pre_Zl (p0:gF) (p1:gF):List Prop := [((((p0.length:Int) != (p1.length:Int))=false)→(OkL (st_Zl_0 p0 p1) (sp_Zl_0 p0 p1) (IntKind.i64.wrap ((p0.length:Int) - 1))))]
theorem d_Zl (p0:gF) (p1:gF) (K:Int→Prop) (hp:∀ p∈pre_Zl p0 p1,p) (h:K (s_Zl p0 p1)):w_Zl p0 p1 K := by
 unfold w_Zl
 unfold s_Zl at h
 obtain ⟨hp0,_⟩ := conj_of hp
 exact (br' h (fun e0 h => (br' h (fun e1 h => h)
  (fun e1 h => h)))
  (fun e0 h => (loop_gen (hp0 e0) h (fun y2 k2 hp h => by
 unfold st_Zl_0 at h; obtain ⟨hp0,hp1,hp2,hp3,hp4,hp5,_⟩ := conj_of hp
 exact (br' h (fun e3 h => ⟨(hp0 e3),(hp1 e3),(hp0 e3),(hp2 e3),(br' h (fun e4 h => h)
  (fun e4 h => ⟨(hp3 e3 e4),(hp4 e3 e4),(hp3 e3 e4),(hp5 e3 e4),(br' h (fun e5 h => h)
  (fun e5 h => h))⟩))⟩)
  (fun e3 h => h))))))
/-- Digits that are those of their number. -/
structure v_can (l:gF):Prop where
 eq:l = v_digs (v_dvl l).toNat
 len:l.length≤1000000000000
theorem v_can.ok {l:List Int} (h:v_can l):v_dgok l := by rw [h.eq]; exact v_digs_ok _
theorem v_can.lt {a b:List Int} (ha:v_can a) (hb:v_can b) (h:a.length < b.length):v_dvl a < v_dvl b := by
 have h1 := v_val_nn ha.ok
 have h2 := v_val_nn hb.ok
 have := v_digs_len_lt (m := (v_dvl a).toNat) (n := (v_dvl b).toNat) (by rw [← ha.eq,← hb.eq]; exact h)
 omega
theorem l_Zl_0 (p0 p1:gF) (h1:v_can p0) (h2:v_can p1) (hl:p0.length = p1.length):OkL (st_Zl_0 p0 p1) (sp_Zl_0 p0 p1) (IntKind.i64.wrap ((p0.length:Int) - 1))∧lpv (0:Int) (st_Zl_0 p0 p1) (IntKind.i64.wrap ((p0.length:Int) - 1))=v_cmp (v_dvl p0) (v_dvl p1) := by
 have hlen := h1.len
 rw [wrap_id (n := (p0.length:Int) - 1) (by omega) (by omega)]
 refine down_is (dd := (0:Int)) (fun i (_:Unit) => i) p0.length (fun j _ => p0.drop j = p1.drop j) (fun _ _ => v_cmp (v_dvl p0) (v_dvl p1)) (by omega) ?_ ?_ () (by rw [List.drop_length,hl,List.drop_length])
 ·intro _ h
  simp only [List.drop_zero] at h
  subst h
  simp only [sp_Zl_0,st_Zl_0,fM,show decide ((-1:Int) ≥ 0)=false from rfl,cond_false]
  refine ⟨⟨fun h => (by cases h),fun h => (by cases h),fun h => (by cases h),fun h => (by cases h),fun h => (by cases h),fun h => (by cases h),by simp⟩,?_⟩
  unfold v_cmp
  rw [decide_eq_false (by omega)]; rfl
 ·intro j _ hj h
  have hj1:j < p1.length := by omega
  have hd:decide ((j:Int) ≥ 0)=true := decide_eq_true (by omega)
  have hw:IntKind.i64.wrap ((j:Int) - 1)=(j:Int) - 1 := wrap_id (by omega) (by omega)
  simp only [sp_Zl_0,st_Zl_0,fM,hd,cond_true,Int.toNat_natCast,hw]
  refine ⟨⟨fun _ => by omega,fun _ => by omega,fun _ => by omega,fun _ _ => by omega,fun _ _ => by omega,fun _ _ => by omega,by simp⟩,?_⟩
  rcases Int.lt_trichotomy (p0.getD j 0) (p1.getD j 0) with c | c | c
  ·right
   rw [decide_eq_true c,cond_true]
   have := v_dcmp_lt h1.ok h2.ok hj hj1 h c
   unfold v_cmp
   rw [decide_eq_true this]; rfl
  ·left
   rw [decide_eq_false (show ¬ p0.getD j 0 < p1.getD j 0 by omega),decide_eq_false (show ¬ p0.getD j 0 > p1.getD j 0 by omega),cond_false,cond_false]
   exact ⟨(),rfl,by rw [drop_getD 0 hj,drop_getD 0 hj1,h,c],trivial⟩
  ·right
   rw [decide_eq_false (show ¬ p0.getD j 0 < p1.getD j 0 by omega),decide_eq_true (show p0.getD j 0 > p1.getD j 0 from c),cond_true,cond_false]
   have := v_dcmp_lt h2.ok h1.ok hj1 hj h.symm c
   unfold v_cmp
   rw [decide_eq_false (show ¬ v_dvl p0 < v_dvl p1 by omega),decide_eq_true (show v_dvl p0 > v_dvl p1 from this)]; rfl
abbrev t_Zl (p0:gF) (p1:gF):Int := v_cmp (v_dvl p0) (v_dvl p1)
abbrev qre_Zl (p0:gF) (p1:gF):List Prop := [v_can p0,v_can p1]
theorem pp_Zl (p0:gF) (p1:gF) (hq:∀ p∈qre_Zl p0 p1,p):∀ p∈pre_Zl p0 p1,p := by
 obtain ⟨h1,h2,_⟩ := conj_of hq
 simp only [pre_Zl,fM]
 exact ⟨fun h => (l_Zl_0 p0 p1 h1 h2 (by simp at h; omega)).1,by simp⟩
theorem tt_Zl (p0:gF) (p1:gF) (hq:∀ p∈qre_Zl p0 p1,p):s_Zl p0 p1 = t_Zl p0 p1 := by
 obtain ⟨h1,h2,_⟩ := conj_of hq
 unfold s_Zl t_Zl
 rcases Nat.lt_trichotomy p0.length p1.length with h | h | h
 ·rw [show ((p0.length:Int) != (p1.length:Int))=true from bne_iff_ne.2 (by omega),decide_eq_true (by omega)]
  have := h1.lt h2 h
  unfold v_cmp
  rw [decide_eq_true this]; rfl
 ·have e := (l_Zl_0 p0 p1 h1 h2 h).2
  rw [e,h,bne_self_eq_false,cond_false]
 ·rw [show ((p0.length:Int) != (p1.length:Int))=true from bne_iff_ne.2 (by omega),decide_eq_false (by omega)]
  have := h2.lt h1 h
  unfold v_cmp
  rw [decide_eq_false (by omega),decide_eq_true (show v_dvl p0 > v_dvl p1 from this)]; rfl

abbrev con_Zl:Con := ⟨P_Zl,R_Zl,fun x => qre_Zl x.1 x.2,fun x => t_Zl x.1 x.2⟩
theorem ok_Zl:ConOk Tryz.prog 110 con_Zl := okG k_Zl e_Zl hC_Zl fun x hx => tf_of (w_Zl_eq x.1 x.2 _) (d_Zl x.1 x.2 _ (pp_Zl x.1 x.2 hx) (tt_Zl x.1 x.2 hx))
def C_Zp:Cons := [(120,[],con_Zm)]
theorem hC_Zp:ConsOk Tryz.prog C_Zp := cC ok_Zm <| ConsOk.nil
def w_Zp (p0:Int) (p1:gF) (K:(Int×(List Int))→Prop):Prop := ((p1.length≤10000000000000) ∧(((((((v_trim p1).length:Nat):Int) == 0)=true) →(K (zz0,(v_trim p1)))) ∧((((((v_trim p1).length:Nat):Int) == 0)=false) →(K (p0,(v_trim p1))))))
theorem w_Zp_eq (p0:Int) (p1:gF) (K:(Int×(List Int))→Prop):tfn F_Zp A_Zp C_Zp P_Zp R_Zp (p0,p1) K = w_Zp p0 p1 K := by kernel_rfl
def s_Zp (p0:Int) (p1:gF):(Int×(List Int)) := (cond ((((v_trim p1).length:Nat):Int) == 0) ((0:Int),(v_trim p1)) (p0,(v_trim p1)))
abbrev pre_Zp (_p0:Int) (p1:gF):List Prop := [(p1.length≤10000000000000)]
theorem d_Zp (p0:Int) (p1:gF) (K:(Int×(List Int))→Prop) (hp:∀ p∈pre_Zp p0 p1,p) (h:K (s_Zp p0 p1)):w_Zp p0 p1 K := by
 unfold w_Zp
 unfold s_Zp at h
 obtain ⟨hp0,_⟩ := conj_of hp
 exact ⟨(hp0),(br' h (fun e0 h => h)
  (fun e0 h => h))⟩
/-- A sign that fits digits. -/
def v_sgn (s:Int) (l:gF):Prop := s = 1 ∨ s = -1 ∨ v_dvl l = 0
abbrev t_Zp (p0:Int) (p1:gF):Int×List Int := v_wide (p0 * v_dvl p1)
abbrev qre_Zp (p0:Int) (p1:gF):List Prop := [v_sgn p0 p1,v_dgok p1,p1.length≤10000000000000]
theorem pp_Zp (p0:Int) (p1:gF) (hq:∀ p∈qre_Zp p0 p1,p):∀ p∈pre_Zp p0 p1,p := by
 obtain ⟨_,_,h3,_⟩ := conj_of hq
 simp only [pre_Zp,fM]
 exact ⟨h3,by simp⟩
theorem tt_Zp (p0:Int) (p1:gF) (hq:∀ p∈qre_Zp p0 p1,p):s_Zp p0 p1 = t_Zp p0 p1 := by
 obtain ⟨h1,h2,_⟩ := conj_of hq
 have hn := v_val_nn h2
 unfold s_Zp t_Zp v_wide
 rw [v_trim_is h2]
 rcases Decidable.em (v_dvl p1 = 0) with z | z
 ·rw [z,Int.mul_zero,show (0:Int).toNat = 0 from rfl]
  show cond (((v_digs 0).length:Int) == 0) ((0:Int),v_digs 0) (p0,v_digs 0)=((0:Int),v_digs 0)
  rw [v_digs_0]; rfl
 ·have hp:v_digs (v_dvl p1).toNat ≠ [] := by rw [v_digs_pos (by omega)]; simp
  have hl:((v_digs (v_dvl p1).toNat).length:Int) ≠ 0 := by have := List.length_pos_iff.2 hp; omega
  rw [show (((v_digs (v_dvl p1).toNat).length:Int) == 0)=false from beq_eq_false_iff_ne.2 hl]
  rcases h1 with rfl | rfl | h1
  ·rw [Int.one_mul,Int.sign_eq_one_of_pos (by omega)]
   simp only [cond_false]
   congr 2
   omega
  ·rw [show -1 * v_dvl p1 = -(v_dvl p1) by omega,Int.sign_eq_neg_one_of_neg (by omega)]
   simp only [cond_false]
   congr 2
   omega
  ·exact absurd h1 z

abbrev con_Zp:Con := ⟨P_Zp,R_Zp,fun x => qre_Zp x.1 x.2,fun x => t_Zp x.1 x.2⟩
theorem ok_Zp:ConOk Tryz.prog 103 con_Zp := okG k_Zp e_Zp hC_Zp fun x hx => tf_of (w_Zp_eq x.1 x.2 _) (d_Zp x.1 x.2 _ (pp_Zp x.1 x.2 hx) (tt_Zp x.1 x.2 hx))
def C_Zo:Cons := []
theorem hC_Zo:ConsOk Tryz.prog C_Zo := ConsOk.nil
def w_Zo (p0:gE) (K:(Int×(List Int))→Prop):Prop := (K ((IntKind.i64.wrap (zz0 - p0.1)),p0.2))
theorem w_Zo_eq (p0:gE) (K:(Int×(List Int))→Prop):tfn F_Zo A_Zo C_Zo P_Zo R_Zo p0 K = w_Zo p0 K := by kernel_rfl
def s_Zo (p0:gE):(Int×(List Int)) := ((IntKind.i64.wrap ((0:Int) - p0.1)),p0.2)
abbrev pre_Zo (_p0:gE):List Prop := []
theorem d_Zo (p0:gE) (K:(Int×(List Int))→Prop) (_hp:∀ p∈pre_Zo p0,p) (h:K (s_Zo p0)):w_Zo p0 K := by
 unfold w_Zo
 unfold s_Zo at h
 exact h
/-- A number that is as it should be. -/
structure v_wok (p:Int×List Int):Prop where
 eq:p = v_wide (v_wval p)
 ln:p.2.length≤1000000000000
/-- How many digits a number has. -/
def v_dl (n:Int):Nat := (v_digs n.natAbs).length
theorem v_wok.ex {p:Int×List Int} (h:v_wok p):∃ n:Int,p = v_wide n∧v_dl n≤1000000000000 := ⟨_,h.eq,by have := h.ln; rw [h.eq] at this; exact this⟩
theorem v_wok_of {n:Int} (h:v_dl n≤1000000000000):v_wok (v_wide n) := ⟨by rw [v_wval_wide],h⟩
theorem v_digs_mono {m n:Nat} (h:m≤n):(v_digs m).length≤(v_digs n).length := by
 rcases Nat.lt_or_ge (v_digs n).length (v_digs m).length with k | k
 ·have := v_digs_len_lt k; omega
 ·exact k
theorem v_dl_mono {m n:Int} (h:m.natAbs≤n.natAbs):v_dl m≤v_dl n := v_digs_mono h
theorem v_dl_mul (m n:Int):v_dl (m * n)≤v_dl m + v_dl n := by
 unfold v_dl
 refine v_digs_len ?_
 have h1 := v_digs_high m.natAbs
 have h2 := v_digs_high n.natAbs
 rw [Int.natAbs_mul,v_pow_add,Int.natCast_mul]
 rcases Int.lt_or_le 0 (n.natAbs:Int) with k | k
 ·exact Int.lt_of_lt_of_le (Int.mul_lt_mul_of_pos_right h1 k) (Int.mul_le_mul_of_nonneg_left (Int.le_of_lt h2) (by have := v_pow_pos (v_digs m.natAbs).length; omega))
 ·have:(n.natAbs:Int)=0 := by omega
  rw [this,Int.mul_zero,← v_pow_add]
  have := v_pow_pos ((v_digs m.natAbs).length + (v_digs n.natAbs).length); omega
theorem v_dl_add (m n:Int):v_dl (m + n)≤max (v_dl m) (v_dl n) + 1 := by
 unfold v_dl
 refine v_digs_len ?_
 have h1 := v_digs_high m.natAbs
 have h2 := v_digs_high n.natAbs
 have h3 := v_pow_le (Nat.le_max_left (v_digs m.natAbs).length (v_digs n.natAbs).length)
 have h4 := v_pow_le (Nat.le_max_right (v_digs m.natAbs).length (v_digs n.natAbs).length)
 have h5 := v_pow_pos (max (v_digs m.natAbs).length (v_digs n.natAbs).length)
 rw [v_pow_s]; omega
theorem v_dl_neg (n:Int):v_dl (-n)=v_dl n := by unfold v_dl; rw [Int.natAbs_neg]
theorem v_wide_1 (n:Int):(v_wide n).1 = n.sign := rfl
theorem v_wide_val (n:Int):v_dvl (v_wide n).2 = n.natAbs := v_digs_val _
theorem v_wide_ok (n:Int):v_dgok (v_wide n).2 := v_digs_ok _
theorem v_wide_len (n:Int):(v_wide n).2.length = v_dl n := rfl
theorem v_wide_can {n:Int} (h:v_dl n≤1000000000000):v_can (v_wide n).2 := ⟨by rw [v_wide_val,Int.toNat_natCast]; rfl,h⟩
theorem v_sign_abs (n:Int):n.sign * (n.natAbs:Int)=n := Int.sign_mul_natAbs n
theorem v_sign3 (n:Int):(n < 0∧n.sign = -1∧(n.sign == 0)=false) ∨ (n = 0∧n.sign = 0∧(n.sign == 0)=true) ∨ (0 < n∧n.sign = 1∧(n.sign == 0)=false) := by
 rcases Int.lt_trichotomy n 0 with h | h | h
 ·have e := Int.sign_eq_neg_one_of_neg h; exact .inl ⟨h,e,by rw [e]; rfl⟩
 ·subst h; exact .inr (.inl ⟨rfl,rfl,rfl⟩)
 ·have e := Int.sign_eq_one_of_pos h; exact .inr (.inr ⟨h,e,by rw [e]; rfl⟩)
theorem v_cmp_sign (a b:Int):(a - b).sign = v_cmp a b := by
 unfold v_cmp
 rcases Int.lt_trichotomy a b with h | h | h
 ·rw [decide_eq_true h,Int.sign_eq_neg_one_of_neg (by omega)]; rfl
 ·subst h; rw [Int.sub_self,decide_eq_false (by omega)]; rfl
 ·rw [decide_eq_false (show ¬ a < b by omega),decide_eq_true (show a > b from h),Int.sign_eq_one_of_pos (by omega)]; rfl
abbrev t_Zo (p0:Int×List Int):Int×List Int := v_wide (-(v_wval p0))
abbrev qre_Zo (p0:Int×List Int):List Prop := [v_wok p0]
theorem pp_Zo (p0:Int×List Int) (_hq:∀ p∈qre_Zo p0,p):∀ p∈pre_Zo p0,p := by
 simp [pre_Zo]
theorem tt_Zo (p0:Int×List Int) (hq:∀ p∈qre_Zo p0,p):s_Zo p0 = t_Zo p0 := by
 obtain ⟨n,rfl,h⟩ := (conj_of hq).1.ex
 unfold s_Zo t_Zo
 rw [v_wval_wide]
 unfold v_wide
 rw [Int.natAbs_neg,Int.sign_neg]
 rcases v_sign3 n with ⟨_,e,_⟩ | ⟨_,e,_⟩ | ⟨_,e,_⟩ <;> rw [e] <;> rfl

abbrev con_Zo:Con := ⟨P_Zo,R_Zo,fun x => qre_Zo x,fun x => t_Zo x⟩
theorem ok_Zo:ConOk Tryz.prog 104 con_Zo := okG k_Zo e_Zo hC_Zo fun x hx => tf_of (w_Zo_eq x _) (d_Zo x _ (pp_Zo x hx) (tt_Zo x hx))
def C_Z10:Cons := []
theorem hC_Z10:ConsOk Tryz.prog C_Z10 := ConsOk.nil
def w_Z10 (p0:gF) (p1:Int) (K:Int→Prop):Prop := ((((decide (p1 < (p0.length:Int)))=true) →((zz0≤p1) ∧((p1 < (p0.length:Int)) ∧(K (p0.getD p1.toNat zz0))))) ∧(((decide (p1 < (p0.length:Int)))=false) →(K zz0)))
theorem w_Z10_eq (p0:gF) (p1:Int) (K:Int→Prop):tfn F_Z10 A_Z10 C_Z10 P_Z10 R_Z10 (p0,p1) K = w_Z10 p0 p1 K := by kernel_rfl
def s_Z10 (p0:gF) (p1:Int):Int := (cond (decide (p1 < (p0.length:Int))) (p0.getD p1.toNat (0:Int)) (0:Int))
abbrev pre_Z10 (p0:gF) (p1:Int):List Prop := [(((decide (p1 < (p0.length:Int)))=true)→((0:Int)≤p1)),(((decide (p1 < (p0.length:Int)))=true)→(p1 < (p0.length:Int)))]
theorem d_Z10 (p0:gF) (p1:Int) (K:Int→Prop) (hp:∀ p∈pre_Z10 p0 p1,p) (h:K (s_Z10 p0 p1)):w_Z10 p0 p1 K := by
 unfold w_Z10
 unfold s_Z10 at h
 obtain ⟨hp0,hp1,_⟩ := conj_of hp
 exact (br' h (fun e0 h => ⟨(hp0 e0),(hp1 e0),h⟩)
  (fun e0 h => h))
abbrev t_Z10 (p0:gF) (p1:Int):Int := p0.getD p1.toNat 0
abbrev qre_Z10 (_p0:gF) (p1:Int):List Prop := [0≤p1]
theorem pp_Z10 (p0:gF) (p1:Int) (hq:∀ p∈qre_Z10 p0 p1,p):∀ p∈pre_Z10 p0 p1,p := by
 have h := (conj_of hq).1
 simp only [pre_Z10,fM]
 exact ⟨fun _ => h,fun c => of_decide_eq_true c,by simp⟩
theorem tt_Z10 (p0:gF) (p1:Int) (hq:∀ p∈qre_Z10 p0 p1,p):s_Z10 p0 p1 = t_Z10 p0 p1 := by
 have h := (conj_of hq).1
 unfold s_Z10 t_Z10
 rcases Int.lt_or_le p1 p0.length with c | c
 ·rw [decide_eq_true c]; rfl
 ·rw [decide_eq_false (by omega),gd_out 0 (by omega)]; rfl

abbrev con_Z10:Con := ⟨P_Z10,R_Z10,fun x => qre_Z10 x.1 x.2,fun x => t_Z10 x.1 x.2⟩
theorem ok_Z10:ConOk Tryz.prog 123 con_Z10 := okG k_Z10 e_Z10 hC_Z10 fun x hx => tf_of (w_Z10_eq x.1 x.2 _) (d_Z10 x.1 x.2 _ (pp_Z10 x.1 x.2 hx) (tt_Z10 x.1 x.2 hx))
def C_Ze:Cons := [(123,[],con_Z10)]
theorem hC_Ze:ConsOk Tryz.prog C_Ze := cC ok_Z10 <| ConsOk.nil
abbrev q0_Ze (p0:gF) (p1:gF) (y1:(Int×((List Int)×Int))) := (cond (decide (y1.1 < (p0.length:Int))) true (decide (y1.1 < (p1.length:Int))))
def w_Ze (p0:gF) (p1:gF) (K:(List Int)→Prop):Prop := (∃ n0,(loopP (fun (y1:(Int×((List Int)×Int))) k2 => ((((decide (y1.1 < (p0.length:Int)))=false) →((decide (y1.1 < (p0.length:Int)))=(decide (y1.1 < (p0.length:Int))))) ∧((((decide (y1.1 < (p0.length:Int)))=false) →((decide (y1.1 < (p0.length:Int)))=(decide (y1.1 < (p0.length:Int))))) ∧((((decide (y1.1 < (p0.length:Int)))=false) →((decide (y1.1 < (p0.length:Int)))=(decide (y1.1 < (p0.length:Int))))) ∧(((decide (y1.1 < (p0.length:Int)))=(decide (y1.1 < (p0.length:Int)))) ∧((((q0_Ze p0 p1 y1)=false) →((q0_Ze p0 p1 y1)=(q0_Ze p0 p1 y1))) ∧(((q0_Ze p0 p1 y1)=(q0_Ze p0 p1 y1)) ∧((((cond (q0_Ze p0 p1 y1) true (decide (y1.2.2 > zz0)))=true) →((zz0≤y1.1) ∧((zz0≤y1.1) ∧((((y1.2.1.length + (List.length ((Int.tmod (wi ((wi ((p0.getD y1.1.toNat zz0) + (p1.getD y1.1.toNat zz0))) + y1.2.2)) (1000000000:Int)) :: ([]:List Int)))) * 8)≤140737488355328) ∧(k2 ((wi (y1.1 + zz1)),((y1.2.1 ++ ((Int.tmod (wi ((wi ((p0.getD y1.1.toNat zz0) + (p1.getD y1.1.toNat zz0))) + y1.2.2)) (1000000000:Int)) :: ([]:List Int))),(wi (Int.tdiv (wi ((wi ((p0.getD y1.1.toNat zz0) + (p1.getD y1.1.toNat zz0))) + y1.2.2)) (1000000000:Int)))))))))) ∧(((cond (q0_Ze p0 p1 y1) true (decide (y1.2.2 > zz0)))=false) →(K y1.2.1)))))))))) n0 (zz0,(([]:List Int),zz0))))
theorem w_Ze_eq (p0:gF) (p1:gF) (K:(List Int)→Prop):tfn F_Ze A_Ze C_Ze P_Ze R_Ze (p0,p1) K = w_Ze p0 p1 K := by kernel_rfl
def st_Ze_0 (p0:gF) (p1:gF) (y0:(Int×((List Int)×Int))):(Int×((List Int)×Int)) ⊕ (List Int) := (cond (cond (cond (decide (y0.1 < (p0.length:Int))) true (decide (y0.1 < (p1.length:Int)))) true (decide (y0.2.2 > 0))) (Sum.inl ((IntKind.i64.wrap (y0.1 + 1)),((y0.2.1 ++ ((Int.tmod (IntKind.i64.wrap ((IntKind.i64.wrap ((p0.getD y0.1.toNat (0:Int)) + (p1.getD y0.1.toNat (0:Int)))) + y0.2.2)) (1000000000:Int)) :: ([]:List Int))),(IntKind.i64.wrap (Int.tdiv (IntKind.i64.wrap ((IntKind.i64.wrap ((p0.getD y0.1.toNat (0:Int)) + (p1.getD y0.1.toNat (0:Int)))) + y0.2.2)) (1000000000:Int)))))) (Sum.inr y0.2.1))
abbrev sp_Ze_0 (p0:gF) (p1:gF) (y0:(Int×((List Int)×Int))):List Prop := [(((cond (cond (decide (y0.1 < (p0.length:Int))) true (decide (y0.1 < (p1.length:Int)))) true (decide (y0.2.2 > 0)))=true)→((0:Int)≤y0.1)),(((cond (cond (decide (y0.1 < (p0.length:Int))) true (decide (y0.1 < (p1.length:Int)))) true (decide (y0.2.2 > 0)))=true)→(((y0.2.1.length + (List.length ((Int.tmod (IntKind.i64.wrap ((IntKind.i64.wrap ((p0.getD y0.1.toNat (0:Int)) + (p1.getD y0.1.toNat (0:Int)))) + y0.2.2)) (1000000000:Int)) :: ([]:List Int)))) * 8)≤140737488355328))]
def s_Ze (p0:gF) (p1:gF):(List Int) := (lpv [] (st_Ze_0 p0 p1) ((0:Int),(([]:List Int),(0:Int))))
abbrev pre_Ze (p0:gF) (p1:gF):List Prop := [(OkL (st_Ze_0 p0 p1) (sp_Ze_0 p0 p1) ((0:Int),(([]:List Int),(0:Int))))]
theorem d_Ze (p0:gF) (p1:gF) (K:(List Int)→Prop) (hp:∀ p∈pre_Ze p0 p1,p) (h:K (s_Ze p0 p1)):w_Ze p0 p1 K := by
 unfold w_Ze
 unfold s_Ze at h
 obtain ⟨hp0,_⟩ := conj_of hp
 exact (loop_gen (hp0) h (fun y0 k0 hp h => by
 unfold st_Ze_0 at h; obtain ⟨hp0,hp1,_⟩ := conj_of hp
 exact ⟨rf,rf,rf,rfl,rf,rfl,(br' h (fun e1 h => ⟨(hp0 e1),(hp0 e1),(hp1 e1),h⟩)
  (fun e1 h => h))⟩))
abbrev con_Ze:Con := ⟨P_Ze,R_Ze,fun x => pre_Ze x.1 x.2,fun x => s_Ze x.1 x.2⟩
theorem ok_Ze:ConOk Tryz.prog 109 con_Ze := okG k_Ze e_Ze hC_Ze fun x hx => tf_of (w_Ze_eq x.1 x.2 _) (d_Ze x.1 x.2 _ hx rfl)
theorem l_Ze (p0 p1:gF) (h1:v_dgok p0) (h2:v_dgok p1) (l1:p0.length≤1000000000000) (l2:p1.length≤1000000000000):OkL (st_Ze_0 p0 p1) (sp_Ze_0 p0 p1) (0,[],0)∧(v_dgok (s_Ze p0 p1)∧v_dvl (s_Ze p0 p1)=v_dvl p0 + v_dvl p1∧(s_Ze p0 p1).length≤1000000000001) := by
 unfold s_Ze
 refine loop_post (st := st_Ze_0 p0 p1) (sp := sp_Ze_0 p0 p1) (fun (y:Int×List Int×Int) => ∃ i:Nat,y.1 = i∧y.2.1.length = i∧v_dgok y.2.1∧(0≤y.2.2∧y.2.2≤1)∧v_dvl y.2.1 + v_pow i * (y.2.2 + (v_dvl (p0.drop i) + v_dvl (p1.drop i)))=v_dvl p0 + v_dvl p1∧i≤max p0.length p1.length + 1∧(i = max p0.length p1.length + 1→y.2.2 = 0)) (fun y => (max p0.length p1.length + 1 - y.1).toNat) (fun r => v_dgok r∧v_dvl r = v_dvl p0 + v_dvl p1∧r.length≤1000000000001) ?_ ⟨0,rfl,rfl,(fun d hd => by cases hd),⟨Int.le_refl _,by decide⟩,?_,Nat.zero_le _,fun _ => rfl⟩ (by unfold fuel; simp only; omega)
 ·rintro ⟨_,out,c⟩ ⟨i,rfl,g1,g2,g3,g4,g5,g6⟩
  simp only at g1 g2 g3 g4 g6
  have d0 := v_dgok_get h1 i
  have d1 := v_dgok_get h2 i
  have hb:(cond (cond (decide ((i:Int) < p0.length)) true (decide ((i:Int) < p1.length))) true (decide (c > 0)))=true→i≤max p0.length p1.length := by
   intro hb
   rcases Nat.lt_or_ge (max p0.length p1.length) i with k | k
   ·have hz := g6 (by omega)
    subst hz
    rw [decide_eq_false (show ¬ (i:Int) < p0.length by omega),decide_eq_false (show ¬ (i:Int) < p1.length by omega)] at hb
    cases hb
   ·exact k
  have w1:IntKind.i64.wrap (IntKind.i64.wrap (p0.getD i 0 + p1.getD i 0) + c)=p0.getD i 0 + p1.getD i 0 + c := by rw [w_add_l]; exact wrap_id (by omega) (by omega)
  simp only [sp_Ze_0,st_Ze_0,fM,Int.toNat_natCast,w1]
  cases hc:(cond (cond (decide ((i:Int) < p0.length)) true (decide ((i:Int) < p1.length))) true (decide (c > 0)))
  ·refine ⟨by and_intros <;> first | (intro p hp; cases hp; done) | (intro h; cases h; done) | (intros; omega) | (intros; simp; omega),?_⟩
   simp only [cond_false]
   have e0:¬ (i:Int) < p0.length := fun k => by rw [decide_eq_true k] at hc; cases hc
   rw [decide_eq_false e0] at hc
   have e1:¬ (i:Int) < p1.length := fun k => by rw [decide_eq_true k] at hc; cases hc
   rw [decide_eq_false e1] at hc
   have e2:¬ c > 0 := fun k => by rw [decide_eq_true k] at hc; cases hc
   rw [List.drop_eq_nil_of_le (show p0.length≤i by omega),List.drop_eq_nil_of_le (show p1.length≤i by omega),show c = 0 by omega] at g4
   have e3:v_dvl ([]:List Int)=0 := rfl
   rw [e3,Int.add_zero,Int.add_zero,Int.mul_zero,Int.add_zero] at g4
   exact ⟨g2,g4,by omega⟩
  ·have hi := hb hc
   refine ⟨by and_intros <;> first | (intro p hp; cases hp; done) | (intros; omega) | (intros; simp; omega),?_⟩
   simp only [cond_true]
   have nn:0≤p0.getD i 0 + p1.getD i 0 + c := by omega
   rw [Int.tmod_eq_emod_of_nonneg nn,Int.tdiv_eq_ediv_of_nonneg nn]
   have q1 := Int.emod_nonneg (p0.getD i 0 + p1.getD i 0 + c) (show (1000000000:Int) ≠ 0 by decide)
   have q2 := Int.emod_lt_of_pos (p0.getD i 0 + p1.getD i 0 + c) (show (0:Int) < 1000000000 by decide)
   have q3:0≤(p0.getD i 0 + p1.getD i 0 + c) / 1000000000∧(p0.getD i 0 + p1.getD i 0 + c) / 1000000000≤1 := by omega
   rw [wrap_id (n := (p0.getD i 0 + p1.getD i 0 + c) / 1000000000) (by omega) (by omega),wrap_nat (by omega)]
   refine ⟨⟨i + 1,rfl,by simp [g1],v_dgok_snoc g2 ⟨q1,q2⟩,q3,?_,by omega,fun h => ?_⟩,by omega⟩
   ·rw [← g1]
    refine v_add_round ?_
    rw [g1,← g4]
    have s0:v_dvl (p0.drop i)=p0.getD i 0 + 1000000000 * v_dvl (p0.drop (i + 1)) := by
     rcases Nat.lt_or_ge i p0.length with k | k
     ·rw [drop_getD 0 k]; rfl
     ·rw [gd_out 0 k,List.drop_eq_nil_of_le k,List.drop_eq_nil_of_le (by omega)]; rfl
    have s1:v_dvl (p1.drop i)=p1.getD i 0 + 1000000000 * v_dvl (p1.drop (i + 1)) := by
     rcases Nat.lt_or_ge i p1.length with k | k
     ·rw [drop_getD 0 k]; rfl
     ·rw [gd_out 0 k,List.drop_eq_nil_of_le k,List.drop_eq_nil_of_le (by omega)]; rfl
    rw [s0,s1]
    generalize v_pow i = P
    grind
   ·have e0:p0.getD i 0 = 0 := gd_out 0 (by omega)
    have e1:p1.getD i 0 = 0 := gd_out 0 (by omega)
    rw [e0,e1]; omega
 ·show (0:Int) + 1 * (0 + (v_dvl p0 + v_dvl p1))=_
  omega
def C_Zf:Cons := [(123,[],con_Z10),(120,[],con_Zm)]
theorem hC_Zf:ConsOk Tryz.prog C_Zf := cC ok_Z10 <| cC ok_Zm <| ConsOk.nil
abbrev q0_Zf (p0:gF) (p1:gF) (y1:(Int×((List Int)×Int))) := ((p0.getD y1.1.toNat zz0) - (p1.getD y1.1.toNat zz0))
def w_Zf (p0:gF) (p1:gF) (K:(List Int)→Prop):Prop := (∃ n0,(loopP (fun (y1:(Int×((List Int)×Int))) k2 => ((((decide (y1.1 < (p0.length:Int)))=true) →((zz0≤y1.1) ∧((y1.1 < (p0.length:Int)) ∧((zz0≤y1.1) ∧((((decide ((wi ((wi (q0_Zf p0 p1 y1)) - y1.2.2)) < zz0))=true) →((((y1.2.1.length + (List.length ((wi ((wi ((wi (q0_Zf p0 p1 y1)) - y1.2.2)) + 1000000000)) :: ([]:List Int)))) * 8)≤140737488355328) ∧(k2 ((wi (y1.1 + zz1)),((y1.2.1 ++ ((wi ((wi ((wi (q0_Zf p0 p1 y1)) - y1.2.2)) + 1000000000)) :: ([]:List Int))),zz1))))) ∧(((decide ((wi ((wi (q0_Zf p0 p1 y1)) - y1.2.2)) < zz0))=false) →((((y1.2.1.length + (List.length ((wi ((wi (q0_Zf p0 p1 y1)) - y1.2.2)) :: ([]:List Int)))) * 8)≤140737488355328) ∧(k2 ((wi (y1.1 + zz1)),((y1.2.1 ++ ((wi ((wi (q0_Zf p0 p1 y1)) - y1.2.2)) :: ([]:List Int))),zz0)))))))))) ∧(((decide (y1.1 < (p0.length:Int)))=false) →((y1.2.1.length≤10000000000000) ∧(K (v_trim y1.2.1)))))) n0 (zz0,(([]:List Int),zz0))))
theorem w_Zf_eq (p0:gF) (p1:gF) (K:(List Int)→Prop):tfn F_Zf A_Zf C_Zf P_Zf R_Zf (p0,p1) K = w_Zf p0 p1 K := by kernel_rfl
def st_Zf_0 (p0:gF) (p1:gF) (y0:(Int×((List Int)×Int))):(Int×((List Int)×Int)) ⊕ (List Int) := (cond (decide (y0.1 < (p0.length:Int))) (cond (decide ((IntKind.i64.wrap ((IntKind.i64.wrap ((p0.getD y0.1.toNat (0:Int)) - (p1.getD y0.1.toNat (0:Int)))) - y0.2.2)) < 0)) (Sum.inl ((IntKind.i64.wrap (y0.1 + 1)),((y0.2.1 ++ ((IntKind.i64.wrap ((IntKind.i64.wrap ((IntKind.i64.wrap ((p0.getD y0.1.toNat (0:Int)) - (p1.getD y0.1.toNat (0:Int)))) - y0.2.2)) + 1000000000)) :: ([]:List Int))),(1:Int)))) (Sum.inl ((IntKind.i64.wrap (y0.1 + 1)),((y0.2.1 ++ ((IntKind.i64.wrap ((IntKind.i64.wrap ((p0.getD y0.1.toNat (0:Int)) - (p1.getD y0.1.toNat (0:Int)))) - y0.2.2)) :: ([]:List Int))),(0:Int))))) (Sum.inr (v_trim y0.2.1)))
abbrev sp_Zf_0 (p0:gF) (p1:gF) (y0:(Int×((List Int)×Int))):List Prop := [(((decide (y0.1 < (p0.length:Int)))=true)→((0:Int)≤y0.1)),(((decide (y0.1 < (p0.length:Int)))=true)→(y0.1 < (p0.length:Int))),(((decide (y0.1 < (p0.length:Int)))=true)→(((decide ((IntKind.i64.wrap ((IntKind.i64.wrap ((p0.getD y0.1.toNat (0:Int)) - (p1.getD y0.1.toNat (0:Int)))) - y0.2.2)) < 0))=true)→(((y0.2.1.length + (List.length ((IntKind.i64.wrap ((IntKind.i64.wrap ((IntKind.i64.wrap ((p0.getD y0.1.toNat (0:Int)) - (p1.getD y0.1.toNat (0:Int)))) - y0.2.2)) + 1000000000)) :: ([]:List Int)))) * 8)≤140737488355328))),(((decide (y0.1 < (p0.length:Int)))=true)→(((decide ((IntKind.i64.wrap ((IntKind.i64.wrap ((p0.getD y0.1.toNat (0:Int)) - (p1.getD y0.1.toNat (0:Int)))) - y0.2.2)) < 0))=false)→(((y0.2.1.length + (List.length ((IntKind.i64.wrap ((IntKind.i64.wrap ((p0.getD y0.1.toNat (0:Int)) - (p1.getD y0.1.toNat (0:Int)))) - y0.2.2)) :: ([]:List Int)))) * 8)≤140737488355328))),(((decide (y0.1 < (p0.length:Int)))=false)→(y0.2.1.length≤10000000000000))]
def s_Zf (p0:gF) (p1:gF):(List Int) := (lpv [] (st_Zf_0 p0 p1) ((0:Int),(([]:List Int),(0:Int))))
abbrev pre_Zf (p0:gF) (p1:gF):List Prop := [(OkL (st_Zf_0 p0 p1) (sp_Zf_0 p0 p1) ((0:Int),(([]:List Int),(0:Int))))]
theorem d_Zf (p0:gF) (p1:gF) (K:(List Int)→Prop) (hp:∀ p∈pre_Zf p0 p1,p) (h:K (s_Zf p0 p1)):w_Zf p0 p1 K := by
 unfold w_Zf
 unfold s_Zf at h
 obtain ⟨hp0,_⟩ := conj_of hp
 exact (loop_gen (hp0) h (fun y0 k0 hp h => by
 unfold st_Zf_0 at h; obtain ⟨hp0,hp1,hp2,hp3,hp4,_⟩ := conj_of hp
 exact (br' h (fun e1 h => ⟨(hp0 e1),(hp1 e1),(hp0 e1),(br' h (fun e2 h => ⟨(hp2 e1 e2),h⟩)
  (fun e2 h => ⟨(hp3 e1 e2),h⟩))⟩)
  (fun e1 h => ⟨(hp4 e1),h⟩))))
theorem l_Zf (p0 p1:gF) (h1:v_dgok p0) (h2:v_dgok p1) (l1:p0.length≤5000000000000) (hle:v_dvl p1≤v_dvl p0):OkL (st_Zf_0 p0 p1) (sp_Zf_0 p0 p1) (0,[],0)∧lpv [] (st_Zf_0 p0 p1) (0,[],0)=v_digs (v_dvl p0 - v_dvl p1).toNat := by
 refine for_post (dd := []) (st := st_Zf_0 p0 p1) (sp := sp_Zf_0 p0 p1) (fun i (t:List Int×Int) => (i,t)) 0 p0.length (fun j t => t.1.length = j∧v_dgok t.1∧(0≤t.2∧t.2≤1)∧v_dvl (p0.take j) - v_dvl (p1.take j)=v_dvl t.1 - t.2 * v_pow j) (fun r => r = v_digs (v_dvl p0 - v_dvl p1).toNat) (Nat.zero_le _) (by omega) ?_ ?_ ([],0) ⟨rfl,(fun d hd => by cases hd),⟨Int.le_refl _,by decide⟩,rfl⟩
 ·rintro ⟨out,c⟩ ⟨g1,g2,g3,g4⟩
  simp only at g1 g2 g3 g4
  have hd:decide ((p0.length:Int) < p0.length)=false := decide_eq_false (by omega)
  simp only [sp_Zf_0,st_Zf_0,fM,hd,cond_false]
  refine ⟨by and_intros <;> first | (intro p hp; cases hp; done) | (intro h; cases h; done) | (intros; omega),_,rfl,?_⟩
  rw [v_trim_is g2]
  rw [List.take_length] at g4
  have b1:v_dvl p1 = v_dvl (p1.take p0.length) := by
   have e := v_val_append (p1.take p0.length) (p1.drop p0.length)
   rw [List.take_append_drop] at e
   have n1 := v_val_nn (v_dgok_take h2 p0.length)
   have n2 := v_val_nn (v_dgok_drop h2 p0.length)
   have n3 := v_val_lt h1
   rcases Nat.lt_or_ge p0.length p1.length with k | k
   ·rw [List.length_take,Nat.min_eq_left (by omega)] at e
    have:v_dvl (p1.drop p0.length)=0 := by
     rcases Int.lt_or_le 0 (v_dvl (p1.drop p0.length)) with q | q
     ·have := Int.mul_le_mul_of_nonneg_left (show 1≤v_dvl (p1.drop p0.length) by omega) (show 0≤v_pow p0.length by have := v_pow_pos p0.length; omega)
      omega
     ·omega
    rw [this,Int.mul_zero] at e; omega
   ·rw [List.take_of_length_le k]
  have n4 := v_val_lt g2
  have n5 := v_val_nn g2
  rw [g1] at n4
  have hc:c = 0 := by
   rcases Int.lt_or_le 0 c with q | q
   ·have:c = 1 := by omega
    rw [this,Int.one_mul] at g4; omega
   ·omega
  rw [hc,Int.zero_mul] at g4
  congr 2
  omega
 ·rintro j ⟨out,c⟩ _ hj ⟨g1,g2,g3,g4⟩
  simp only at g1 g2 g3 g4
  have d0 := v_dgok_get h1 j
  have d1 := v_dgok_get h2 j
  have hd:decide ((j:Int) < p0.length)=true := decide_eq_true (by omega)
  have w1:IntKind.i64.wrap (IntKind.i64.wrap (p0.getD j 0 - p1.getD j 0) - c)=p0.getD j 0 - p1.getD j 0 - c := by rw [w_sub_l]; exact wrap_id (by omega) (by omega)
  have w2:IntKind.i64.wrap (p0.getD j 0 - p1.getD j 0 - c + 1000000000)=p0.getD j 0 - p1.getD j 0 - c + 1000000000 := wrap_id (by omega) (by omega)
  have t0 := v_val_take_s hj
  have t1:v_dvl (p1.take (j + 1))=v_dvl (p1.take j) + v_pow j * p1.getD j 0 := by
   rcases Nat.lt_or_ge j p1.length with k | k
   ·exact v_val_take_s k
   ·rw [List.take_of_length_le k,List.take_of_length_le (by omega),gd_out 0 k,Int.mul_zero,Int.add_zero]
  simp only [sp_Zf_0,st_Zf_0,fM,hd,cond_true,Int.toNat_natCast,w1,w2,wrap_nat (show (j:Int)≤9223372036854775806 by omega)]
  refine ⟨by and_intros <;> first | (intro p hp; cases hp; done) | (intro h; cases h; done) | (intros; omega) | (intros; simp; omega),.inl ?_⟩
  rcases dec0 (a := p0.getD j 0 - p1.getD j 0 - c) (b := 0) with ⟨k,e,_⟩ | ⟨k,e,_⟩ <;> rw [e]
  ·refine ⟨(out ++ [p0.getD j 0 - p1.getD j 0 - c + 1000000000],1),rfl,by simp [g1],v_dgok_snoc g2 ⟨by omega,by omega⟩,⟨by simp only; omega,Int.le_refl _⟩,?_⟩
   simp only
   rw [t0,t1,v_val_snoc,g1,v_pow_s]
   generalize v_pow j = P at *
   grind
  ·refine ⟨(out ++ [p0.getD j 0 - p1.getD j 0 - c],0),rfl,by simp [g1],v_dgok_snoc g2 ⟨by omega,by omega⟩,⟨Int.le_refl _,by simp only; omega⟩,?_⟩
   simp only
   rw [t0,t1,v_val_snoc,g1,v_pow_s]
   generalize v_pow j = P at *
   grind
abbrev t_Zf (p0:gF) (p1:gF):List Int := v_digs (v_dvl p0 - v_dvl p1).toNat
abbrev qre_Zf (p0:gF) (p1:gF):List Prop := [v_dgok p0,v_dgok p1,p0.length≤5000000000000,v_dvl p1≤v_dvl p0]
theorem pp_Zf (p0:gF) (p1:gF) (hq:∀ p∈qre_Zf p0 p1,p):∀ p∈pre_Zf p0 p1,p := by
 obtain ⟨h1,h2,h3,h4,_⟩ := conj_of hq
 simp only [pre_Zf,fM]
 exact ⟨(l_Zf p0 p1 h1 h2 h3 h4).1,by simp⟩
theorem tt_Zf (p0:gF) (p1:gF) (hq:∀ p∈qre_Zf p0 p1,p):s_Zf p0 p1 = t_Zf p0 p1 := by
 obtain ⟨h1,h2,h3,h4,_⟩ := conj_of hq
 exact (l_Zf p0 p1 h1 h2 h3 h4).2

abbrev con_Zf:Con := ⟨P_Zf,R_Zf,fun x => qre_Zf x.1 x.2,fun x => t_Zf x.1 x.2⟩
theorem ok_Zf:ConOk Tryz.prog 111 con_Zf := okG k_Zf e_Zf hC_Zf fun x hx => tf_of (w_Zf_eq x.1 x.2 _) (d_Zf x.1 x.2 _ (pp_Zf x.1 x.2 hx) (tt_Zf x.1 x.2 hx))
def C_Zy:Cons := [(109,[],con_Ze),(103,[],con_Zp),(110,[],con_Zl),(111,[],con_Zf)]
theorem hC_Zy:ConsOk Tryz.prog C_Zy := cC ok_Ze <| cC ok_Zp <| cC ok_Zl <| cC ok_Zf <| ConsOk.nil
def w_Zy (p0:gE) (p1:gE) (K:(Int×(List Int))→Prop):Prop := ((((p0.1 == 0)=true) →(K p1)) ∧(((p0.1 == 0)=false) →((((p1.1 == 0)=true) →(K p0)) ∧(((p1.1 == 0)=false) →((((p0.1 == p1.1)=true) →((OkL (st_Ze_0 p0.2 p1.2) (sp_Ze_0 p0.2 p1.2) (zz0,(([]:List Int),zz0))) ∧((v_sgn p0.1 (s_Ze p0.2 p1.2)) ∧((v_dgok (s_Ze p0.2 p1.2)) ∧(((List.length (s_Ze p0.2 p1.2))≤10000000000000) ∧(K (v_wide (p0.1 * (v_dvl (s_Ze p0.2 p1.2)))))))))) ∧(((p0.1 == p1.1)=false) →((v_can p0.2) ∧((v_can p1.2) ∧(((((v_cmp (v_dvl p0.2) (v_dvl p1.2)) == 0)=true) →(K (zz0,([]:List Int)))) ∧((((v_cmp (v_dvl p0.2) (v_dvl p1.2)) == 0)=false) →((((decide ((v_cmp (v_dvl p0.2) (v_dvl p1.2)) > 0))=true) →((v_dgok p0.2) ∧((v_dgok p1.2) ∧((p0.2.length≤5000000000000) ∧(((v_dvl p1.2)≤(v_dvl p0.2)) ∧((v_sgn p0.1 (v_digs (Int.toNat ((v_dvl p0.2) - (v_dvl p1.2))))) ∧((v_dgok (v_digs (Int.toNat ((v_dvl p0.2) - (v_dvl p1.2))))) ∧(((List.length (v_digs (Int.toNat ((v_dvl p0.2) - (v_dvl p1.2)))))≤10000000000000) ∧(K (v_wide (p0.1 * (v_dvl (v_digs (Int.toNat ((v_dvl p0.2) - (v_dvl p1.2)))))))))))))))) ∧(((decide ((v_cmp (v_dvl p0.2) (v_dvl p1.2)) > 0))=false) →((v_dgok p1.2) ∧((v_dgok p0.2) ∧((p1.2.length≤5000000000000) ∧(((v_dvl p0.2)≤(v_dvl p1.2)) ∧((v_sgn p1.1 (v_digs (Int.toNat ((v_dvl p1.2) - (v_dvl p0.2))))) ∧((v_dgok (v_digs (Int.toNat ((v_dvl p1.2) - (v_dvl p0.2))))) ∧(((List.length (v_digs (Int.toNat ((v_dvl p1.2) - (v_dvl p0.2)))))≤10000000000000) ∧(K (v_wide (p1.1 * (v_dvl (v_digs (Int.toNat ((v_dvl p1.2) - (v_dvl p0.2)))))))))))))))))))))))))))
theorem w_Zy_eq (p0:gE) (p1:gE) (K:(Int×(List Int))→Prop):tfn F_Zy A_Zy C_Zy P_Zy R_Zy (p0,p1) K = w_Zy p0 p1 K := by kernel_rfl
def s_Zy (p0:gE) (p1:gE):(Int×(List Int)) := (cond (p0.1 == 0) p1 (cond (p1.1 == 0) p0 (cond (p0.1 == p1.1) (v_wide (p0.1 * (v_dvl (s_Ze p0.2 p1.2)))) (cond ((v_cmp (v_dvl p0.2) (v_dvl p1.2)) == 0) ((0:Int),([]:List Int)) (cond (decide ((v_cmp (v_dvl p0.2) (v_dvl p1.2)) > 0)) (v_wide (p0.1 * (v_dvl (v_digs (Int.toNat ((v_dvl p0.2) - (v_dvl p1.2))))))) (v_wide (p1.1 * (v_dvl (v_digs (Int.toNat ((v_dvl p1.2) - (v_dvl p0.2))))))))))))
abbrev pre_Zy (p0:gE) (p1:gE):List Prop := [(((p0.1 == 0)=false)→(((p1.1 == 0)=false)→(((p0.1 == p1.1)=true)→(OkL (st_Ze_0 p0.2 p1.2) (sp_Ze_0 p0.2 p1.2) ((0:Int),(([]:List Int),(0:Int))))))),(((p0.1 == 0)=false)→(((p1.1 == 0)=false)→(((p0.1 == p1.1)=true)→(v_sgn p0.1 (s_Ze p0.2 p1.2))))),(((p0.1 == 0)=false)→(((p1.1 == 0)=false)→(((p0.1 == p1.1)=true)→(v_dgok (s_Ze p0.2 p1.2))))),(((p0.1 == 0)=false)→(((p1.1 == 0)=false)→(((p0.1 == p1.1)=true)→((List.length (s_Ze p0.2 p1.2))≤10000000000000)))),(((p0.1 == 0)=false)→(((p1.1 == 0)=false)→(((p0.1 == p1.1)=false)→(v_can p0.2)))),(((p0.1 == 0)=false)→(((p1.1 == 0)=false)→(((p0.1 == p1.1)=false)→(v_can p1.2)))),(((p0.1 == 0)=false)→(((p1.1 == 0)=false)→(((p0.1 == p1.1)=false)→((((v_cmp (v_dvl p0.2) (v_dvl p1.2)) == 0)=false)→(((decide ((v_cmp (v_dvl p0.2) (v_dvl p1.2)) > 0))=true)→(v_dgok p0.2)))))),(((p0.1 == 0)=false)→(((p1.1 == 0)=false)→(((p0.1 == p1.1)=false)→((((v_cmp (v_dvl p0.2) (v_dvl p1.2)) == 0)=false)→(((decide ((v_cmp (v_dvl p0.2) (v_dvl p1.2)) > 0))=true)→(v_dgok p1.2)))))),(((p0.1 == 0)=false)→(((p1.1 == 0)=false)→(((p0.1 == p1.1)=false)→((((v_cmp (v_dvl p0.2) (v_dvl p1.2)) == 0)=false)→(((decide ((v_cmp (v_dvl p0.2) (v_dvl p1.2)) > 0))=true)→(p0.2.length≤5000000000000)))))),(((p0.1 == 0)=false)→(((p1.1 == 0)=false)→(((p0.1 == p1.1)=false)→((((v_cmp (v_dvl p0.2) (v_dvl p1.2)) == 0)=false)→(((decide ((v_cmp (v_dvl p0.2) (v_dvl p1.2)) > 0))=true)→((v_dvl p1.2)≤(v_dvl p0.2))))))),(((p0.1 == 0)=false)→(((p1.1 == 0)=false)→(((p0.1 == p1.1)=false)→((((v_cmp (v_dvl p0.2) (v_dvl p1.2)) == 0)=false)→(((decide ((v_cmp (v_dvl p0.2) (v_dvl p1.2)) > 0))=true)→(v_sgn p0.1 (v_digs (Int.toNat ((v_dvl p0.2) - (v_dvl p1.2)))))))))),(((p0.1 == 0)=false)→(((p1.1 == 0)=false)→(((p0.1 == p1.1)=false)→((((v_cmp (v_dvl p0.2) (v_dvl p1.2)) == 0)=false)→(((decide ((v_cmp (v_dvl p0.2) (v_dvl p1.2)) > 0))=true)→(v_dgok (v_digs (Int.toNat ((v_dvl p0.2) - (v_dvl p1.2)))))))))),(((p0.1 == 0)=false)→(((p1.1 == 0)=false)→(((p0.1 == p1.1)=false)→((((v_cmp (v_dvl p0.2) (v_dvl p1.2)) == 0)=false)→(((decide ((v_cmp (v_dvl p0.2) (v_dvl p1.2)) > 0))=true)→((List.length (v_digs (Int.toNat ((v_dvl p0.2) - (v_dvl p1.2)))))≤10000000000000)))))),(((p0.1 == 0)=false)→(((p1.1 == 0)=false)→(((p0.1 == p1.1)=false)→((((v_cmp (v_dvl p0.2) (v_dvl p1.2)) == 0)=false)→(((decide ((v_cmp (v_dvl p0.2) (v_dvl p1.2)) > 0))=false)→(v_dgok p1.2)))))),(((p0.1 == 0)=false)→(((p1.1 == 0)=false)→(((p0.1 == p1.1)=false)→((((v_cmp (v_dvl p0.2) (v_dvl p1.2)) == 0)=false)→(((decide ((v_cmp (v_dvl p0.2) (v_dvl p1.2)) > 0))=false)→(v_dgok p0.2)))))),(((p0.1 == 0)=false)→(((p1.1 == 0)=false)→(((p0.1 == p1.1)=false)→((((v_cmp (v_dvl p0.2) (v_dvl p1.2)) == 0)=false)→(((decide ((v_cmp (v_dvl p0.2) (v_dvl p1.2)) > 0))=false)→(p1.2.length≤5000000000000)))))),(((p0.1 == 0)=false)→(((p1.1 == 0)=false)→(((p0.1 == p1.1)=false)→((((v_cmp (v_dvl p0.2) (v_dvl p1.2)) == 0)=false)→(((decide ((v_cmp (v_dvl p0.2) (v_dvl p1.2)) > 0))=false)→((v_dvl p0.2)≤(v_dvl p1.2))))))),(((p0.1 == 0)=false)→(((p1.1 == 0)=false)→(((p0.1 == p1.1)=false)→((((v_cmp (v_dvl p0.2) (v_dvl p1.2)) == 0)=false)→(((decide ((v_cmp (v_dvl p0.2) (v_dvl p1.2)) > 0))=false)→(v_sgn p1.1 (v_digs (Int.toNat ((v_dvl p1.2) - (v_dvl p0.2)))))))))),(((p0.1 == 0)=false)→(((p1.1 == 0)=false)→(((p0.1 == p1.1)=false)→((((v_cmp (v_dvl p0.2) (v_dvl p1.2)) == 0)=false)→(((decide ((v_cmp (v_dvl p0.2) (v_dvl p1.2)) > 0))=false)→(v_dgok (v_digs (Int.toNat ((v_dvl p1.2) - (v_dvl p0.2)))))))))),(((p0.1 == 0)=false)→(((p1.1 == 0)=false)→(((p0.1 == p1.1)=false)→((((v_cmp (v_dvl p0.2) (v_dvl p1.2)) == 0)=false)→(((decide ((v_cmp (v_dvl p0.2) (v_dvl p1.2)) > 0))=false)→((List.length (v_digs (Int.toNat ((v_dvl p1.2) - (v_dvl p0.2)))))≤10000000000000))))))]
theorem d_Zy (p0:gE) (p1:gE) (K:(Int×(List Int))→Prop) (hp:∀ p∈pre_Zy p0 p1,p) (h:K (s_Zy p0 p1)):w_Zy p0 p1 K := by
 unfold w_Zy
 unfold s_Zy at h
 obtain ⟨hp0,hp1,hp2,hp3,hp4,hp5,hp6,hp7,hp8,hp9,hp10,hp11,hp12,hp13,hp14,hp15,hp16,hp17,hp18,hp19,_⟩ := conj_of hp
 exact (br' h (fun e0 h => h)
  (fun e0 h => (br' h (fun e1 h => h)
  (fun e1 h => (br' h (fun e2 h => ⟨(hp0 e0 e1 e2),(hp1 e0 e1 e2),(hp2 e0 e1 e2),(hp3 e0 e1 e2),h⟩)
  (fun e2 h => ⟨(hp4 e0 e1 e2),(hp5 e0 e1 e2),(br' h (fun e3 h => h)
  (fun e3 h => (br' h (fun e4 h => ⟨(hp6 e0 e1 e2 e3 e4),(hp7 e0 e1 e2 e3 e4),(hp8 e0 e1 e2 e3 e4),(hp9 e0 e1 e2 e3 e4),(hp10 e0 e1 e2 e3 e4),(hp11 e0 e1 e2 e3 e4),(hp12 e0 e1 e2 e3 e4),h⟩)
  (fun e4 h => ⟨(hp13 e0 e1 e2 e3 e4),(hp14 e0 e1 e2 e3 e4),(hp15 e0 e1 e2 e3 e4),(hp16 e0 e1 e2 e3 e4),(hp17 e0 e1 e2 e3 e4),(hp18 e0 e1 e2 e3 e4),(hp19 e0 e1 e2 e3 e4),h⟩))))⟩))))))
abbrev t_Zy (p0:Int×List Int) (p1:Int×List Int):Int×List Int := v_wide (v_wval p0 + v_wval p1)
abbrev qre_Zy (p0:Int×List Int) (p1:Int×List Int):List Prop := [v_wok p0,v_wok p1]
theorem pp_Zy (p0:Int×List Int) (p1:Int×List Int) (hq:∀ p∈qre_Zy p0 p1,p):∀ p∈pre_Zy p0 p1,p := by
 obtain ⟨h1,h2,_⟩ := conj_of hq
 obtain ⟨m,rfl,hm⟩ := h1.ex
 obtain ⟨n,rfl,hn⟩ := h2.ex
 simp only [pre_Zy,fM,v_wide_1,v_wide_val]
 obtain ⟨a1,a2,a3,a4⟩ := l_Ze _ _ (v_wide_ok m) (v_wide_ok n) hm hn
 have c1 := v_wide_can hm
 have c2 := v_wide_can hn
 have k1 := v_wide_ok m
 have k2 := v_wide_ok n
 have dl1:(v_digs ((m.natAbs:Int) - n.natAbs).toNat).length≤10000000000000 := Nat.le_trans (v_digs_mono (n := m.natAbs) (by omega)) (Nat.le_trans hm (by decide))
 have dl2:(v_digs ((n.natAbs:Int) - m.natAbs).toNat).length≤10000000000000 := Nat.le_trans (v_digs_mono (n := n.natAbs) (by omega)) (Nat.le_trans hn (by decide))
 have sg:∀ (x:Int) (l:gF),(x.sign == 0)=false→v_sgn x.sign l := fun x l h => by
  rcases v_sign3 x with ⟨_,e,f⟩ | ⟨_,e,f⟩ | ⟨_,e,f⟩
  ·exact .inr (.inl e)
  ·rw [f] at h; cases h
  ·exact .inl e
 have cgt:∀ a b:Int,decide (v_cmp a b > 0)=true→b≤a := fun a b h => by have := v_cmp_gt.1 (of_decide_eq_true h); omega
 have clt:∀ a b:Int,decide (v_cmp a b > 0)=false→a≤b := fun a b h => by
  have h := of_decide_eq_false h
  rcases Int.lt_or_le b a with k | k
  ·exact absurd (v_cmp_gt.2 k) h
  ·exact k
 have hm5:(v_wide m).2.length≤5000000000000 := Nat.le_trans hm (by decide)
 have hn5:(v_wide n).2.length≤5000000000000 := Nat.le_trans hn (by decide)
 refine ⟨fun _ _ _ => a1,fun h _ _ => sg _ _ h,fun _ _ _ => a2,fun _ _ _ => by omega,fun _ _ _ => c1,fun _ _ _ => c2,?_⟩
 refine ⟨fun _ _ _ _ _ => k1,fun _ _ _ _ _ => k2,fun _ _ _ _ _ => hm5,fun _ _ _ _ h => cgt _ _ h,fun h _ _ _ _ => sg _ _ h,fun _ _ _ _ _ => v_digs_ok _,fun _ _ _ _ _ => dl1,?_⟩
 exact ⟨fun _ _ _ _ _ => k2,fun _ _ _ _ _ => k1,fun _ _ _ _ _ => hn5,fun _ _ _ _ h => clt _ _ h,fun _ h _ _ _ => sg _ _ h,fun _ _ _ _ _ => v_digs_ok _,fun _ _ _ _ _ => dl2,by simp⟩
theorem tt_Zy (p0:Int×List Int) (p1:Int×List Int) (hq:∀ p∈qre_Zy p0 p1,p):s_Zy p0 p1 = t_Zy p0 p1 := by
 obtain ⟨h1,h2,_⟩ := conj_of hq
 obtain ⟨m,rfl,hm⟩ := h1.ex
 obtain ⟨n,rfl,hn⟩ := h2.ex
 unfold s_Zy t_Zy
 obtain ⟨_,_,a3,_⟩ := l_Ze _ _ (v_wide_ok m) (v_wide_ok n) hm hn
 rw [v_wval_wide,v_wval_wide,a3]
 simp only [v_wide_1,v_wide_val,v_digs_val]
 rcases v_sign3 m with ⟨k1,e1,f1⟩ | ⟨k1,e1,f1⟩ | ⟨k1,e1,f1⟩ <;> rw [f1]
 ·rcases v_sign3 n with ⟨k2,e2,f2⟩ | ⟨k2,e2,f2⟩ | ⟨k2,e2,f2⟩ <;> rw [f2]
  ·rw [e1,e2]
   simp only [cond_false,beq_self_eq_true,cond_true]
   congr 1; omega
  ·subst k2; simp
  ·rw [e1,e2]
   simp only [cond_false,show ((-1:Int) == 1)=false from rfl]
   unfold v_cmp
   rcases Int.lt_trichotomy (m.natAbs:Int) n.natAbs with c | c | c
   ·rw [decide_eq_true c]
    simp only [cond_true,show ((-1:Int) == 0)=false from rfl,show decide ((-1:Int) > 0)=false from rfl,cond_false]
    congr 1; omega
   ·rw [decide_eq_false (show ¬ (m.natAbs:Int) < n.natAbs by omega),decide_eq_false (show ¬ (m.natAbs:Int) > n.natAbs by omega)]
    simp only [cond_false,beq_self_eq_true,cond_true]
    rw [show m + n = 0 by omega]
    unfold v_wide
    rw [show Int.natAbs 0 = 0 from rfl,v_digs_0]; rfl
   ·rw [decide_eq_false (show ¬ (m.natAbs:Int) < n.natAbs by omega),decide_eq_true (show (m.natAbs:Int) > n.natAbs from c)]
    simp only [cond_true,cond_false,show ((1:Int) == 0)=false from rfl,show decide ((1:Int) > 0)=true from rfl]
    congr 1; omega
 ·subst k1; simp
 ·rcases v_sign3 n with ⟨k2,e2,f2⟩ | ⟨k2,e2,f2⟩ | ⟨k2,e2,f2⟩ <;> rw [f2]
  ·rw [e1,e2]
   simp only [cond_false,show ((1:Int) == -1)=false from rfl]
   unfold v_cmp
   rcases Int.lt_trichotomy (m.natAbs:Int) n.natAbs with c | c | c
   ·rw [decide_eq_true c]
    simp only [cond_true,show ((-1:Int) == 0)=false from rfl,show decide ((-1:Int) > 0)=false from rfl,cond_false]
    congr 1; omega
   ·rw [decide_eq_false (show ¬ (m.natAbs:Int) < n.natAbs by omega),decide_eq_false (show ¬ (m.natAbs:Int) > n.natAbs by omega)]
    simp only [cond_false,beq_self_eq_true,cond_true]
    rw [show m + n = 0 by omega]
    unfold v_wide
    rw [show Int.natAbs 0 = 0 from rfl,v_digs_0]; rfl
   ·rw [decide_eq_false (show ¬ (m.natAbs:Int) < n.natAbs by omega),decide_eq_true (show (m.natAbs:Int) > n.natAbs from c)]
    simp only [cond_true,cond_false,show ((1:Int) == 0)=false from rfl,show decide ((1:Int) > 0)=true from rfl]
    congr 1; omega
  ·subst k2; simp
  ·rw [e1,e2]
   simp only [cond_false,beq_self_eq_true,cond_true]
   congr 1; omega

abbrev con_Zy:Con := ⟨P_Zy,R_Zy,fun x => qre_Zy x.1 x.2,fun x => t_Zy x.1 x.2⟩
theorem ok_Zy:ConOk Tryz.prog 73 con_Zy := okG k_Zy e_Zy hC_Zy fun x hx => tf_of (w_Zy_eq x.1 x.2 _) (d_Zy x.1 x.2 _ (pp_Zy x.1 x.2 hx) (tt_Zy x.1 x.2 hx))
def C_Z9:Cons := [(103,[],con_Zp)]
theorem hC_Z9:ConsOk Tryz.prog C_Z9 := cC ok_Zp <| ConsOk.nil
def w_Z9 (p0:gE) (p1:gE) (K:(Int×(List Int))→Prop):Prop := ((zz0≤(IntKind.i64.wrap ((IntKind.i64.wrap ((p0.2.length:Int) + (p1.2.length:Int))) + 1))) ∧((((8:Int) * (IntKind.i64.wrap ((IntKind.i64.wrap ((p0.2.length:Int) + (p1.2.length:Int))) + 1)))≤281474976710656) ∧(((IntKind.i64.wrap ((IntKind.i64.wrap ((p0.2.length:Int) + (p1.2.length:Int))) + 1))≤9223372036854775807) ∧(∃ n0,(loopP (fun (y1:gE) k2 => ((((decide (y1.1 < (p0.2.length:Int)))=true) →(∃ n3,(loopP (fun (y4:(Int×(Int×(List Int)))) k5 => ((((decide (y4.1 < (p1.2.length:Int)))=true) →((zz0≤(IntKind.i64.wrap (y1.1 + y4.1))) ∧(((IntKind.i64.wrap (y1.1 + y4.1)) < (y4.2.2.length:Int)) ∧((zz0≤y1.1) ∧((y1.1 < (p0.2.length:Int)) ∧((zz0≤y4.1) ∧((y4.1 < (p1.2.length:Int)) ∧((zz0≤(IntKind.i64.wrap (y1.1 + y4.1))) ∧(((IntKind.i64.wrap (y1.1 + y4.1)) < (y4.2.2.length:Int)) ∧(k5 ((IntKind.i64.wrap (y4.1 + 1)),((IntKind.i64.wrap (Int.tdiv (IntKind.i64.wrap ((IntKind.i64.wrap ((y4.2.2.getD (Int.toNat (IntKind.i64.wrap (y1.1 + y4.1))) zz0) + (IntKind.i64.wrap ((p0.2.getD y1.1.toNat zz0) * (p1.2.getD y4.1.toNat zz0))))) + y4.2.1)) (1000000000:Int))),(List.set y4.2.2 (Int.toNat (IntKind.i64.wrap (y1.1 + y4.1))) (Int.tmod (IntKind.i64.wrap ((IntKind.i64.wrap ((y4.2.2.getD (Int.toNat (IntKind.i64.wrap (y1.1 + y4.1))) zz0) + (IntKind.i64.wrap ((p0.2.getD y1.1.toNat zz0) * (p1.2.getD y4.1.toNat zz0))))) + y4.2.1)) (1000000000:Int))))))))))))))) ∧(((decide (y4.1 < (p1.2.length:Int)))=false) →((zz0≤(IntKind.i64.wrap (y1.1 + (p1.2.length:Int)))) ∧(((IntKind.i64.wrap (y1.1 + (p1.2.length:Int))) < (y4.2.2.length:Int)) ∧((zz0≤(IntKind.i64.wrap (y1.1 + (p1.2.length:Int)))) ∧(((IntKind.i64.wrap (y1.1 + (p1.2.length:Int))) < (y4.2.2.length:Int)) ∧(k2 ((IntKind.i64.wrap (y1.1 + 1)),(List.set y4.2.2 (Int.toNat (IntKind.i64.wrap (y1.1 + (p1.2.length:Int)))) (IntKind.i64.wrap ((y4.2.2.getD (Int.toNat (IntKind.i64.wrap (y1.1 + (p1.2.length:Int)))) zz0) + y4.2.1)))))))))))) n3 (zz0,(zz0,y1.2))))) ∧(((decide (y1.1 < (p0.2.length:Int)))=false) →((v_sgn (IntKind.i64.wrap (p0.1 * p1.1)) y1.2) ∧((v_dgok y1.2) ∧((y1.2.length≤10000000000000) ∧(K (v_wide ((IntKind.i64.wrap (p0.1 * p1.1)) * (v_dvl y1.2)))))))))) n0 (zz0,(List.replicate (Int.toNat (IntKind.i64.wrap ((IntKind.i64.wrap ((p0.2.length:Int) + (p1.2.length:Int))) + 1))) zz0)))))))
theorem w_Z9_eq (p0:gE) (p1:gE) (K:(Int×(List Int))→Prop):tfn F_Z9 A_Z9 C_Z9 P_Z9 R_Z9 (p0,p1) K = w_Z9 p0 p1 K := by kernel_rfl
def st_Z9_0 (p0:gE) (p1:gE) (y0:gE) (y2:(Int×(Int×(List Int)))):(Int×(Int×(List Int))) ⊕ ((Int×(List Int)) ⊕ (Int×(List Int))) := (cond (decide (y2.1 < (p1.2.length:Int))) (Sum.inl ((IntKind.i64.wrap (y2.1 + 1)),((IntKind.i64.wrap (Int.tdiv (IntKind.i64.wrap ((IntKind.i64.wrap ((y2.2.2.getD (Int.toNat (IntKind.i64.wrap (y0.1 + y2.1))) (0:Int)) + (IntKind.i64.wrap ((p0.2.getD y0.1.toNat (0:Int)) * (p1.2.getD y2.1.toNat (0:Int)))))) + y2.2.1)) (1000000000:Int))),(List.set y2.2.2 (Int.toNat (IntKind.i64.wrap (y0.1 + y2.1))) (Int.tmod (IntKind.i64.wrap ((IntKind.i64.wrap ((y2.2.2.getD (Int.toNat (IntKind.i64.wrap (y0.1 + y2.1))) (0:Int)) + (IntKind.i64.wrap ((p0.2.getD y0.1.toNat (0:Int)) * (p1.2.getD y2.1.toNat (0:Int)))))) + y2.2.1)) (1000000000:Int)))))) (Sum.inr (Sum.inl ((IntKind.i64.wrap (y0.1 + 1)),(List.set y2.2.2 (Int.toNat (IntKind.i64.wrap (y0.1 + (p1.2.length:Int)))) (IntKind.i64.wrap ((y2.2.2.getD (Int.toNat (IntKind.i64.wrap (y0.1 + (p1.2.length:Int)))) (0:Int)) + y2.2.1)))))))
abbrev sp_Z9_0 (p0:gE) (p1:gE) (y0:gE) (y2:(Int×(Int×(List Int)))):List Prop := [(((decide (y2.1 < (p1.2.length:Int)))=true)→((0:Int)≤(IntKind.i64.wrap (y0.1 + y2.1)))),(((decide (y2.1 < (p1.2.length:Int)))=true)→((IntKind.i64.wrap (y0.1 + y2.1)) < (y2.2.2.length:Int))),(((decide (y2.1 < (p1.2.length:Int)))=true)→((0:Int)≤y0.1)),(((decide (y2.1 < (p1.2.length:Int)))=true)→(y0.1 < (p0.2.length:Int))),(((decide (y2.1 < (p1.2.length:Int)))=true)→((0:Int)≤y2.1)),(((decide (y2.1 < (p1.2.length:Int)))=true)→(y2.1 < (p1.2.length:Int))),(((decide (y2.1 < (p1.2.length:Int)))=false)→((0:Int)≤(IntKind.i64.wrap (y0.1 + (p1.2.length:Int))))),(((decide (y2.1 < (p1.2.length:Int)))=false)→((IntKind.i64.wrap (y0.1 + (p1.2.length:Int))) < (y2.2.2.length:Int)))]
def st_Z9_1 (p0:gE) (p1:gE) (y0:gE):(Int×(List Int)) ⊕ (Int×(List Int)) := (cond (decide (y0.1 < (p0.2.length:Int))) (lpv (Sum.inr ((0:Int),[])) (st_Z9_0 p0 p1 y0) ((0:Int),((0:Int),y0.2))) (Sum.inr (v_wide ((IntKind.i64.wrap (p0.1 * p1.1)) * (v_dvl y0.2)))))
abbrev sp_Z9_1 (p0:gE) (p1:gE) (y0:gE):List Prop := [(((decide (y0.1 < (p0.2.length:Int)))=true)→(OkL (st_Z9_0 p0 p1 y0) (sp_Z9_0 p0 p1 y0) ((0:Int),((0:Int),y0.2)))),(((decide (y0.1 < (p0.2.length:Int)))=false)→(v_sgn (IntKind.i64.wrap (p0.1 * p1.1)) y0.2)),(((decide (y0.1 < (p0.2.length:Int)))=false)→(v_dgok y0.2)),(((decide (y0.1 < (p0.2.length:Int)))=false)→(y0.2.length≤10000000000000))]
def s_Z9 (p0:gE) (p1:gE):(Int×(List Int)) := (lpv ((0:Int),[]) (st_Z9_1 p0 p1) ((0:Int),(List.replicate (Int.toNat (IntKind.i64.wrap ((IntKind.i64.wrap ((p0.2.length:Int) + (p1.2.length:Int))) + 1))) (0:Int))))
abbrev pre_Z9 (p0:gE) (p1:gE):List Prop := [((0:Int)≤(IntKind.i64.wrap ((IntKind.i64.wrap ((p0.2.length:Int) + (p1.2.length:Int))) + 1))),(((8:Int) * (IntKind.i64.wrap ((IntKind.i64.wrap ((p0.2.length:Int) + (p1.2.length:Int))) + 1)))≤281474976710656),((IntKind.i64.wrap ((IntKind.i64.wrap ((p0.2.length:Int) + (p1.2.length:Int))) + 1))≤9223372036854775807),(OkL (st_Z9_1 p0 p1) (sp_Z9_1 p0 p1) ((0:Int),(List.replicate (Int.toNat (IntKind.i64.wrap ((IntKind.i64.wrap ((p0.2.length:Int) + (p1.2.length:Int))) + 1))) (0:Int))))]
theorem d_Z9 (p0:gE) (p1:gE) (K:(Int×(List Int))→Prop) (hp:∀ p∈pre_Z9 p0 p1,p) (h:K (s_Z9 p0 p1)):w_Z9 p0 p1 K := by
 unfold w_Z9
 unfold s_Z9 at h
 obtain ⟨hp0,hp1,hp2,hp3,_⟩ := conj_of hp
 exact ⟨(hp0),(hp1),(hp2),(loop_gen (hp3) h (fun y0 k0 hp h => by
 unfold st_Z9_1 at h; obtain ⟨hp0,hp1,hp2,hp3,_⟩ := conj_of hp
 exact (br' h (fun e1 h => (loop_gen (hp0 e1) h (fun y2 k2 hp h => by
 unfold st_Z9_0 at h; obtain ⟨hp0,hp1,hp2,hp3,hp4,hp5,hp6,hp7,_⟩ := conj_of hp
 exact (br' h (fun e3 h => ⟨(hp0 e3),(hp1 e3),(hp2 e3),(hp3 e3),(hp4 e3),(hp5 e3),(hp0 e3),(hp1 e3),h⟩)
  (fun e3 h => ⟨(hp6 e3),(hp7 e3),(hp6 e3),(hp7 e3),h⟩)))))
  (fun e1 h => ⟨(hp1 e1),(hp2 e1),(hp3 e1),h⟩))))⟩
theorem l_Z9_0 (p0 p1:Int×List Int) (d1:v_dgok p0.2) (d2:v_dgok p1.2) (l1:p0.2.length≤1000000000000) (l2:p1.2.length≤1000000000000) (j:Nat) (hj:j < p0.2.length) (out:gF) (ho:out.length = p0.2.length + p1.2.length + 1) (hd:v_dgok out) (hz:∀ m,j + p1.2.length≤m→out.getD m 0 = 0) :
  OkL (st_Z9_0 p0 p1 ((j:Int),out)) (sp_Z9_0 p0 p1 ((j:Int),out)) (0,0,out)∧(fun (r:(Int×List Int) ⊕ (Int×List Int)) => ∃ o2:List Int,r = .inl (((j + 1:Nat):Int),o2)∧o2.length = p0.2.length + p1.2.length + 1∧v_dgok o2∧v_dvl o2 = v_dvl out + p0.2.getD j 0 * v_pow j * v_dvl p1.2∧(∀ m,j + 1 + p1.2.length≤m→o2.getD m 0 = 0)) (lpv (.inr (0,[])) (st_Z9_0 p0 p1 ((j:Int),out)) (0,0,out)) := by
 refine @for_post (Int×List Int) (Int×Int×List Int) ((Int×List Int) ⊕ (Int×List Int)) (.inr (0,[])) (st_Z9_0 p0 p1 ((j:Int),out)) (sp_Z9_0 p0 p1 ((j:Int),out)) (fun i (t:Int×List Int) => (i,t)) 0 p1.2.length
  (fun k t => t.2.length = p0.2.length + p1.2.length + 1∧v_dgok t.2∧(0≤t.1∧t.1 < 1000000000)∧v_dvl t.2 + t.1 * v_pow (j + k)=v_dvl out + p0.2.getD j 0 * v_pow j * v_dvl (p1.2.take k)∧(∀ m,j + p1.2.length≤m→t.2.getD m 0 = 0))
  (fun r => ∃ o2:List Int,r = .inl (((j + 1:Nat):Int),o2)∧o2.length = p0.2.length + p1.2.length + 1∧v_dgok o2∧v_dvl o2 = v_dvl out + p0.2.getD j 0 * v_pow j * v_dvl p1.2∧(∀ m,j + 1 + p1.2.length≤m→o2.getD m 0 = 0)) (Nat.zero_le _) (by omega) ?_ ?_ (0,out) ⟨ho,hd,⟨Int.le_refl _,by simp only; omega⟩,?_,hz⟩
 ·rintro ⟨c,o⟩ ⟨g1,g2,g3,g4,g5⟩
  simp only at g1 g2 g3 g4 g5
  have hd:decide ((p1.2.length:Int) < p1.2.length)=false := decide_eq_false (by omega)
  have wi:IntKind.i64.wrap ((j:Int) + p1.2.length)=((j + p1.2.length:Nat):Int) := by rw [wrap_id (by omega) (by omega)]; omega
  have hz0 := g5 (j + p1.2.length) (Nat.le_refl _)
  simp only [sp_Z9_0,st_Z9_0,fM,hd,cond_false,wi,Int.toNat_natCast,hz0]
  refine ⟨by and_intros <;> first | (intro p hp; cases hp; done) | (intro h; cases h; done) | (intros; omega),_,rfl,o.set (j + p1.2.length) c,?_,by rw [List.length_set]; exact g1,v_dgok_set g2 g3,?_,fun m hm => ?_⟩
  ·rw [wrap_nat (by omega),Int.zero_add,wrap_id (n := c) (by omega) (by omega)]
  ·rw [v_val_set _ _ _ (by omega),hz0,Int.sub_zero,Int.mul_comm (v_pow _) c,g4,List.take_length]
  ·rw [gd_set (by omega),if_neg (by omega)]; exact g5 m (by omega)
 ·rintro k ⟨c,o⟩ _ hk ⟨g1,g2,g3,g4,g5⟩
  simp only at g1 g2 g3 g4 g5
  have hdd:decide ((k:Int) < p1.2.length)=true := decide_eq_true (by omega)
  have wi:IntKind.i64.wrap ((j:Int) + k)=((j + k:Nat):Int) := by rw [wrap_id (by omega) (by omega)]; omega
  obtain ⟨b1,b2,b3,b4⟩ := v_mul_small (v_dgok_get g2 (j + k)) (v_dgok_get d1 j) (v_dgok_get d2 k) g3
  have q0 := v_dgok_get g2 (j + k)
  have ws:IntKind.i64.wrap (IntKind.i64.wrap (o.getD (j + k) 0 + IntKind.i64.wrap (p0.2.getD j 0 * p1.2.getD k 0)) + c)=o.getD (j + k) 0 + p0.2.getD j 0 * p1.2.getD k 0 + c := by
   rw [w_add_r,w_add_l]; exact wrap_id (by omega) (by omega)
  simp only [sp_Z9_0,st_Z9_0,fM,hdd,cond_true,wi,Int.toNat_natCast,ws,wrap_nat (show (k:Int)≤9223372036854775806 by omega)]
  refine ⟨by and_intros <;> first | (intro p hp; cases hp; done) | (intro h; cases h; done) | (intros; omega),.inl ?_⟩
  rw [Int.tmod_eq_emod_of_nonneg b3,Int.tdiv_eq_ediv_of_nonneg b3]
  have r1 := Int.emod_nonneg (o.getD (j + k) 0 + p0.2.getD j 0 * p1.2.getD k 0 + c) (show (1000000000:Int) ≠ 0 by decide)
  have r2 := Int.emod_lt_of_pos (o.getD (j + k) 0 + p0.2.getD j 0 * p1.2.getD k 0 + c) (show (0:Int) < 1000000000 by decide)
  have r3:0≤(o.getD (j + k) 0 + p0.2.getD j 0 * p1.2.getD k 0 + c) / 1000000000 := Int.ediv_nonneg b3 (by decide)
  rw [wrap_id (n := (o.getD (j + k) 0 + p0.2.getD j 0 * p1.2.getD k 0 + c) / 1000000000) (by omega) (by omega)]
  refine ⟨(_,o.set (j + k) _),rfl,by rw [List.length_set]; exact g1,v_dgok_set g2 ⟨r1,r2⟩,⟨r3,b4⟩,?_,fun m hm => ?_⟩
  ·exact v_mul_round hk (by omega) rfl g4
  ·show (o.set (j + k) _).getD m 0 = 0
   rw [gd_set (by omega),if_neg (by omega)]; exact g5 m hm
 ·simp only [List.take_zero]
  show v_dvl out + 0 * v_pow (j + 0)=v_dvl out + p0.2.getD j 0 * v_pow j * 0
  omega
theorem l_Z9_1 (p0 p1:Int×List Int) (h1:v_wok p0) (h2:v_wok p1):OkL (st_Z9_1 p0 p1) (sp_Z9_1 p0 p1) (0,List.replicate (p0.2.length + p1.2.length + 1) 0)∧lpv (0,[]) (st_Z9_1 p0 p1) (0,List.replicate (p0.2.length + p1.2.length + 1) 0)=v_wide (v_wval p0 * v_wval p1) := by
 have l1 := h1.ln
 have l2 := h2.ln
 obtain ⟨a,ea,_⟩ := h1.ex
 obtain ⟨b,eb,_⟩ := h2.ex
 have d1:v_dgok p0.2 := by rw [ea]; exact v_wide_ok a
 have d2:v_dgok p1.2 := by rw [eb]; exact v_wide_ok b
 refine for_post (dd := (0,[])) (st := st_Z9_1 p0 p1) (sp := sp_Z9_1 p0 p1) (fun i (t:gF) => (i,t)) 0 p0.2.length
  (fun j t => t.length = p0.2.length + p1.2.length + 1∧v_dgok t∧v_dvl t = v_dvl (p0.2.take j) * v_dvl p1.2∧(∀ m,j + p1.2.length≤m→t.getD m 0 = 0)) (fun r => r = v_wide (v_wval p0 * v_wval p1)) (Nat.zero_le _) (by omega) ?_ ?_ _ ⟨by simp,?_,?_,fun m _ => gd_rep'⟩
 ·rintro o ⟨g1,g2,g3,_⟩
  have hd:decide ((p0.2.length:Int) < p0.2.length)=false := decide_eq_false (by omega)
  rw [List.take_length] at g3
  have s0:p0.1 = a.sign := by rw [ea]; rfl
  have s1:p1.1 = b.sign := by rw [eb]; rfl
  have x0:v_dvl p0.2 = a.natAbs := by rw [ea]; exact v_wide_val a
  have x1:v_dvl p1.2 = b.natAbs := by rw [eb]; exact v_wide_val b
  have hs:IntKind.i64.wrap (p0.1 * p1.1)=a.sign * b.sign := by
   rw [s0,s1]
   rcases v_sign3 a with ⟨_,e,_⟩ | ⟨_,e,_⟩ | ⟨_,e,_⟩ <;> rcases v_sign3 b with ⟨_,f,_⟩ | ⟨_,f,_⟩ | ⟨_,f,_⟩ <;> rw [e,f] <;> rfl
  simp only [sp_Z9_1,st_Z9_1,fM,hd,cond_false,hs]
  refine ⟨⟨fun h => (by cases h),fun _ => ?_,fun _ => g2,fun _ => by omega,by simp⟩,_,rfl,?_⟩
  ·rcases v_sign3 a with ⟨_,e,_⟩ | ⟨k,e,_⟩ | ⟨_,e,_⟩ <;> rcases v_sign3 b with ⟨_,f,_⟩ | ⟨k',f,_⟩ | ⟨_,f,_⟩ <;> rw [e,f]
   ·exact .inl rfl
   ·right; right; rw [g3,x1,k']; simp
   ·exact .inr (.inl rfl)
   ·right; right; rw [g3,x0,k]; simp
   ·right; right; rw [g3,x0,k]; simp
   ·right; right; rw [g3,x0,k]; simp
   ·exact .inr (.inl rfl)
   ·right; right; rw [g3,x1,k']; simp
   ·exact .inl rfl
  ·rw [g3,x0,x1]
   have := v_sign_abs a
   have := v_sign_abs b
   congr 1
   rw [show v_wval p0 = a by rw [ea,v_wval_wide],show v_wval p1 = b by rw [eb,v_wval_wide]]
   rw [Int.mul_assoc,← Int.mul_assoc b.sign,Int.mul_comm b.sign,Int.mul_assoc,← Int.mul_assoc,v_sign_abs,v_sign_abs]
 ·rintro j o _ hj ⟨g1,g2,g3,g4⟩
  obtain ⟨i1,o2,i2,i3,i4,i5,i6⟩ := l_Z9_0 p0 p1 d1 d2 l1 l2 j hj o g1 g2 g4
  have hd:decide ((j:Int) < p0.2.length)=true := decide_eq_true (by omega)
  simp only [sp_Z9_1,st_Z9_1,fM,hd,cond_true]
  refine ⟨⟨fun _ => i1,fun h => (by cases h),fun h => (by cases h),fun h => (by cases h),by simp⟩,.inl ⟨o2,i2,i3,i4,?_,i6⟩⟩
  rw [i5,g3,v_val_take_s hj,Int.add_mul,Int.mul_comm (v_pow j)]
 ·intro d hd
  rw [List.eq_of_mem_replicate hd]; exact ⟨Int.le_refl _,by decide⟩
 ·rw [v_val_zeros]
  show (0:Int)=0 * _
  rw [Int.zero_mul]
abbrev t_Z9 (p0:Int×List Int) (p1:Int×List Int):Int×List Int := v_wide (v_wval p0 * v_wval p1)
abbrev qre_Z9 (p0:Int×List Int) (p1:Int×List Int):List Prop := [v_wok p0,v_wok p1]
theorem pp_Z9 (p0:Int×List Int) (p1:Int×List Int) (hq:∀ p∈qre_Z9 p0 p1,p):∀ p∈pre_Z9 p0 p1,p := by
 obtain ⟨h1,h2,_⟩ := conj_of hq
 have l1 := h1.ln
 have l2 := h2.ln
 have e := (l_Z9_1 p0 p1 h1 h2).1
 have w:IntKind.i64.wrap (IntKind.i64.wrap ((p0.2.length:Int) + p1.2.length) + 1)=((p0.2.length + p1.2.length + 1:Nat):Int) := by rw [w_add_l,wrap_id (by omega) (by omega)]; omega
 simp only [pre_Z9,fM,w,Int.toNat_natCast]
 exact ⟨by omega,by omega,by omega,e,by simp⟩
theorem tt_Z9 (p0:Int×List Int) (p1:Int×List Int) (hq:∀ p∈qre_Z9 p0 p1,p):s_Z9 p0 p1 = t_Z9 p0 p1 := by
 obtain ⟨h1,h2,_⟩ := conj_of hq
 have l1 := h1.ln
 have l2 := h2.ln
 have w:IntKind.i64.wrap (IntKind.i64.wrap ((p0.2.length:Int) + p1.2.length) + 1)=((p0.2.length + p1.2.length + 1:Nat):Int) := by rw [w_add_l,wrap_id (by omega) (by omega)]; omega
 unfold s_Z9 t_Z9
 rw [w,Int.toNat_natCast]
 exact (l_Z9_1 p0 p1 h1 h2).2

abbrev con_Z9:Con := ⟨P_Z9,R_Z9,fun x => qre_Z9 x.1 x.2,fun x => t_Z9 x.1 x.2⟩
theorem ok_Z9:ConOk Tryz.prog 67 con_Z9 := okG k_Z9 e_Z9 hC_Z9 fun x hx => tf_of (w_Z9_eq x.1 x.2 _) (d_Z9 x.1 x.2 _ (pp_Z9 x.1 x.2 hx) (tt_Z9 x.1 x.2 hx))
def C_Zt:Cons := [(104,[],con_Zo),(73,[],con_Zy)]
theorem hC_Zt:ConsOk Tryz.prog C_Zt := cC ok_Zo <| cC ok_Zy <| ConsOk.nil
def w_Zt (p0:gE) (p1:gE) (K:(Int×(List Int))→Prop):Prop := ((v_wok p1) ∧((v_wok p0) ∧((v_wok (v_wide (-(v_wval p1)))) ∧(K (v_wide ((v_wval p0) + (v_wval (v_wide (-(v_wval p1))))))))))
theorem w_Zt_eq (p0:gE) (p1:gE) (K:(Int×(List Int))→Prop):tfn F_Zt A_Zt C_Zt P_Zt R_Zt (p0,p1) K = w_Zt p0 p1 K := by kernel_rfl
def s_Zt (p0:gE) (p1:gE):(Int×(List Int)) := (v_wide ((v_wval p0) + (v_wval (v_wide (-(v_wval p1))))))
abbrev pre_Zt (p0:gE) (p1:gE):List Prop := [(v_wok p1),(v_wok p0),(v_wok (v_wide (-(v_wval p1))))]
theorem d_Zt (p0:gE) (p1:gE) (K:(Int×(List Int))→Prop) (hp:∀ p∈pre_Zt p0 p1,p) (h:K (s_Zt p0 p1)):w_Zt p0 p1 K := by
 unfold w_Zt
 unfold s_Zt at h
 obtain ⟨hp0,hp1,hp2,_⟩ := conj_of hp
 exact ⟨(hp0),(hp1),(hp2),h⟩
abbrev t_Zt (p0:Int×List Int) (p1:Int×List Int):Int×List Int := v_wide (v_wval p0 - v_wval p1)
abbrev qre_Zt (p0:Int×List Int) (p1:Int×List Int):List Prop := [v_wok p0,v_wok p1]
theorem pp_Zt (p0:Int×List Int) (p1:Int×List Int) (hq:∀ p∈qre_Zt p0 p1,p):∀ p∈pre_Zt p0 p1,p := by
 obtain ⟨h1,h2,_⟩ := conj_of hq
 obtain ⟨n,rfl,hn⟩ := h2.ex
 simp only [pre_Zt,fM]
 exact ⟨h2,h1,by rw [v_wval_wide]; exact v_wok_of (by rw [v_dl_neg]; exact hn),by simp⟩
theorem tt_Zt (p0:Int×List Int) (p1:Int×List Int) (hq:∀ p∈qre_Zt p0 p1,p):s_Zt p0 p1 = t_Zt p0 p1 := by
 obtain ⟨h1,h2,_⟩ := conj_of hq
 unfold s_Zt t_Zt
 rw [v_wval_wide]; rfl

abbrev con_Zt:Con := ⟨P_Zt,R_Zt,fun x => qre_Zt x.1 x.2,fun x => t_Zt x.1 x.2⟩
theorem ok_Zt:ConOk Tryz.prog 122 con_Zt := okG k_Zt e_Zt hC_Zt fun x hx => tf_of (w_Zt_eq x.1 x.2 _) (d_Zt x.1 x.2 _ (pp_Zt x.1 x.2 hx) (tt_Zt x.1 x.2 hx))
def C_Z1c:Cons := []
theorem hC_Z1c:ConsOk Tryz.prog C_Z1c := ConsOk.nil
def w_Z1c (p0:Int) (K:Int→Prop):Prop := (K (max p0 (IntKind.i64.wrap (zz0 - p0))))
theorem w_Z1c_eq (p0:Int) (K:Int→Prop):tfn F_Z1c A_Z1c C_Z1c P_Z1c R_Z1c p0 K = w_Z1c p0 K := by kernel_rfl
def s_Z1c (p0:Int):Int := (max p0 (IntKind.i64.wrap ((0:Int) - p0)))
abbrev pre_Z1c (_p0:Int):List Prop := []
theorem d_Z1c (p0:Int) (K:Int→Prop) (_hp:∀ p∈pre_Z1c p0,p) (h:K (s_Z1c p0)):w_Z1c p0 K := by
 unfold w_Z1c
 unfold s_Z1c at h
 exact h
abbrev con_Z1c:Con := ⟨P_Z1c,R_Z1c,fun x => pre_Z1c x,fun x => s_Z1c x⟩
theorem ok_Z1c:ConOk Tryz.prog 102 con_Z1c := okG k_Z1c e_Z1c hC_Z1c fun x hx => tf_of (w_Z1c_eq x _) (d_Z1c x _ hx rfl)
def C_Zg:Cons := [(102,[],con_Z1c),(103,[],con_Zp)]
theorem hC_Zg:ConsOk Tryz.prog C_Zg := cC ok_Z1c <| cC ok_Zp <| ConsOk.nil
def w_Zg (p0:Int) (K:(Int×(List Int))→Prop):Prop := ((((decide (p0 < 0))=true) →(∃ n0,(loopP (fun (y1:gE) k2 => ((((y1.1 != 0)=true) →((((y1.2.length + (List.length ((s_Z1c (Int.tmod y1.1 (1000000000:Int))) :: ([]:List Int)))) * 8)≤140737488355328) ∧(k2 ((IntKind.i64.wrap (Int.tdiv y1.1 (1000000000:Int))),(y1.2 ++ ((s_Z1c (Int.tmod y1.1 (1000000000:Int))) :: ([]:List Int))))))) ∧(((y1.1 != 0)=false) →((v_sgn (-1:Int) y1.2) ∧((v_dgok y1.2) ∧((y1.2.length≤10000000000000) ∧(K (v_wide ((-1:Int) * (v_dvl y1.2)))))))))) n0 (p0,([]:List Int))))) ∧(((decide (p0 < 0))=false) →(∃ n3,(loopP (fun (y4:gE) k5 => ((((y4.1 != 0)=true) →((((y4.2.length + (List.length ((s_Z1c (Int.tmod y4.1 (1000000000:Int))) :: ([]:List Int)))) * 8)≤140737488355328) ∧(k5 ((IntKind.i64.wrap (Int.tdiv y4.1 (1000000000:Int))),(y4.2 ++ ((s_Z1c (Int.tmod y4.1 (1000000000:Int))) :: ([]:List Int))))))) ∧(((y4.1 != 0)=false) →((v_sgn zz1 y4.2) ∧((v_dgok y4.2) ∧((y4.2.length≤10000000000000) ∧(K (v_wide (zz1 * (v_dvl y4.2)))))))))) n3 (p0,([]:List Int))))))
theorem w_Zg_eq (p0:Int) (K:(Int×(List Int))→Prop):tfn F_Zg A_Zg C_Zg P_Zg R_Zg p0 K = w_Zg p0 K := by kernel_rfl
def st_Zg_0 (_p0:Int) (y1:gE):(Int×(List Int)) ⊕ (Int×(List Int)) := (cond (y1.1 != 0) (Sum.inl ((IntKind.i64.wrap (Int.tdiv y1.1 (1000000000:Int))),(y1.2 ++ ((s_Z1c (Int.tmod y1.1 (1000000000:Int))) :: ([]:List Int))))) (Sum.inr (v_wide ((-1:Int) * (v_dvl y1.2)))))
abbrev sp_Zg_0 (_p0:Int) (y1:gE):List Prop := [(((y1.1 != 0)=true)→(((y1.2.length + (List.length ((s_Z1c (Int.tmod y1.1 (1000000000:Int))) :: ([]:List Int)))) * 8)≤140737488355328)),(((y1.1 != 0)=false)→(v_sgn (-1:Int) y1.2)),(((y1.1 != 0)=false)→(v_dgok y1.2)),(((y1.1 != 0)=false)→(y1.2.length≤10000000000000))]
def st_Zg_1 (_p0:Int) (y3:gE):(Int×(List Int)) ⊕ (Int×(List Int)) := (cond (y3.1 != 0) (Sum.inl ((IntKind.i64.wrap (Int.tdiv y3.1 (1000000000:Int))),(y3.2 ++ ((s_Z1c (Int.tmod y3.1 (1000000000:Int))) :: ([]:List Int))))) (Sum.inr (v_wide ((1:Int) * (v_dvl y3.2)))))
abbrev sp_Zg_1 (_p0:Int) (y3:gE):List Prop := [(((y3.1 != 0)=true)→(((y3.2.length + (List.length ((s_Z1c (Int.tmod y3.1 (1000000000:Int))) :: ([]:List Int)))) * 8)≤140737488355328)),(((y3.1 != 0)=false)→(v_sgn (1:Int) y3.2)),(((y3.1 != 0)=false)→(v_dgok y3.2)),(((y3.1 != 0)=false)→(y3.2.length≤10000000000000))]
def s_Zg (p0:Int):(Int×(List Int)) := (cond (decide (p0 < 0)) (lpv ((0:Int),[]) (st_Zg_0 p0) (p0,([]:List Int))) (lpv ((0:Int),[]) (st_Zg_1 p0) (p0,([]:List Int))))
abbrev pre_Zg (p0:Int):List Prop := [(((decide (p0 < 0))=true)→(OkL (st_Zg_0 p0) (sp_Zg_0 p0) (p0,([]:List Int)))),(((decide (p0 < 0))=false)→(OkL (st_Zg_1 p0) (sp_Zg_1 p0) (p0,([]:List Int))))]
theorem d_Zg (p0:Int) (K:(Int×(List Int))→Prop) (hp:∀ p∈pre_Zg p0,p) (h:K (s_Zg p0)):w_Zg p0 K := by
 unfold w_Zg
 unfold s_Zg at h
 obtain ⟨hp0,hp1,_⟩ := conj_of hp
 exact (br' h (fun e0 h => (loop_gen (hp0 e0) h (fun y1 k1 hp h => by
 unfold st_Zg_0 at h; obtain ⟨hp0,hp1,hp2,hp3,_⟩ := conj_of hp
 exact (br' h (fun e2 h => ⟨(hp0 e2),h⟩)
  (fun e2 h => ⟨(hp1 e2),(hp2 e2),(hp3 e2),h⟩)))))
  (fun e0 h => (loop_gen (hp1 e0) h (fun y3 k3 hp h => by
 unfold st_Zg_1 at h; obtain ⟨hp0,hp1,hp2,hp3,_⟩ := conj_of hp
 exact (br' h (fun e4 h => ⟨(hp0 e4),h⟩)
  (fun e4 h => ⟨(hp1 e4),(hp2 e4),(hp3 e4),h⟩))))))
theorem v_size_tmod {n:Int} (h:v_fit n):s_Z1c (n.tmod 1000000000)=((n.natAbs % 1000000000:Nat):Int)∧IntKind.i64.wrap (n.tdiv 1000000000)=n.tdiv 1000000000∧(n.tdiv 1000000000).natAbs = n.natAbs / 1000000000 := by
 have h1:(n.tmod 1000000000).natAbs = n.natAbs % 1000000000 := by rw [Int.natAbs_tmod]; rfl
 have h2:(n.tdiv 1000000000).natAbs = n.natAbs / 1000000000 := by rw [Int.natAbs_tdiv]; rfl
 unfold v_fit at h
 refine ⟨?_,wrap_id (by omega) (by omega),h2⟩
 unfold s_Z1c
 rcases Int.lt_or_le (n.tmod 1000000000) 0 with c | c
 ·first
  | (rw [decide_eq_true c]; simp only [cond_true]; rw [wrap_id (by omega) (by omega)]; omega)
  | (rw [wrap_id (by omega) (by omega)]; omega)
 ·first
  | (rw [decide_eq_false (by omega)]; simp only [cond_false]; omega)
  | (rw [wrap_id (by omega) (by omega)]; omega)
theorem v_wof_loop {dd:Int×List Int} {st:Int×List Int→(Int×List Int) ⊕ (Int×List Int)} {sp:Int×List Int→List Prop} (s p0:Int) (hs:s = 1∧0≤p0 ∨ s = -1∧p0 < 0) (hf:v_fit p0)
  (hst:∀ y,st y = cond (y.1 != 0) (.inl (IntKind.i64.wrap (y.1.tdiv 1000000000),y.2 ++ [s_Z1c (y.1.tmod 1000000000)])) (.inr (v_wide (s * v_dvl y.2))))
  (hsp:∀ y,(y.1 ≠ 0→y.2.length≤2)→v_dgok y.2→y.2.length≤3→∀ p∈sp y,p):OkL st sp (p0,[])∧lpv dd st (p0,[])=v_wide p0 := by
 refine loop_is (fun (y:Int×List Int) => v_fit y.1∧v_dgok y.2∧y.2.length≤3∧(y.1.natAbs:Int) < v_pow (3 - y.2.length)∧v_dvl y.2 + v_pow y.2.length * y.1.natAbs = p0.natAbs) (fun (y:Int×List Int) => y.1.natAbs) (fun _ => v_wide p0) ?_ ⟨hf,(fun d hd => by cases hd),by simp,?_,?_⟩ (by unfold fuel; unfold v_fit at hf; simp only; omega)
 ·rintro ⟨n,l⟩ ⟨g1,g2,g3,g4,g5⟩
  simp only at g1 g2 g3 g4 g5
  have hl:n ≠ 0→l.length≤2 := fun hn => by
   rcases Nat.lt_or_ge 2 l.length with h | h
   ·rw [show 3 - l.length = 0 by omega,v_pow_0] at g4; omega
   ·exact h
  refine ⟨hsp _ hl g2 g3,?_⟩
  rw [hst]
  simp only
  rcases int0 n with ⟨z,e,_⟩ | ⟨z,e,_⟩ <;> rw [e]
  ·simp only [cond_false]
   subst z
   have e5:v_dvl l = p0.natAbs := by simpa using g5
   rw [e5]
   rcases hs with ⟨rfl,h⟩ | ⟨rfl,h⟩
   ·congr 1; omega
   ·congr 1; omega
  ·simp only [cond_true]
   have h2 := hl z
   obtain ⟨q1,q2,q3⟩ := v_size_tmod g1
   rw [q1,q2]
   have hdiv := Nat.div_add_mod n.natAbs 1000000000
   have hlt:n.natAbs / 1000000000 < n.natAbs := Nat.div_lt_self (by omega) (by decide)
   have hp:v_pow (3 - l.length)=1000000000 * v_pow (2 - l.length) := by rw [show 3 - l.length = 2 - l.length + 1 by omega,v_pow_s]
   refine ⟨⟨?_,v_dgok_snoc g2 ⟨by omega,by omega⟩,by simp; omega,?_,?_⟩,by rw [q3]; exact hlt,trivial⟩
   ·unfold v_fit at g1 ⊢; omega
   ·rw [q3,List.length_append,List.length_singleton,show 3 - (l.length + 1)=2 - l.length by omega]; omega
   ·rw [q3,v_val_snoc,List.length_append,List.length_singleton,v_pow_s,← g5]
    have:(n.natAbs:Int)=1000000000 * ((n.natAbs / 1000000000:Nat):Int) + ((n.natAbs % 1000000000:Nat):Int) := by omega
    rw [this]
    generalize ((n.natAbs / 1000000000:Nat):Int)=a
    generalize ((n.natAbs % 1000000000:Nat):Int)=b
    grind
 ·simp only [List.length_nil]
  have:v_pow (3 - 0)=1000000000000000000000000000 := by decide
  rw [this]
  unfold v_fit at hf; omega
 ·simp only [List.length_nil,v_pow_0]
  show 0 + 1 * (p0.natAbs:Int)=p0.natAbs
  omega
abbrev t_Zg (p0:Int):Int×List Int := v_wide p0
abbrev qre_Zg (p0:Int):List Prop := [v_fit p0]
theorem pp_Zg (p0:Int) (hq:∀ p∈qre_Zg p0,p):∀ p∈pre_Zg p0,p := by
 have hf := (conj_of hq).1
 simp only [pre_Zg,fM]
 refine ⟨fun h => ?_,fun h => ?_,by simp⟩
 ·exact (v_wof_loop (dd := (0,[])) (-1) p0 (.inr ⟨rfl,of_decide_eq_true h⟩) hf (fun y => rfl) (fun y h1 h2 h3 => by simp only [sp_Zg_0,fM]; exact ⟨fun h => by have := h1 (by simpa using h); simp; omega,fun _ => .inr (.inl rfl),fun _ => h2,fun _ => by omega,by simp⟩)).1
 ·have := of_decide_eq_false h
  exact (v_wof_loop (dd := (0,[])) 1 p0 (.inl ⟨rfl,by omega⟩) hf (fun y => rfl) (fun y h1 h2 h3 => by simp only [sp_Zg_1,fM]; exact ⟨fun h => by have := h1 (by simpa using h); simp; omega,fun _ => .inl rfl,fun _ => h2,fun _ => by omega,by simp⟩)).1
theorem tt_Zg (p0:Int) (hq:∀ p∈qre_Zg p0,p):s_Zg p0 = t_Zg p0 := by
 have hf := (conj_of hq).1
 unfold s_Zg t_Zg
 cases h:decide (p0 < 0)
 ·have h := of_decide_eq_false h
  have e:lpv (0,[]) (st_Zg_1 p0) (p0,[])=v_wide p0 := (v_wof_loop (dd := (0,[])) (sp := fun _ => []) 1 p0 (.inl ⟨rfl,by omega⟩) hf (fun y => rfl) (fun y _ _ _ => by simp)).2
  rw [e,cond_false]
 ·have e:lpv (0,[]) (st_Zg_0 p0) (p0,[])=v_wide p0 := (v_wof_loop (dd := (0,[])) (sp := fun _ => []) (-1) p0 (.inr ⟨rfl,of_decide_eq_true h⟩) hf (fun y => rfl) (fun y _ _ _ => by simp)).2
  rw [e,cond_true]

abbrev con_Zg:Con := ⟨P_Zg,R_Zg,fun x => qre_Zg x,fun x => t_Zg x⟩
theorem ok_Zg:ConOk Tryz.prog 66 con_Zg := okG k_Zg e_Zg hC_Zg fun x hx => tf_of (w_Zg_eq x _) (d_Zg x _ (pp_Zg x hx) (tt_Zg x hx))
def C_Z5:Cons := [(120,[],con_Zm),(103,[],con_Zp),(66,[],con_Zg),(67,[],con_Z9),(110,[],con_Zl),(111,[],con_Zf),(122,[],con_Zt)]
theorem hC_Z5:ConsOk Tryz.prog C_Z5 := cC ok_Zm <| cC ok_Zp <| cC ok_Zg <| cC ok_Z9 <| cC ok_Zl <| cC ok_Zf <| cC ok_Zt <| ConsOk.nil
abbrev q0_Z5 (p0:gE) (y1:(Int×((List Int)×(List Int)))) := (v_trim (((p0.2.getD y1.1.toNat zz0) :: ([]:List Int)) ++ y1.2.1))
def w_Z5 (p0:gE) (p1:gE) (K:(Int×(List Int))→Prop):Prop := ((((p0.1 == zz0)=true) →(K (zz0,([]:List Int)))) ∧(((p0.1 == zz0)=false) →((zz0≤(p0.2.length:Int)) ∧((((8:Int) * (p0.2.length:Int))≤281474976710656) ∧(((p0.2.length:Int)≤9223372036854775807) ∧(∃ n0,(loopP (fun (y1:(Int×((List Int)×(List Int)))) k2 => ((((decide (y1.1 ≥ zz0))=true) →((zz0≤y1.1) ∧((y1.1 < (p0.2.length:Int)) ∧(((((List.length ((p0.2.getD y1.1.toNat zz0) :: ([]:List Int))) + y1.2.1.length) * 8)≤140737488355328) ∧(((List.length (((p0.2.getD y1.1.toNat zz0) :: ([]:List Int)) ++ y1.2.1))≤10000000000000) ∧(∃ n3,(loopP (fun (y4:gG) k5 => ((((decide (y4.2 < y4.1))=true) →((v_sgn zz1 p1.2) ∧((v_dgok p1.2) ∧((p1.2.length≤10000000000000) ∧((v_fit (wi (Int.tdiv (wi ((wi (y4.2 + y4.1)) + zz1)) zz2))) ∧((v_wok (v_wide (zz1 * (v_dvl p1.2)))) ∧((v_wok (v_wide (wi (Int.tdiv (wi ((wi (y4.2 + y4.1)) + zz1)) zz2)))) ∧((v_can (v_wide ((v_wval (v_wide (zz1 * (v_dvl p1.2)))) * (v_wval (v_wide (wi (Int.tdiv (wi ((wi (y4.2 + y4.1)) + zz1)) zz2)))))).2) ∧((v_can (q0_Z5 p0 y1)) ∧((((decide ((v_cmp (v_dvl (v_wide ((v_wval (v_wide (zz1 * (v_dvl p1.2)))) * (v_wval (v_wide (wi (Int.tdiv (wi ((wi (y4.2 + y4.1)) + zz1)) zz2)))))).2) (v_dvl (q0_Z5 p0 y1)))≤zz0))=true) →(k5 (y4.1,(wi (Int.tdiv (wi ((wi (y4.2 + y4.1)) + zz1)) zz2))))) ∧(((decide ((v_cmp (v_dvl (v_wide ((v_wval (v_wide (zz1 * (v_dvl p1.2)))) * (v_wval (v_wide (wi (Int.tdiv (wi ((wi (y4.2 + y4.1)) + zz1)) zz2)))))).2) (v_dvl (q0_Z5 p0 y1)))≤zz0))=false) →(k5 ((wi ((wi (Int.tdiv (wi ((wi (y4.2 + y4.1)) + zz1)) zz2)) - zz1)),y4.2))))))))))))) ∧(((decide (y4.2 < y4.1))=false) →((zz0≤y1.1) ∧((y1.1 < (y1.2.2.length:Int)) ∧((v_sgn zz1 p1.2) ∧((v_dgok p1.2) ∧((p1.2.length≤10000000000000) ∧((v_fit y4.2) ∧((v_wok (v_wide (zz1 * (v_dvl p1.2)))) ∧((v_wok (v_wide y4.2)) ∧((v_dgok (q0_Z5 p0 y1)) ∧((v_dgok (v_wide ((v_wval (v_wide (zz1 * (v_dvl p1.2)))) * (v_wval (v_wide y4.2)))).2) ∧(((List.length (q0_Z5 p0 y1))≤5000000000000) ∧(((v_dvl (v_wide ((v_wval (v_wide (zz1 * (v_dvl p1.2)))) * (v_wval (v_wide y4.2)))).2)≤(v_dvl (q0_Z5 p0 y1))) ∧(k2 ((wi (y1.1 - zz1)),((v_digs (Int.toNat ((v_dvl (q0_Z5 p0 y1)) - (v_dvl (v_wide ((v_wval (v_wide (zz1 * (v_dvl p1.2)))) * (v_wval (v_wide y4.2)))).2)))),(List.set y1.2.2 y1.1.toNat y4.2))))))))))))))))))) n3 ((999999999:Int),zz0)))))))) ∧(((decide (y1.1 ≥ zz0))=false) →((v_sgn p0.1 y1.2.2) ∧((v_dgok y1.2.2) ∧((y1.2.2.length≤10000000000000) ∧((((decide (p0.1 < zz0))=true) →((decide (p0.1 < zz0))=(decide (p0.1 < zz0)))) ∧((((decide (p0.1 < zz0))=true) →((decide (p0.1 < zz0))=(decide (p0.1 < zz0)))) ∧(((decide (p0.1 < zz0))=(decide (p0.1 < zz0))) ∧((((cond (decide (p0.1 < zz0)) (decide ((y1.2.1.length:Int) > zz0)) false)=true) →((v_fit zz1) ∧((v_wok (v_wide (p0.1 * (v_dvl y1.2.2)))) ∧((v_wok (v_wide zz1)) ∧(K (v_wide ((v_wval (v_wide (p0.1 * (v_dvl y1.2.2)))) - (v_wval (v_wide zz1))))))))) ∧(((cond (decide (p0.1 < zz0)) (decide ((y1.2.1.length:Int) > zz0)) false)=false) →(K (v_wide (p0.1 * (v_dvl y1.2.2))))))))))))))) n0 ((wi ((p0.2.length:Int) - zz1)),(([]:List Int),(List.replicate (Int.toNat (p0.2.length:Int)) zz0))))))))))
theorem w_Z5_eq (p0:gE) (p1:gE) (K:(Int×(List Int))→Prop):tfn F_Z5 A_Z5 C_Z5 P_Z5 R_Z5 (p0,p1) K = w_Z5 p0 p1 K := by kernel_rfl
def st_Z5_0 (p0:gE) (p1:gE) (y1:(Int×((List Int)×(List Int)))) (y3:gG):(Int×Int) ⊕ ((Int×((List Int)×(List Int))) ⊕ (Int×(List Int))) := (cond (decide (y3.2 < y3.1)) (cond (decide ((v_cmp (v_dvl (v_wide ((v_wval (v_wide ((1:Int) * (v_dvl p1.2)))) * (v_wval (v_wide (IntKind.i64.wrap (Int.tdiv (IntKind.i64.wrap ((IntKind.i64.wrap (y3.2 + y3.1)) + 1)) (2:Int))))))).2) (v_dvl (v_trim (((p0.2.getD y1.1.toNat (0:Int)) :: ([]:List Int)) ++ y1.2.1))))≤0)) (Sum.inl (y3.1,(IntKind.i64.wrap (Int.tdiv (IntKind.i64.wrap ((IntKind.i64.wrap (y3.2 + y3.1)) + 1)) (2:Int))))) (Sum.inl ((IntKind.i64.wrap ((IntKind.i64.wrap (Int.tdiv (IntKind.i64.wrap ((IntKind.i64.wrap (y3.2 + y3.1)) + 1)) (2:Int))) - 1)),y3.2))) (Sum.inr (Sum.inl ((IntKind.i64.wrap (y1.1 - 1)),((v_digs (Int.toNat ((v_dvl (v_trim (((p0.2.getD y1.1.toNat (0:Int)) :: ([]:List Int)) ++ y1.2.1))) - (v_dvl (v_wide ((v_wval (v_wide ((1:Int) * (v_dvl p1.2)))) * (v_wval (v_wide y3.2)))).2)))),(List.set y1.2.2 y1.1.toNat y3.2))))))
abbrev sp_Z5_0 (p0:gE) (p1:gE) (y1:(Int×((List Int)×(List Int)))) (y3:gG):List Prop := [(((decide (y3.2 < y3.1))=true)→(v_sgn (1:Int) p1.2)),(((decide (y3.2 < y3.1))=true)→(v_dgok p1.2)),(((decide (y3.2 < y3.1))=true)→(p1.2.length≤10000000000000)),(((decide (y3.2 < y3.1))=true)→(v_fit (IntKind.i64.wrap (Int.tdiv (IntKind.i64.wrap ((IntKind.i64.wrap (y3.2 + y3.1)) + 1)) (2:Int))))),(((decide (y3.2 < y3.1))=true)→(v_wok (v_wide ((1:Int) * (v_dvl p1.2))))),(((decide (y3.2 < y3.1))=true)→(v_wok (v_wide (IntKind.i64.wrap (Int.tdiv (IntKind.i64.wrap ((IntKind.i64.wrap (y3.2 + y3.1)) + 1)) (2:Int)))))),(((decide (y3.2 < y3.1))=true)→(v_can (v_wide ((v_wval (v_wide ((1:Int) * (v_dvl p1.2)))) * (v_wval (v_wide (IntKind.i64.wrap (Int.tdiv (IntKind.i64.wrap ((IntKind.i64.wrap (y3.2 + y3.1)) + 1)) (2:Int))))))).2)),(((decide (y3.2 < y3.1))=true)→(v_can (v_trim (((p0.2.getD y1.1.toNat (0:Int)) :: ([]:List Int)) ++ y1.2.1)))),(((decide (y3.2 < y3.1))=false)→((0:Int)≤y1.1)),(((decide (y3.2 < y3.1))=false)→(y1.1 < (y1.2.2.length:Int))),(((decide (y3.2 < y3.1))=false)→(v_sgn (1:Int) p1.2)),(((decide (y3.2 < y3.1))=false)→(v_dgok p1.2)),(((decide (y3.2 < y3.1))=false)→(p1.2.length≤10000000000000)),(((decide (y3.2 < y3.1))=false)→(v_fit y3.2)),(((decide (y3.2 < y3.1))=false)→(v_wok (v_wide ((1:Int) * (v_dvl p1.2))))),(((decide (y3.2 < y3.1))=false)→(v_wok (v_wide y3.2))),(((decide (y3.2 < y3.1))=false)→(v_dgok (v_trim (((p0.2.getD y1.1.toNat (0:Int)) :: ([]:List Int)) ++ y1.2.1)))),(((decide (y3.2 < y3.1))=false)→(v_dgok (v_wide ((v_wval (v_wide ((1:Int) * (v_dvl p1.2)))) * (v_wval (v_wide y3.2)))).2)),(((decide (y3.2 < y3.1))=false)→((List.length (v_trim (((p0.2.getD y1.1.toNat (0:Int)) :: ([]:List Int)) ++ y1.2.1)))≤5000000000000)),(((decide (y3.2 < y3.1))=false)→((v_dvl (v_wide ((v_wval (v_wide ((1:Int) * (v_dvl p1.2)))) * (v_wval (v_wide y3.2)))).2)≤(v_dvl (v_trim (((p0.2.getD y1.1.toNat (0:Int)) :: ([]:List Int)) ++ y1.2.1)))))]
def st_Z5_1 (p0:gE) (p1:gE) (y1:(Int×((List Int)×(List Int)))):(Int×((List Int)×(List Int))) ⊕ (Int×(List Int)) := (cond (decide (y1.1 ≥ 0)) (lpv (Sum.inr ((0:Int),[])) (st_Z5_0 p0 p1 y1) ((999999999:Int),(0:Int))) (cond (cond (decide (p0.1 < 0)) (decide ((y1.2.1.length:Int) > 0)) false) (Sum.inr (v_wide ((v_wval (v_wide (p0.1 * (v_dvl y1.2.2)))) - (v_wval (v_wide (1:Int)))))) (Sum.inr (v_wide (p0.1 * (v_dvl y1.2.2))))))
abbrev sp_Z5_1 (p0:gE) (p1:gE) (y1:(Int×((List Int)×(List Int)))):List Prop := [(((decide (y1.1 ≥ 0))=true)→((0:Int)≤y1.1)),(((decide (y1.1 ≥ 0))=true)→(y1.1 < (p0.2.length:Int))),(((decide (y1.1 ≥ 0))=true)→((((List.length ((p0.2.getD y1.1.toNat (0:Int)) :: ([]:List Int))) + y1.2.1.length) * 8)≤140737488355328)),(((decide (y1.1 ≥ 0))=true)→((List.length (((p0.2.getD y1.1.toNat (0:Int)) :: ([]:List Int)) ++ y1.2.1))≤10000000000000)),(((decide (y1.1 ≥ 0))=true)→(OkL (st_Z5_0 p0 p1 y1) (sp_Z5_0 p0 p1 y1) ((999999999:Int),(0:Int)))),(((decide (y1.1 ≥ 0))=false)→(v_sgn p0.1 y1.2.2)),(((decide (y1.1 ≥ 0))=false)→(v_dgok y1.2.2)),(((decide (y1.1 ≥ 0))=false)→(y1.2.2.length≤10000000000000)),(((decide (y1.1 ≥ 0))=false)→(((cond (decide (p0.1 < 0)) (decide ((y1.2.1.length:Int) > 0)) false)=true)→(v_fit (1:Int)))),(((decide (y1.1 ≥ 0))=false)→(((cond (decide (p0.1 < 0)) (decide ((y1.2.1.length:Int) > 0)) false)=true)→(v_wok (v_wide (p0.1 * (v_dvl y1.2.2)))))),(((decide (y1.1 ≥ 0))=false)→(((cond (decide (p0.1 < 0)) (decide ((y1.2.1.length:Int) > 0)) false)=true)→(v_wok (v_wide (1:Int)))))]
def s_Z5 (p0:gE) (p1:gE):(Int×(List Int)) := (cond (p0.1 == 0) ((0:Int),([]:List Int)) (lpv ((0:Int),[]) (st_Z5_1 p0 p1) ((IntKind.i64.wrap ((p0.2.length:Int) - 1)),(([]:List Int),(List.replicate (Int.toNat (p0.2.length:Int)) (0:Int))))))
abbrev pre_Z5 (p0:gE) (p1:gE):List Prop := [(((p0.1 == 0)=false)→((0:Int)≤(p0.2.length:Int))),(((p0.1 == 0)=false)→(((8:Int) * (p0.2.length:Int))≤281474976710656)),(((p0.1 == 0)=false)→((p0.2.length:Int)≤9223372036854775807)),(((p0.1 == 0)=false)→(OkL (st_Z5_1 p0 p1) (sp_Z5_1 p0 p1) ((IntKind.i64.wrap ((p0.2.length:Int) - 1)),(([]:List Int),(List.replicate (Int.toNat (p0.2.length:Int)) (0:Int))))))]
theorem d_Z5 (p0:gE) (p1:gE) (K:(Int×(List Int))→Prop) (hp:∀ p∈pre_Z5 p0 p1,p) (h:K (s_Z5 p0 p1)):w_Z5 p0 p1 K := by
 unfold w_Z5
 unfold s_Z5 at h
 obtain ⟨hp0,hp1,hp2,hp3,_⟩ := conj_of hp
 exact (br' h (fun e0 h => h)
  (fun e0 h => ⟨(hp0 e0),(hp1 e0),(hp2 e0),(loop_gen (hp3 e0) h (fun y1 k1 hp h => by
 unfold st_Z5_1 at h; obtain ⟨hp0,hp1,hp2,hp3,hp4,hp5,hp6,hp7,hp8,hp9,hp10,_⟩ := conj_of hp
 exact (br' h (fun e2 h => ⟨(hp0 e2),(hp1 e2),(hp2 e2),(hp3 e2),(loop_gen (hp4 e2) h (fun y3 k3 hp h => by
 unfold st_Z5_0 at h; obtain ⟨hp0,hp1,hp2,hp3,hp4,hp5,hp6,hp7,hp8,hp9,hp10,hp11,hp12,hp13,hp14,hp15,hp16,hp17,hp18,hp19,_⟩ := conj_of hp
 exact (br' h (fun e4 h => ⟨(hp0 e4),(hp1 e4),(hp2 e4),(hp3 e4),(hp4 e4),(hp5 e4),(hp6 e4),(hp7 e4),(br' h (fun e5 h => h)
  (fun e5 h => h))⟩)
  (fun e4 h => ⟨(hp8 e4),(hp9 e4),(hp10 e4),(hp11 e4),(hp12 e4),(hp13 e4),(hp14 e4),(hp15 e4),(hp16 e4),(hp17 e4),(hp18 e4),(hp19 e4),h⟩))))⟩)
  (fun e2 h => ⟨(hp5 e2),(hp6 e2),(hp7 e2),rf,rf,rfl,(br' h (fun e6 h => ⟨(hp8 e2 e6),(hp9 e2 e6),(hp10 e2 e6),h⟩)
  (fun e6 h => h))⟩))))⟩))
theorem l_Z5_0 (p0 p1:Int×List Int) {b:Int} (hb:0 < b) (eb:p1.2 = (v_wide b).2) (lb:v_dl b≤500000000000) (d0:v_dgok p0.2) (j:Nat) (hj:j < p0.2.length) (hl:p0.2.length≤1000000000000) (L:Int) (hL:0≤L∧L < b) (q:gF) (hq:q.length = p0.2.length) :
  OkL (st_Z5_0 p0 p1 ((j:Int),(v_digs L.toNat,q))) (sp_Z5_0 p0 p1 ((j:Int),(v_digs L.toNat,q))) (999999999,0)∧lpv (.inr (0,[])) (st_Z5_0 p0 p1 ((j:Int),(v_digs L.toNat,q))) (999999999,0) = .inl ((j:Int) - 1,(v_digs ((p0.2.getD j 0 + 1000000000 * L) % b).toNat,q.set j ((p0.2.getD j 0 + 1000000000 * L) / b))) := by
 have hd := v_dgok_get d0 j
 obtain ⟨R,hR⟩ : ∃ R,R = p0.2.getD j 0 + 1000000000 * L := ⟨_,rfl⟩
 have hR0:0≤R := by omega
 have gd:v_dgok (p0.2.getD j 0 :: v_digs L.toNat) := fun x hx => by
  rcases List.mem_cons.1 hx with rfl | hx
  ·exact hd
  ·exact v_digs_ok _ x hx
 have hv:v_dvl (p0.2.getD j 0 :: v_digs L.toNat)=R := by
  show p0.2.getD j 0 + 1000000000 * v_dvl (v_digs L.toNat)=R
  rw [v_digs_val,hR]; omega
 have hT:v_trim ([p0.2.getD j 0] ++ v_digs L.toNat)=v_digs R.toNat := by
  rw [List.singleton_append,v_trim_is gd,hv]
 have hTv:v_dvl (v_digs R.toNat)=R := by rw [v_digs_val]; omega
 have hRb:R < 1000000000 * b := by omega
 have dR:(v_digs R.toNat).length≤500000000001 := by
  have h1:(v_digs R.toNat).length = v_dl R := by unfold v_dl; congr 2; omega
  have h2 := v_dl_mono (m := R) (n := 1000000000 * b) (by omega)
  have h3 := v_dl_mul 999999999 b
  have h4:v_dl 1000000000≤2 := v_digs_len (by decide)
  have h5 := v_dl_mono (m := R) (n := 999999999 * b + b) (by omega)
  have h6 := v_dl_mul 1000000000 b
  rw [h1]
  have h7:v_dl R≤v_dl b + 1 := by
   refine v_digs_len ?_
   have h8 := v_digs_high b.natAbs
   unfold v_dl
   rw [v_pow_s]; omega
  omega
 have hbv:v_dvl p1.2 = b := by rw [eb,v_wide_val]; omega
 have hbl:p1.2.length≤500000000000 := by rw [eb]; exact lb
 have hbg:v_dgok p1.2 := by rw [eb]; exact v_wide_ok b
 have e1 := Int.mul_ediv_add_emod R b
 have r1 := Int.emod_nonneg R (show b ≠ 0 by omega)
 have r2 := Int.emod_lt_of_pos R hb
 have hq1:R / b < 1000000000 := Int.ediv_lt_of_lt_mul hb (by omega)
 have hq0:0≤R / b := Int.ediv_nonneg hR0 (by omega)
 have wb:v_wok (v_wide b) := v_wok_of (by omega)
 have dm:∀ m:Int,0≤m∧m≤999999999→v_dl m≤1 := fun m hm => v_digs_len (by rw [v_pow_s,v_pow_0]; omega)
 have wm:∀ m:Int,0≤m∧m≤999999999→v_wok (v_wide m) := fun m hm => v_wok_of (by have := dm m hm; omega)
 have hval:∀ m:Int,0≤m∧m≤999999999→v_dvl (v_wide (b * m)).2 = b * m := fun m hm => by
  rw [v_wide_val]; have := Int.mul_nonneg (show 0≤b by omega) hm.1; omega
 have hcan:∀ m:Int,0≤m∧m≤999999999→v_can (v_wide (b * m)).2 := fun m hm => v_wide_can (by have := dm m hm; have := v_dl_mul b m; omega)
 have hcR:v_can (v_digs R.toNat) := ⟨by rw [hTv],by omega⟩
 rw [← hR]
 refine @loop_is (Int×Int) ((Int×(List Int×List Int)) ⊕ (Int×List Int)) (.inr (0,[])) (st_Z5_0 p0 p1 ((j:Int),(v_digs L.toNat,q))) (sp_Z5_0 p0 p1 ((j:Int),(v_digs L.toNat,q))) (fun (y:gG) => (0≤y.2∧y.2≤R / b)∧R / b≤y.1∧y.1≤999999999) (fun (y:gG) => (y.1 - y.2).toNat) (fun _ => .inl ((j:Int) - 1,(v_digs (R % b).toNat,q.set j (R / b)))) ?_ (999999999,0) ⟨⟨Int.le_refl _,hq0⟩,by simp only; omega,Int.le_refl _⟩ (by unfold fuel; simp only; omega)
 rintro ⟨hi,lo⟩ ⟨⟨g1,g2⟩,g3,g4⟩
 simp only at g1 g2 g3 g4
 have hw1:IntKind.i64.wrap (Int.tdiv (IntKind.i64.wrap (IntKind.i64.wrap (lo + hi) + 1)) 2)=(lo + hi + 1) / 2 := by
  rw [w_add_l,wrap_id (n := lo + hi + 1) (by omega) (by omega),Int.tdiv_eq_ediv_of_nonneg (by omega),wrap_id (by omega) (by omega)]
 simp only [sp_Z5_0,st_Z5_0,hw1,Int.toNat_natCast,hT,hTv,hbv,Int.one_mul,v_wval_wide,fM]
 rcases Int.lt_or_le lo hi with c | c
 ·have hm:0≤(lo + hi + 1) / 2∧(lo + hi + 1) / 2≤999999999 := by omega
  rw [decide_eq_true c,hval _ hm]
  have h1 := hcan _ hm
  have h2 := wm _ hm
  have h3:v_fit ((lo + hi + 1) / 2) := by unfold v_fit; omega
  refine ⟨⟨fun _ => .inl rfl,fun _ => hbg,fun _ => by omega,fun _ => h3,fun _ => wb,fun _ => h2,fun _ => h1,fun _ => hcR,?_⟩,?_⟩
  ·and_intros <;> first | (intro p hp; cases hp; done) | (intro h; cases h; done)
  rw [cond_true]
  rcases Int.lt_or_le R (b * ((lo + hi + 1) / 2)) with k | k
  ·rw [decide_eq_false (by have := v_cmp_gt (a := b * ((lo + hi + 1) / 2)) (b := R); omega),cond_false,wrap_id (n := (lo + hi + 1) / 2 - 1) (by omega) (by omega)]
   have:R / b < (lo + hi + 1) / 2 := Int.ediv_lt_of_lt_mul hb (by rw [Int.mul_comm]; exact k)
   exact ⟨⟨⟨g1,g2⟩,by simp only; omega,by simp only; omega⟩,by simp only; omega,trivial⟩
  ·rw [decide_eq_true (by have := v_cmp_gt (a := b * ((lo + hi + 1) / 2)) (b := R); omega),cond_true]
   have:(lo + hi + 1) / 2≤R / b := Int.le_ediv_of_mul_le hb (by rw [Int.mul_comm]; exact k)
   exact ⟨⟨⟨by simp only; omega,this⟩,g3,g4⟩,by simp only; omega,trivial⟩
 ·have hlo:lo = R / b := by omega
  have hm:0≤lo∧lo≤999999999 := by omega
  rw [decide_eq_false (by omega),hval _ hm]
  have h2 := wm _ hm
  have h3:v_fit lo := by unfold v_fit; omega
  have h4:v_dgok (v_wide (b * lo)).2 := v_wide_ok _
  refine ⟨?_,?_⟩
  ·refine ⟨fun h => (by cases h),fun h => (by cases h),fun h => (by cases h),fun h => (by cases h),fun h => (by cases h),fun h => (by cases h),fun h => (by cases h),fun h => (by cases h),fun _ => by omega,fun _ => by omega,fun _ => .inl rfl,fun _ => hbg,fun _ => by omega,fun _ => h3,fun _ => wb,fun _ => h2,fun _ => v_digs_ok _,fun _ => h4,fun _ => by omega,fun _ => by rw [hlo]; omega,by simp⟩
  ·rw [cond_false,wrap_id (n := (j:Int) - 1) (by omega) (by omega),hlo]
   simp only
   congr 4
   omega
theorem v_neg_ediv {n b:Int} (hb:0 < b):(-n) / b = cond (decide (n % b = 0)) (-(n / b)) (-(n / b) - 1) := by
 have e := Int.mul_ediv_add_emod n b
 have r1 := Int.emod_nonneg n (show b ≠ 0 by omega)
 have r2 := Int.emod_lt_of_pos n hb
 rcases Decidable.em (n % b = 0) with h | h
 ·rw [decide_eq_true h,cond_true]
  exact ediv_is (r := 0) hb (by rw [Int.mul_neg]; omega) (Int.le_refl _) hb
 ·rw [decide_eq_false h,cond_false]
  exact ediv_is (r := b - n % b) hb (by rw [Int.mul_sub,Int.mul_neg]; omega) (by omega) (by omega)
theorem l_Z5_1 (p0 p1:Int×List Int) (h1:v_wok p0) (h2:v_wok p1) (h3:0 < v_wval p1) (h4:p1.2.length≤500000000000):OkL (st_Z5_1 p0 p1) (sp_Z5_1 p0 p1) (IntKind.i64.wrap ((p0.2.length:Int) - 1),([],List.replicate p0.2.length 0))∧lpv (0,[]) (st_Z5_1 p0 p1) (IntKind.i64.wrap ((p0.2.length:Int) - 1),([],List.replicate p0.2.length 0))=v_wide (v_wval p0 / v_wval p1) := by
 have l1 := h1.ln
 obtain ⟨a,ea,da⟩ := h1.ex
 obtain ⟨b,eb,_⟩ := h2.ex
 have eb2:p1.2 = (v_wide b).2 := by rw [eb]
 have db:v_dl b≤500000000000 := by rw [eb2] at h4; exact h4
 have wb:v_wval p1 = b := by rw [eb,v_wval_wide]
 have wa:v_wval p0 = a := by rw [ea,v_wval_wide]
 rw [wb] at h3
 rw [wa,wb]
 have d1:v_dgok p0.2 := by rw [ea]; exact v_wide_ok a
 have va:v_dvl p0.2 = a.natAbs := by rw [ea]; exact v_wide_val a
 have s0:p0.1 = a.sign := by rw [ea]; rfl
 rw [wrap_id (n := (p0.2.length:Int) - 1) (by omega) (by omega)]
 refine @down_is (List Int×List Int) (Int×List Int×List Int) (Int×List Int) (0,[]) (st_Z5_1 p0 p1) (sp_Z5_1 p0 p1) (fun i t => (i,t)) p0.2.length
  (fun j t => t.1 = v_digs (v_dvl (p0.2.drop j) % b).toNat∧t.2.length = p0.2.length∧v_dgok t.2∧v_dvl (t.2.drop j)=v_dvl (p0.2.drop j) / b) (fun _ _ => v_wide (a / b)) (by omega) ?_ ?_ ([],List.replicate p0.2.length 0) ⟨?_,by simp,?_,?_⟩
 ·rintro ⟨left,q⟩ ⟨g1,g2,g3,g4⟩
  simp only [List.drop_zero] at g1 g2 g3 g4
  rw [va] at g1 g4
  have q0:0≤(a.natAbs:Int) / b := Int.ediv_nonneg (by omega) (by omega)
  have r1 := Int.emod_nonneg (a.natAbs:Int) (show b ≠ 0 by omega)
  have qle:(a.natAbs:Int) / b≤a.natAbs := Int.ediv_le_self _ (by omega)
  have hs:v_sgn a.sign q := by
   rcases v_sign3 a with ⟨_,e,_⟩ | ⟨z,e,_⟩ | ⟨_,e,_⟩ <;> rw [e]
   ·exact .inr (.inl rfl)
   ·right; right; rw [g4,z]; simp
   ·exact .inl rfl
  have wq:v_wok (v_wide (a.sign * v_dvl q)) := v_wok_of (Nat.le_trans (v_dl_mono (n := a) (by
   rw [g4]
   rcases v_sign3 a with ⟨_,e,_⟩ | ⟨z,e,_⟩ | ⟨_,e,_⟩ <;> rw [e] <;> omega)) da)
  have w1:v_wok (v_wide 1) := v_wok_of (Nat.le_trans (v_digs_len (k := 1) (by decide)) (by decide))
  simp only [sp_Z5_1,st_Z5_1,fM,show decide ((-1:Int) ≥ 0)=false from rfl,cond_false,s0,v_wval_wide]
  refine ⟨⟨fun h => (by cases h),fun h => (by cases h),fun h => (by cases h),fun h => (by cases h),fun h => (by cases h),fun _ => hs,fun _ => g3,fun _ => by omega,fun _ _ => by unfold v_fit; omega,fun _ _ => wq,fun _ _ => w1,by simp⟩,?_⟩
  rw [g4]
  rcases v_sign3 a with ⟨ha,e,_⟩ | ⟨z,e,_⟩ | ⟨ha,e,_⟩ <;> rw [e]
  ·have en:a = -(a.natAbs:Int) := by omega
   have hn := v_neg_ediv (n := (a.natAbs:Int)) h3
   rw [← en] at hn
   rw [hn,show decide ((-1:Int) < 0)=true from rfl,cond_true]
   rcases Decidable.em ((a.natAbs:Int) % b = 0) with k | k
   ·rw [decide_eq_true k,g1,k,show (0:Int).toNat = 0 from rfl,v_digs_0]
    show Sum.inr _ = Sum.inr _
    congr 2
    rw [cond_true]; omega
   ·have hpos:(left.length:Int) > 0 := by rw [g1,v_digs_pos (by omega),List.length_cons]; omega
    rw [decide_eq_false k,decide_eq_true hpos,cond_true,cond_false]
    congr 2; omega
  ·rw [z]; simp
  ·rw [show decide ((1:Int) < 0)=false from rfl,cond_false,cond_false,Int.one_mul]
   congr 3; omega
 ·rintro j ⟨left,q⟩ hj ⟨g1,g2,g3,g4⟩
  simp only at g1 g2 g3 g4
  have nA := v_val_nn (v_dgok_drop d1 (j + 1))
  have rA := Int.emod_nonneg (v_dvl (p0.2.drop (j + 1))) (show b ≠ 0 by omega)
  have rB := Int.emod_lt_of_pos (v_dvl (p0.2.drop (j + 1))) h3
  obtain ⟨i1,i2⟩ := l_Z5_0 p0 p1 h3 eb2 db d1 j hj l1 (v_dvl (p0.2.drop (j + 1)) % b) ⟨rA,rB⟩ q g2
  have hd:decide ((j:Int) ≥ 0)=true := decide_eq_true (by omega)
  have hlen:left.length≤1000000000000 := by
   rw [g1]
   have := v_dl_mono (m := v_dvl (p0.2.drop (j + 1)) % b) (n := b) (by omega)
   have e:(v_digs (v_dvl (p0.2.drop (j + 1)) % b).toNat).length = v_dl (v_dvl (p0.2.drop (j + 1)) % b) := by unfold v_dl; congr 2; omega
   omega
  subst g1
  simp only [sp_Z5_1,st_Z5_1,fM,hd,cond_true]
  refine ⟨⟨fun _ => by omega,fun _ => by omega,fun _ => by simp; omega,fun _ => by simp; omega,fun _ => i1,fun h => (by cases h),fun h => (by cases h),fun h => (by cases h),fun h => (by cases h),fun h => (by cases h),fun h => (by cases h),by simp⟩,.inl ⟨_,i2,?_,trivial⟩⟩
  have hA:v_dvl (p0.2.drop j)=p0.2.getD j 0 + 1000000000 * v_dvl (p0.2.drop (j + 1)) := by rw [drop_getD 0 hj]; rfl
  have eA := Int.mul_ediv_add_emod (v_dvl (p0.2.drop (j + 1))) b
  have hA2:v_dvl (p0.2.drop j)=(p0.2.getD j 0 + 1000000000 * (v_dvl (p0.2.drop (j + 1)) % b)) + b * (1000000000 * (v_dvl (p0.2.drop (j + 1)) / b)) := by
   rw [hA]
   generalize v_dvl (p0.2.drop (j + 1)) / b = Q at *
   generalize v_dvl (p0.2.drop (j + 1)) % b = L at *
   rw [← eA]; grind
  have hdg := v_dgok_get d1 j
  have hR0:0≤(p0.2.getD j 0 + 1000000000 * (v_dvl (p0.2.drop (j + 1)) % b)) / b := Int.ediv_nonneg (by omega) (by omega)
  have hR1:(p0.2.getD j 0 + 1000000000 * (v_dvl (p0.2.drop (j + 1)) % b)) / b < 1000000000 := Int.ediv_lt_of_lt_mul h3 (by omega)
  refine ⟨?_,by rw [List.length_set]; exact g2,v_dgok_set g3 ⟨hR0,hR1⟩,?_⟩
  ·show v_digs _ = _
   rw [hA2,Int.add_mul_emod_self_left]
  ·have ed:(q.set j ((p0.2.getD j 0 + 1000000000 * (v_dvl (p0.2.drop (j + 1)) % b)) / b)).drop j = (p0.2.getD j 0 + 1000000000 * (v_dvl (p0.2.drop (j + 1)) % b)) / b :: q.drop (j + 1) := by
    rw [drop_getD 0 (by rw [List.length_set]; omega),gd_set (by omega),if_pos rfl]
    congr 1
    rw [List.drop_set]
    simp
   show v_dvl ((q.set j _).drop j)=_
   rw [ed]
   show (p0.2.getD j 0 + 1000000000 * (v_dvl (p0.2.drop (j + 1)) % b)) / b + 1000000000 * v_dvl (q.drop (j + 1))=_
   rw [g4,hA2,Int.add_mul_ediv_left _ _ (by omega)]
 ·rw [List.drop_length]
  have e:v_dvl ([]:List Int)=0 := rfl
  rw [e,Int.zero_emod]
  show []=v_digs 0
  rw [v_digs_0]
 ·intro d hd
  rw [List.eq_of_mem_replicate hd]; exact ⟨Int.le_refl _,by decide⟩
 ·rw [List.drop_length,show List.drop p0.2.length (List.replicate p0.2.length (0:Int))=[] from by rw [List.drop_replicate,Nat.sub_self]; rfl]
  show (0:Int)=0 / b
  rw [Int.zero_ediv]
abbrev t_Z5 (p0:Int×List Int) (p1:Int×List Int):Int×List Int := v_wide (v_wval p0 / v_wval p1)
abbrev qre_Z5 (p0:Int×List Int) (p1:Int×List Int):List Prop := [v_wok p0,v_wok p1,0 < v_wval p1,p1.2.length≤500000000000]
theorem pp_Z5 (p0:Int×List Int) (p1:Int×List Int) (hq:∀ p∈qre_Z5 p0 p1,p):∀ p∈pre_Z5 p0 p1,p := by
 obtain ⟨h1,h2,h3,h4,_⟩ := conj_of hq
 have l1 := h1.ln
 simp only [pre_Z5,fM,Int.toNat_natCast]
 exact ⟨fun _ => by omega,fun _ => by omega,fun _ => by omega,fun _ => (l_Z5_1 p0 p1 h1 h2 h3 h4).1,by simp⟩
theorem tt_Z5 (p0:Int×List Int) (p1:Int×List Int) (hq:∀ p∈qre_Z5 p0 p1,p):s_Z5 p0 p1 = t_Z5 p0 p1 := by
 obtain ⟨h1,h2,h3,h4,_⟩ := conj_of hq
 have l1 := h1.ln
 have e := (l_Z5_1 p0 p1 h1 h2 h3 h4).2
 unfold s_Z5 t_Z5
 rw [Int.toNat_natCast,e]
 obtain ⟨a,rfl,_⟩ := h1.ex
 rw [v_wval_wide,v_wide_1]
 rcases v_sign3 a with ⟨_,_,f⟩ | ⟨z,_,f⟩ | ⟨_,_,f⟩ <;> rw [f]
 ·rfl
 ·subst z
  rw [cond_true,Int.zero_ediv]
  unfold v_wide
  rw [show Int.natAbs 0 = 0 from rfl,v_digs_0]; rfl
 ·rfl

abbrev con_Z5:Con := ⟨P_Z5,R_Z5,fun x => qre_Z5 x.1 x.2,fun x => t_Z5 x.1 x.2⟩
theorem ok_Z5:ConOk Tryz.prog 107 con_Z5 := okG k_Z5 e_Z5 hC_Z5 fun x hx => tf_of (w_Z5_eq x.1 x.2 _) (d_Z5 x.1 x.2 _ (pp_Z5 x.1 x.2 hx) (tt_Z5 x.1 x.2 hx))
def C_Z1a:Cons := [(104,[],con_Zo)]
theorem hC_Z1a:ConsOk Tryz.prog C_Z1a := cC ok_Zo <| ConsOk.nil
def w_Z1a (p0:gE) (K:(Int×(List Int))→Prop):Prop := ((((decide (p0.1 < 0))=true) →((v_wok p0) ∧(K (v_wide (-(v_wval p0)))))) ∧(((decide (p0.1 < 0))=false) →(K p0)))
theorem w_Z1a_eq (p0:gE) (K:(Int×(List Int))→Prop):tfn F_Z1a A_Z1a C_Z1a P_Z1a R_Z1a p0 K = w_Z1a p0 K := by kernel_rfl
def s_Z1a (p0:gE):(Int×(List Int)) := (cond (decide (p0.1 < 0)) (v_wide (-(v_wval p0))) p0)
abbrev pre_Z1a (p0:gE):List Prop := [(((decide (p0.1 < 0))=true)→(v_wok p0))]
theorem d_Z1a (p0:gE) (K:(Int×(List Int))→Prop) (hp:∀ p∈pre_Z1a p0,p) (h:K (s_Z1a p0)):w_Z1a p0 K := by
 unfold w_Z1a
 unfold s_Z1a at h
 obtain ⟨hp0,_⟩ := conj_of hp
 exact (br' h (fun e0 h => ⟨(hp0 e0),h⟩)
  (fun e0 h => h))
def v_abs (n:Int):Int := n.natAbs
abbrev t_Z1a (p0:Int×List Int):Int×List Int := v_wide (v_abs (v_wval p0))
abbrev qre_Z1a (p0:Int×List Int):List Prop := [v_wok p0]
theorem pp_Z1a (p0:Int×List Int) (hq:∀ p∈qre_Z1a p0,p):∀ p∈pre_Z1a p0,p := by
 obtain ⟨h,_⟩ := conj_of hq
 simp only [pre_Z1a,fM]
 exact ⟨fun _ => h,by simp⟩
theorem tt_Z1a (p0:Int×List Int) (hq:∀ p∈qre_Z1a p0,p):s_Z1a p0 = t_Z1a p0 := by
 obtain ⟨n,rfl,h⟩ := (conj_of hq).1.ex
 unfold s_Z1a t_Z1a v_abs
 rw [v_wval_wide,v_wide_1]
 rcases v_sign3 n with ⟨k,e,_⟩ | ⟨k,e,_⟩ | ⟨k,e,_⟩ <;> rw [e]
 ·show v_wide (-n)=_
  congr 1; omega
 ·subst k; rfl
 ·show v_wide n = _
  congr 1; omega

abbrev con_Z1a:Con := ⟨P_Z1a,R_Z1a,fun x => qre_Z1a x,fun x => t_Z1a x⟩
theorem ok_Z1a:ConOk Tryz.prog 121 con_Z1a := okG k_Z1a e_Z1a hC_Z1a fun x hx => tf_of (w_Z1a_eq x _) (d_Z1a x _ (pp_Z1a x hx) (tt_Z1a x hx))
def C_Z1m:Cons := []
theorem hC_Z1m:ConsOk Tryz.prog C_Z1m := ConsOk.nil
def w_Z1m (p0:gE) (K:Int→Prop):Prop := (K p0.1)
theorem w_Z1m_eq (p0:gE) (K:Int→Prop):tfn F_Z1m A_Z1m C_Z1m P_Z1m R_Z1m p0 K = w_Z1m p0 K := by kernel_rfl
def s_Z1m (p0:gE):Int := p0.1
abbrev pre_Z1m (_p0:gE):List Prop := []
theorem d_Z1m (p0:gE) (K:Int→Prop) (_hp:∀ p∈pre_Z1m p0,p) (h:K (s_Z1m p0)):w_Z1m p0 K := by
 unfold w_Z1m
 unfold s_Z1m at h
 exact h
abbrev con_Z1m:Con := ⟨P_Z1m,R_Z1m,fun x => pre_Z1m x,fun x => s_Z1m x⟩
theorem ok_Z1m:ConOk Tryz.prog 76 con_Z1m := okG k_Z1m e_Z1m hC_Z1m fun x hx => tf_of (w_Z1m_eq x _) (d_Z1m x _ hx rfl)
def C_Zd:Cons := [(121,[],con_Z1a),(76,[],con_Z1m),(107,[],con_Z5),(67,[],con_Z9),(122,[],con_Zt)]
theorem hC_Zd:ConsOk Tryz.prog C_Zd := cC ok_Z1a <| cC ok_Z1m <| cC ok_Z5 <| cC ok_Z9 <| cC ok_Zt <| ConsOk.nil
def w_Zd (p0:gE) (p1:gE) (K:(Int×(List Int))→Prop):Prop := ((v_wok p0) ∧((v_wok p1) ∧(∃ n0,(loopP (fun (y1:gD) k2 => ((((y1.2.1 != 0)=true) →((v_wok y1.1) ∧((v_wok y1.2) ∧((zz0 < (v_wval y1.2)) ∧((y1.2.2.length≤500000000000) ∧((v_wok (v_wide ((v_wval y1.1) / (v_wval y1.2)))) ∧((v_wok y1.2) ∧((v_wok y1.1) ∧((v_wok (v_wide ((v_wval (v_wide ((v_wval y1.1) / (v_wval y1.2)))) * (v_wval y1.2)))) ∧(k2 (y1.2,(v_wide ((v_wval y1.1) - (v_wval (v_wide ((v_wval (v_wide ((v_wval y1.1) / (v_wval y1.2)))) * (v_wval y1.2))))))))))))))))) ∧(((y1.2.1 != 0)=false) →(K y1.1)))) n0 ((v_wide (v_abs (v_wval p0))),(v_wide (v_abs (v_wval p1))))))))
theorem w_Zd_eq (p0:gE) (p1:gE) (K:(Int×(List Int))→Prop):tfn F_Zd A_Zd C_Zd P_Zd R_Zd (p0,p1) K = w_Zd p0 p1 K := by kernel_rfl
def st_Zd_0 (_p0:gE) (_p1:gE) (y0:gD):((Int×(List Int))×(Int×(List Int))) ⊕ (Int×(List Int)) := (cond (y0.2.1 != 0) (Sum.inl (y0.2,(v_wide ((v_wval y0.1) - (v_wval (v_wide ((v_wval (v_wide ((v_wval y0.1) / (v_wval y0.2)))) * (v_wval y0.2)))))))) (Sum.inr y0.1))
abbrev sp_Zd_0 (_p0:gE) (_p1:gE) (y0:gD):List Prop := [(((y0.2.1 != 0)=true)→(v_wok y0.1)),(((y0.2.1 != 0)=true)→(v_wok y0.2)),(((y0.2.1 != 0)=true)→((0:Int) < (v_wval y0.2))),(((y0.2.1 != 0)=true)→(y0.2.2.length≤500000000000)),(((y0.2.1 != 0)=true)→(v_wok (v_wide ((v_wval y0.1) / (v_wval y0.2))))),(((y0.2.1 != 0)=true)→(v_wok (v_wide ((v_wval (v_wide ((v_wval y0.1) / (v_wval y0.2)))) * (v_wval y0.2)))))]
def s_Zd (p0:gE) (p1:gE):(Int×(List Int)) := (lpv ((0:Int),[]) (st_Zd_0 p0 p1) ((v_wide (v_abs (v_wval p0))),(v_wide (v_abs (v_wval p1)))))
abbrev pre_Zd (p0:gE) (p1:gE):List Prop := [(v_wok p0),(v_wok p1),(OkL (st_Zd_0 p0 p1) (sp_Zd_0 p0 p1) ((v_wide (v_abs (v_wval p0))),(v_wide (v_abs (v_wval p1)))))]
theorem d_Zd (p0:gE) (p1:gE) (K:(Int×(List Int))→Prop) (hp:∀ p∈pre_Zd p0 p1,p) (h:K (s_Zd p0 p1)):w_Zd p0 p1 K := by
 unfold w_Zd
 unfold s_Zd at h
 obtain ⟨hp0,hp1,hp2,_⟩ := conj_of hp
 exact ⟨(hp0),(hp1),(loop_gen (hp2) h (fun y0 k0 hp h => by
 unfold st_Zd_0 at h; obtain ⟨hp0,hp1,hp2,hp3,hp4,hp5,_⟩ := conj_of hp
 exact (br' h (fun e1 h => ⟨(hp0 e1),(hp1 e1),(hp2 e1),(hp3 e1),(hp4 e1),(hp1 e1),(hp0 e1),(hp5 e1),h⟩)
  (fun e1 h => h))))⟩
theorem l_Zd_0 (p0 p1:Int×List Int) (h1:v_wok p0) (h2:v_wok p1) (l1:p0.2.length≤400000000000) (l2:p1.2.length≤400000000000):OkL (st_Zd_0 p0 p1) (sp_Zd_0 p0 p1) (v_wide (v_abs (v_wval p0)),v_wide (v_abs (v_wval p1)))∧lpv (0,[]) (st_Zd_0 p0 p1) (v_wide (v_abs (v_wval p0)),v_wide (v_abs (v_wval p1)))=v_wide (v_gcd (v_wval p0) (v_wval p1)) := by
 obtain ⟨a,ea,_⟩ := h1.ex
 obtain ⟨b,eb,_⟩ := h2.ex
 have da:v_dl a≤400000000000 := by rw [ea] at l1; exact l1
 have db:v_dl b≤400000000000 := by rw [eb] at l2; exact l2
 have wa:v_wval p0 = a := by rw [ea,v_wval_wide]
 have wb:v_wval p1 = b := by rw [eb,v_wval_wide]
 rw [wa,wb]
 -- as many rounds as the second number says: bounded by fuel no more,so the digits' number is the measure
 have key:∀ (k:Nat) (x y:Int),0≤x→0≤y→y < 2 ^ k→v_dl x≤400000000000→v_dl y≤400000000000→∀ f,2 * k + 2≤f→OkN (st_Zd_0 p0 p1) (sp_Zd_0 p0 p1) f (v_wide x,v_wide y)∧runL (0,[]) (st_Zd_0 p0 p1) f (v_wide x,v_wide y)=v_wide (v_gcd x y) := by
  have fin:∀ (x:Int),0≤x→∀ f,OkN (st_Zd_0 p0 p1) (sp_Zd_0 p0 p1) (f + 1) (v_wide x,v_wide 0)∧runL (0,[]) (st_Zd_0 p0 p1) (f + 1) (v_wide x,v_wide 0)=v_wide (v_gcd x 0) := by
   intro x hx f
   have e0:v_gcd x 0 = x := by unfold v_gcd; rw [Int.gcd_zero_right]; omega
   unfold OkN runL
   simp only [sp_Zd_0,st_Zd_0,fM,v_wide_1,show (Int.sign 0 != 0)=false from rfl,cond_false,e0]
   exact ⟨⟨⟨fun h => (by cases h),fun h => (by cases h),fun h => (by cases h),fun h => (by cases h),fun h => (by cases h),fun h => (by cases h),by simp⟩,trivial⟩,trivial⟩
  have round:∀ (x y:Int),0≤x→0 < y→v_dl x≤400000000000→v_dl y≤400000000000→(∀ p∈sp_Zd_0 p0 p1 (v_wide x,v_wide y),p)∧st_Zd_0 p0 p1 (v_wide x,v_wide y) = .inl (v_wide y,v_wide (x % y)) := by
   intro x y hx hy dx dy
   have q1 := Int.mul_ediv_add_emod x y
   have q2 := Int.emod_nonneg x (show y ≠ 0 by omega)
   have q3:0≤x / y := Int.ediv_nonneg hx (by omega)
   have q4:x / y≤x := Int.ediv_le_self _ hx
   have d1:v_dl (x / y)≤400000000000 := Nat.le_trans (v_dl_mono (by omega)) dx
   have d2:v_dl (x / y * y)≤400000000000 := Nat.le_trans (v_dl_mono (n := x) (by rw [Int.mul_comm]; have := Int.mul_nonneg (show 0≤y by omega) q3; omega)) dx
   have w1:v_wok (v_wide x) := v_wok_of (Nat.le_trans dx (by decide))
   have w2:v_wok (v_wide y) := v_wok_of (Nat.le_trans dy (by decide))
   have w3:v_wok (v_wide (x / y)) := v_wok_of (Nat.le_trans d1 (by decide))
   have w4:v_wok (v_wide (x / y * y)) := v_wok_of (Nat.le_trans d2 (by decide))
   have l2:(v_wide y).2.length≤500000000000 := Nat.le_trans dy (by decide)
   have hs:(y.sign != 0)=true := by rw [Int.sign_eq_one_of_pos hy]; rfl
   simp only [sp_Zd_0,st_Zd_0,fM,v_wide_1,hs,cond_true,v_wval_wide]
   refine ⟨⟨fun _ => w1,fun _ => w2,fun _ => hy,fun _ => l2,fun _ => w3,fun _ => w4,by simp⟩,?_⟩
   congr 3
   rw [Int.mul_comm]; omega
  have gs:∀ (x y:Int),0≤x→v_gcd y (x % y)=v_gcd x y := fun x y hx => by rw [← Int.tmod_eq_emod_of_nonneg hx]; exact v_gcd_step x y
  have one:∀ (x y:Int) (f:Nat),0≤x→0 < y→v_dl x≤400000000000→v_dl y≤400000000000→(OkN (st_Zd_0 p0 p1) (sp_Zd_0 p0 p1) f (v_wide y,v_wide (x % y))∧runL (0,[]) (st_Zd_0 p0 p1) f (v_wide y,v_wide (x % y))=v_wide (v_gcd y (x % y)))→OkN (st_Zd_0 p0 p1) (sp_Zd_0 p0 p1) (f + 1) (v_wide x,v_wide y)∧runL (0,[]) (st_Zd_0 p0 p1) (f + 1) (v_wide x,v_wide y)=v_wide (v_gcd x y) := by
   intro x y f hx hy dx dy ih
   obtain ⟨r1,r2⟩ := round x y hx hy dx dy
   unfold OkN runL
   rw [r2]
   exact ⟨⟨r1,ih.1⟩,ih.2.trans (by rw [gs x y hx])⟩
  have dmod:∀ (x y:Int),0 < y→v_dl y≤400000000000→v_dl (x % y)≤400000000000 := fun x y hy dy => by
   have q2 := Int.emod_nonneg x (show y ≠ 0 by omega)
   have q3 := Int.emod_lt_of_pos x hy
   exact Nat.le_trans (v_dl_mono (by omega)) dy
  intro k
  induction k with
  | zero =>
   intro x y hx hy hk dx dy f hf
   have:y = 0 := by simp at hk; omega
   subst this
   obtain ⟨f,rfl⟩ : ∃ g,f = g + 1 := ⟨f - 1,by omega⟩
   exact fin x hx f
  | succ k ih =>
   intro x y hx hy hk dx dy f hf
   rcases Int.lt_or_le 0 y with h0 | h0
   ·obtain ⟨f,rfl⟩ : ∃ g,f = g + 2 := ⟨f - 2,by omega⟩
    have q2 := Int.emod_nonneg x (show y ≠ 0 by omega)
    have q3 := Int.emod_lt_of_pos x h0
    refine one x y (f + 1) hx h0 dx dy ?_
    rcases Int.lt_or_le 0 (x % y) with h1 | h1
    ·have s2 := Int.emod_nonneg y (show x % y ≠ 0 by omega)
     have s3 := Int.emod_lt_of_pos y h1
     have hlt:y % (x % y) < 2 ^ k := by
      rw [Int.pow_succ] at hk
      rcases Int.lt_or_le (x % y) (2 ^ k) with c | c
      ·omega
      ·have:y % (x % y)≤y - x % y := by
        have e := Int.mul_ediv_add_emod y (x % y)
        have:1≤y / (x % y) := Int.le_ediv_of_mul_le h1 (by omega)
        have := Int.mul_le_mul_of_nonneg_left this (show 0≤x % y by omega)
        omega
       omega
     exact one y (x % y) f (by omega) h1 dy (dmod x y h0 dy) (ih _ _ q2 s2 hlt (dmod x y h0 dy) (dmod y _ h1 (dmod x y h0 dy)) f (by omega))
    ·have:x % y = 0 := by omega
     rw [this]
     exact fin y (by omega) f
   ·have:y = 0 := by omega
    subst this
    obtain ⟨f,rfl⟩ : ∃ g,f = g + 1 := ⟨f - 1,by omega⟩
    exact fin x hx f
 have hb:(v_abs b) < 2 ^ (30 * v_dl b) := by
  have h1 := v_digs_high b.natAbs
  have h2:∀ n:Nat,v_pow n≤2 ^ (30 * n) := by
   intro n
   induction n with
   | zero => exact Int.le_refl _
   | succ n ih =>
    rw [v_pow_s,Nat.mul_succ,Int.pow_add,show (2:Int) ^ 30 = 1073741824 from by decide]
    have := v_pow_pos n
    omega
  have h2 := h2 (v_digs b.natAbs).length
  unfold v_abs v_dl
  omega
 have ga:v_gcd (v_abs a) (v_abs b)=v_gcd a b := by unfold v_gcd v_abs Int.gcd; rw [Int.natAbs_natCast,Int.natAbs_natCast]
 have := key (30 * v_dl b) (v_abs a) (v_abs b) (by unfold v_abs; omega) (by unfold v_abs; omega) hb (by unfold v_dl v_abs at *; rw [Int.natAbs_natCast]; exact da) (by unfold v_dl v_abs at *; rw [Int.natAbs_natCast]; exact db) fuel (by unfold fuel; omega)
 rw [ga] at this
 exact this
abbrev t_Zd (p0:Int×List Int) (p1:Int×List Int):Int×List Int := v_wide (v_gcd (v_wval p0) (v_wval p1))
abbrev qre_Zd (p0:Int×List Int) (p1:Int×List Int):List Prop := [v_wok p0,v_wok p1,p0.2.length≤400000000000,p1.2.length≤400000000000]
theorem pp_Zd (p0:Int×List Int) (p1:Int×List Int) (hq:∀ p∈qre_Zd p0 p1,p):∀ p∈pre_Zd p0 p1,p := by
 obtain ⟨h1,h2,h3,h4,_⟩ := conj_of hq
 simp only [pre_Zd,fM]
 exact ⟨h1,h2,(l_Zd_0 p0 p1 h1 h2 h3 h4).1,by simp⟩
theorem tt_Zd (p0:Int×List Int) (p1:Int×List Int) (hq:∀ p∈qre_Zd p0 p1,p):s_Zd p0 p1 = t_Zd p0 p1 := by
 obtain ⟨h1,h2,h3,h4,_⟩ := conj_of hq
 have e := (l_Zd_0 p0 p1 h1 h2 h3 h4).2
 unfold s_Zd t_Zd
 rw [e]

abbrev con_Zd:Con := ⟨P_Zd,R_Zd,fun x => qre_Zd x.1 x.2,fun x => t_Zd x.1 x.2⟩
theorem ok_Zd:ConOk Tryz.prog 105 con_Zd := okG k_Zd e_Zd hC_Zd fun x hx => tf_of (w_Zd_eq x.1 x.2 _) (d_Zd x.1 x.2 _ (pp_Zd x.1 x.2 hx) (tt_Zd x.1 x.2 hx))
def C_Z18:Cons := [(122,[],con_Zt)]
theorem hC_Z18:ConsOk Tryz.prog C_Z18 := cC ok_Zt <| ConsOk.nil
def w_Z18 (p0:gE) (p1:gE) (K:Int→Prop):Prop := ((v_wok p0) ∧((v_wok p1) ∧(K (v_wide ((v_wval p0) - (v_wval p1))).1)))
theorem w_Z18_eq (p0:gE) (p1:gE) (K:Int→Prop):tfn F_Z18 A_Z18 C_Z18 P_Z18 R_Z18 (p0,p1) K = w_Z18 p0 p1 K := by kernel_rfl
def s_Z18 (p0:gE) (p1:gE):Int := (v_wide ((v_wval p0) - (v_wval p1))).1
abbrev pre_Z18 (p0:gE) (p1:gE):List Prop := [(v_wok p0),(v_wok p1)]
theorem d_Z18 (p0:gE) (p1:gE) (K:Int→Prop) (hp:∀ p∈pre_Z18 p0 p1,p) (h:K (s_Z18 p0 p1)):w_Z18 p0 p1 K := by
 unfold w_Z18
 unfold s_Z18 at h
 obtain ⟨hp0,hp1,_⟩ := conj_of hp
 exact ⟨(hp0),(hp1),h⟩
abbrev t_Z18 (p0:Int×List Int) (p1:Int×List Int):Int := v_cmp (v_wval p0) (v_wval p1)
abbrev qre_Z18 (p0:Int×List Int) (p1:Int×List Int):List Prop := [v_wok p0,v_wok p1]
theorem pp_Z18 (p0:Int×List Int) (p1:Int×List Int) (hq:∀ p∈qre_Z18 p0 p1,p):∀ p∈pre_Z18 p0 p1,p := by
 simpa only [pre_Z18] using hq
theorem tt_Z18 (p0:Int×List Int) (p1:Int×List Int) (_hq:∀ p∈qre_Z18 p0 p1,p):s_Z18 p0 p1 = t_Z18 p0 p1 := by
 unfold s_Z18 t_Z18
 exact v_cmp_sign _ _

abbrev con_Z18:Con := ⟨P_Z18,R_Z18,fun x => qre_Z18 x.1 x.2,fun x => t_Z18 x.1 x.2⟩
theorem ok_Z18:ConOk Tryz.prog 106 con_Z18 := okG k_Z18 e_Z18 hC_Z18 fun x hx => tf_of (w_Z18_eq x.1 x.2 _) (d_Z18 x.1 x.2 _ (pp_Z18 x.1 x.2 hx) (tt_Z18 x.1 x.2 hx))
def C_Zn:Cons := [(76,[],con_Z1m),(104,[],con_Zo),(105,[],con_Zd),(66,[],con_Zg),(106,[],con_Z18),(107,[],con_Z5)]
theorem hC_Zn:ConsOk Tryz.prog C_Zn := cC ok_Z1m <| cC ok_Zo <| cC ok_Zd <| cC ok_Zg <| cC ok_Z18 <| cC ok_Z5 <| ConsOk.nil
abbrev q0_Zn (p0:gE) (p1:gE) := (v_wide (v_gcd (v_wval (v_wide (-(v_wval p0)))) (v_wval (v_wide (-(v_wval p1))))))
def w_Zn (p0:gE) (p1:gE) (K:((Int×(List Int))×(Int×(List Int)))→Prop):Prop := ((((decide (p1.1 < zz0))=true) →((v_wok p0) ∧((v_wok p1) ∧((v_wok (v_wide (-(v_wval p0)))) ∧((v_wok (v_wide (-(v_wval p1)))) ∧(((List.length (v_wide (-(v_wval p0))).2)≤400000000000) ∧(((List.length (v_wide (-(v_wval p1))).2)≤400000000000) ∧((v_fit zz1) ∧((v_wok (q0_Zn p0 p1)) ∧((v_wok (v_wide zz1)) ∧(((((v_cmp (v_wval (q0_Zn p0 p1)) (v_wval (v_wide zz1))) == zz0)=true) →(K ((v_wide (-(v_wval p0))),(v_wide (-(v_wval p1)))))) ∧((((v_cmp (v_wval (q0_Zn p0 p1)) (v_wval (v_wide zz1))) == zz0)=false) →((v_wok (v_wide (-(v_wval p0)))) ∧((v_wok (q0_Zn p0 p1)) ∧((zz0 < (v_wval (q0_Zn p0 p1))) ∧(((List.length (q0_Zn p0 p1).2)≤500000000000) ∧((v_wok (v_wide (-(v_wval p1)))) ∧((v_wok (q0_Zn p0 p1)) ∧((zz0 < (v_wval (q0_Zn p0 p1))) ∧(((List.length (q0_Zn p0 p1).2)≤500000000000) ∧(K ((v_wide ((v_wval (v_wide (-(v_wval p0)))) / (v_wval (q0_Zn p0 p1)))),(v_wide ((v_wval (v_wide (-(v_wval p1)))) / (v_wval (q0_Zn p0 p1)))))))))))))))))))))))))) ∧(((decide (p1.1 < zz0))=false) →((v_wok p0) ∧((v_wok p1) ∧((p0.2.length≤400000000000) ∧((p1.2.length≤400000000000) ∧((v_fit zz1) ∧((v_wok (v_wide (v_gcd (v_wval p0) (v_wval p1)))) ∧((v_wok (v_wide zz1)) ∧(((((v_cmp (v_wval (v_wide (v_gcd (v_wval p0) (v_wval p1)))) (v_wval (v_wide zz1))) == zz0)=true) →(K (p0,p1))) ∧((((v_cmp (v_wval (v_wide (v_gcd (v_wval p0) (v_wval p1)))) (v_wval (v_wide zz1))) == zz0)=false) →((v_wok p0) ∧((v_wok (v_wide (v_gcd (v_wval p0) (v_wval p1)))) ∧((zz0 < (v_wval (v_wide (v_gcd (v_wval p0) (v_wval p1))))) ∧(((List.length (v_wide (v_gcd (v_wval p0) (v_wval p1))).2)≤500000000000) ∧((v_wok p1) ∧((v_wok (v_wide (v_gcd (v_wval p0) (v_wval p1)))) ∧((zz0 < (v_wval (v_wide (v_gcd (v_wval p0) (v_wval p1))))) ∧(((List.length (v_wide (v_gcd (v_wval p0) (v_wval p1))).2)≤500000000000) ∧(K ((v_wide ((v_wval p0) / (v_wval (v_wide (v_gcd (v_wval p0) (v_wval p1)))))),(v_wide ((v_wval p1) / (v_wval (v_wide (v_gcd (v_wval p0) (v_wval p1)))))))))))))))))))))))))))
theorem w_Zn_eq (p0:gE) (p1:gE) (K:((Int×(List Int))×(Int×(List Int)))→Prop):tfn F_Zn A_Zn C_Zn P_Zn R_Zn (p0,p1) K = w_Zn p0 p1 K := by kernel_rfl
def s_Zn (p0:gE) (p1:gE):((Int×(List Int))×(Int×(List Int))) := (cond (decide (p1.1 < 0)) (cond ((v_cmp (v_wval (v_wide (v_gcd (v_wval (v_wide (-(v_wval p0)))) (v_wval (v_wide (-(v_wval p1))))))) (v_wval (v_wide (1:Int)))) == 0) ((v_wide (-(v_wval p0))),(v_wide (-(v_wval p1)))) ((v_wide ((v_wval (v_wide (-(v_wval p0)))) / (v_wval (v_wide (v_gcd (v_wval (v_wide (-(v_wval p0)))) (v_wval (v_wide (-(v_wval p1))))))))),(v_wide ((v_wval (v_wide (-(v_wval p1)))) / (v_wval (v_wide (v_gcd (v_wval (v_wide (-(v_wval p0)))) (v_wval (v_wide (-(v_wval p1))))))))))) (cond ((v_cmp (v_wval (v_wide (v_gcd (v_wval p0) (v_wval p1)))) (v_wval (v_wide (1:Int)))) == 0) (p0,p1) ((v_wide ((v_wval p0) / (v_wval (v_wide (v_gcd (v_wval p0) (v_wval p1)))))),(v_wide ((v_wval p1) / (v_wval (v_wide (v_gcd (v_wval p0) (v_wval p1)))))))))
abbrev pre_Zn (p0:gE) (p1:gE):List Prop := [(((decide (p1.1 < 0))=true)→(v_wok p0)),(((decide (p1.1 < 0))=true)→(v_wok p1)),(((decide (p1.1 < 0))=true)→(v_wok (v_wide (-(v_wval p0))))),(((decide (p1.1 < 0))=true)→(v_wok (v_wide (-(v_wval p1))))),(((decide (p1.1 < 0))=true)→((List.length (v_wide (-(v_wval p0))).2)≤400000000000)),(((decide (p1.1 < 0))=true)→((List.length (v_wide (-(v_wval p1))).2)≤400000000000)),(((decide (p1.1 < 0))=true)→(v_fit (1:Int))),(((decide (p1.1 < 0))=true)→(v_wok (v_wide (v_gcd (v_wval (v_wide (-(v_wval p0)))) (v_wval (v_wide (-(v_wval p1)))))))),(((decide (p1.1 < 0))=true)→(v_wok (v_wide (1:Int)))),(((decide (p1.1 < 0))=true)→((((v_cmp (v_wval (v_wide (v_gcd (v_wval (v_wide (-(v_wval p0)))) (v_wval (v_wide (-(v_wval p1))))))) (v_wval (v_wide (1:Int)))) == 0)=false)→(v_wok (v_wide (-(v_wval p0)))))),(((decide (p1.1 < 0))=true)→((((v_cmp (v_wval (v_wide (v_gcd (v_wval (v_wide (-(v_wval p0)))) (v_wval (v_wide (-(v_wval p1))))))) (v_wval (v_wide (1:Int)))) == 0)=false)→(v_wok (v_wide (v_gcd (v_wval (v_wide (-(v_wval p0)))) (v_wval (v_wide (-(v_wval p1))))))))),(((decide (p1.1 < 0))=true)→((((v_cmp (v_wval (v_wide (v_gcd (v_wval (v_wide (-(v_wval p0)))) (v_wval (v_wide (-(v_wval p1))))))) (v_wval (v_wide (1:Int)))) == 0)=false)→((0:Int) < (v_wval (v_wide (v_gcd (v_wval (v_wide (-(v_wval p0)))) (v_wval (v_wide (-(v_wval p1)))))))))),(((decide (p1.1 < 0))=true)→((((v_cmp (v_wval (v_wide (v_gcd (v_wval (v_wide (-(v_wval p0)))) (v_wval (v_wide (-(v_wval p1))))))) (v_wval (v_wide (1:Int)))) == 0)=false)→((List.length (v_wide (v_gcd (v_wval (v_wide (-(v_wval p0)))) (v_wval (v_wide (-(v_wval p1)))))).2)≤500000000000))),(((decide (p1.1 < 0))=true)→((((v_cmp (v_wval (v_wide (v_gcd (v_wval (v_wide (-(v_wval p0)))) (v_wval (v_wide (-(v_wval p1))))))) (v_wval (v_wide (1:Int)))) == 0)=false)→(v_wok (v_wide (-(v_wval p1)))))),(((decide (p1.1 < 0))=false)→(v_wok p0)),(((decide (p1.1 < 0))=false)→(v_wok p1)),(((decide (p1.1 < 0))=false)→(p0.2.length≤400000000000)),(((decide (p1.1 < 0))=false)→(p1.2.length≤400000000000)),(((decide (p1.1 < 0))=false)→(v_fit (1:Int))),(((decide (p1.1 < 0))=false)→(v_wok (v_wide (v_gcd (v_wval p0) (v_wval p1))))),(((decide (p1.1 < 0))=false)→(v_wok (v_wide (1:Int)))),(((decide (p1.1 < 0))=false)→((((v_cmp (v_wval (v_wide (v_gcd (v_wval p0) (v_wval p1)))) (v_wval (v_wide (1:Int)))) == 0)=false)→(v_wok p0))),(((decide (p1.1 < 0))=false)→((((v_cmp (v_wval (v_wide (v_gcd (v_wval p0) (v_wval p1)))) (v_wval (v_wide (1:Int)))) == 0)=false)→(v_wok (v_wide (v_gcd (v_wval p0) (v_wval p1)))))),(((decide (p1.1 < 0))=false)→((((v_cmp (v_wval (v_wide (v_gcd (v_wval p0) (v_wval p1)))) (v_wval (v_wide (1:Int)))) == 0)=false)→((0:Int) < (v_wval (v_wide (v_gcd (v_wval p0) (v_wval p1))))))),(((decide (p1.1 < 0))=false)→((((v_cmp (v_wval (v_wide (v_gcd (v_wval p0) (v_wval p1)))) (v_wval (v_wide (1:Int)))) == 0)=false)→((List.length (v_wide (v_gcd (v_wval p0) (v_wval p1))).2)≤500000000000))),(((decide (p1.1 < 0))=false)→((((v_cmp (v_wval (v_wide (v_gcd (v_wval p0) (v_wval p1)))) (v_wval (v_wide (1:Int)))) == 0)=false)→(v_wok p1)))]
theorem d_Zn (p0:gE) (p1:gE) (K:((Int×(List Int))×(Int×(List Int)))→Prop) (hp:∀ p∈pre_Zn p0 p1,p) (h:K (s_Zn p0 p1)):w_Zn p0 p1 K := by
 unfold w_Zn
 unfold s_Zn at h
 obtain ⟨hp0,hp1,hp2,hp3,hp4,hp5,hp6,hp7,hp8,hp9,hp10,hp11,hp12,hp13,hp14,hp15,hp16,hp17,hp18,hp19,hp20,hp21,hp22,hp23,hp24,hp25,_⟩ := conj_of hp
 exact (br' h (fun e0 h => ⟨(hp0 e0),(hp1 e0),(hp2 e0),(hp3 e0),(hp4 e0),(hp5 e0),(hp6 e0),(hp7 e0),(hp8 e0),(br' h (fun e1 h => h)
  (fun e1 h => ⟨(hp9 e0 e1),(hp10 e0 e1),(hp11 e0 e1),(hp12 e0 e1),(hp13 e0 e1),(hp10 e0 e1),(hp11 e0 e1),(hp12 e0 e1),h⟩))⟩)
  (fun e0 h => ⟨(hp14 e0),(hp15 e0),(hp16 e0),(hp17 e0),(hp18 e0),(hp19 e0),(hp20 e0),(br' h (fun e2 h => h)
  (fun e2 h => ⟨(hp21 e0 e2),(hp22 e0 e2),(hp23 e0 e2),(hp24 e0 e2),(hp25 e0 e2),(hp22 e0 e2),(hp23 e0 e2),(hp24 e0 e2),h⟩))⟩))
/-- A rational number as the reference keeps it. -/
def v_rat (q:Rat):(Int×List Int)×(Int×List Int) := (v_wide q.num,v_wide (q.den:Int))
def v_rv (p:(Int×List Int)×(Int×List Int)):Rat := (v_wval p.1:Rat) / (v_wval p.2:Rat)
theorem v_rv_rat (q:Rat):v_rv (v_rat q)=q := by
 unfold v_rv v_rat
 rw [v_wval_wide,v_wval_wide,← Rat.divInt_eq_div,Rat.num_divInt_den]
structure v_rok (p:(Int×List Int)×(Int×List Int)):Prop where
 eq:p = v_rat (v_rv p)
 l1:p.1.2.length≤100000000000
 l2:p.2.2.length≤100000000000
theorem v_rok.ex {p:(Int×List Int)×(Int×List Int)} (h:v_rok p):∃ q:Rat,p = v_rat q∧v_dl q.num≤100000000000∧v_dl q.den≤100000000000 := ⟨_,h.eq,by have := h.l1; rw [h.eq] at this; exact this,by have := h.l2; rw [h.eq] at this; exact this⟩
theorem v_rok_of {q:Rat} (h1:v_dl q.num≤100000000000) (h2:v_dl q.den≤100000000000):v_rok (v_rat q) := ⟨by rw [v_rv_rat],h1,h2⟩
/-- Bounds of both parts. -/
structure v_rb (B:Int) (q:Rat):Prop where
 n:(q.num.natAbs:Int)≤B
 d:(q.den:Int)≤B
theorem v_rb.ok {B:Int} {q:Rat} (h:v_rb B q) (hB:B < v_pow 100):v_rok (v_rat q) :=
 v_rok_of (Nat.le_trans (v_digs_len (k := 100) (by have := h.n; omega)) (by decide)) (Nat.le_trans (v_digs_len (k := 100) (by have := h.d; omega)) (by decide))
/-- What a quotient of two whole numbers is at most. -/
theorem v_rdiv_le2 {n d:Int} (hd:d ≠ 0):((n:Rat) / (d:Rat)).num.natAbs≤n.natAbs∧((n:Rat) / (d:Rat)).den≤d.natAbs := by
 rw [← Rat.divInt_eq_div,Rat.num_divInt,Rat.den_divInt,if_neg hd]
 refine ⟨?_,Nat.div_le_self _ _⟩
 rw [Int.natAbs_ediv_of_dvd (by
  have:(d.gcd n:Int) ∣ n := Int.gcd_dvd_right d n
  exact Int.dvd_trans this (Int.dvd_mul_left _ _))]
 refine Nat.le_trans (Nat.div_le_self _ _) ?_
 rw [Int.natAbs_mul]
 have:d.sign.natAbs = 1 := Int.natAbs_sign_of_ne_zero hd
 rw [this,Nat.one_mul]
 exact Nat.le_refl _
theorem v_rb_div {B n d:Int} (hd:d ≠ 0) (h1:(n.natAbs:Int)≤B) (h2:(d.natAbs:Int)≤B):v_rb B ((n:Rat) / (d:Rat)) := by
 have := v_rdiv_le2 (n := n) hd
 exact ⟨by omega,by omega⟩
theorem v_rcast_ne {d:Int} (h:d ≠ 0):(d:Rat) ≠ 0 := fun e => h (Rat.intCast_eq_zero_iff.1 e)
/-- Sums,products and quotients,by their parts. -/
theorem v_qnum (q:Rat):(q.num:Rat)=q * ((q.den:Int):Rat) := by
 have hq := v_rcast_ne (d := (q.den:Int)) (by have := q.den_pos; omega)
 have e := Rat.num_divInt_den q
 rw [Rat.divInt_eq_div] at e
 have h := Rat.div_mul_cancel (a := (q.num:Rat)) hq
 rw [e] at h
 exact h.symm
theorem v_qadd (p q:Rat):p + q = ((p.num * q.den + q.num * p.den:Int):Rat) / ((p.den * q.den:Int):Rat) := by
 have hp := v_rcast_ne (d := (p.den:Int)) (by have := p.den_pos; omega)
 have hq := v_rcast_ne (d := (q.den:Int)) (by have := q.den_pos; omega)
 have ep := v_qnum p
 have eq := v_qnum q
 rw [Rat.intCast_add,Rat.intCast_mul,Rat.intCast_mul,Rat.intCast_mul,ep,eq]
 generalize ((p.den:Int):Rat)=a at *
 generalize ((q.den:Int):Rat)=b at *
 grind
theorem v_qmul (p q:Rat):p * q = ((p.num * q.num:Int):Rat) / ((p.den * q.den:Int):Rat) := by
 have hp := v_rcast_ne (d := (p.den:Int)) (by have := p.den_pos; omega)
 have hq := v_rcast_ne (d := (q.den:Int)) (by have := q.den_pos; omega)
 have ep := v_qnum p
 have eq := v_qnum q
 rw [Rat.intCast_mul,Rat.intCast_mul,ep,eq]
 generalize ((p.den:Int):Rat)=a at *
 generalize ((q.den:Int):Rat)=b at *
 grind
theorem v_natmul {a b A B:Int} (h1:(a.natAbs:Int)≤A) (h2:(b.natAbs:Int)≤B):((a * b).natAbs:Int)≤A * B := by
 rw [Int.natAbs_mul,Int.natCast_mul]
 exact (mul_in (by omega) h1 (by omega) h2).2
theorem v_rb_mul {A B:Int} {p q:Rat} (hp:v_rb A p) (hq:v_rb B q):v_rb (A * B) (p * q) := by
 rw [v_qmul]
 have h1 := v_natmul hp.n hq.n
 have h3 := v_natmul (a := (p.den:Int)) (A := A) (by have := hp.d; omega) (b := (q.den:Int)) (B := B) (by have := hq.d; omega)
 have hd:(p.den:Int) * (q.den:Int) ≠ 0 := Int.mul_ne_zero (by have := p.den_pos; omega) (by have := q.den_pos; omega)
 exact v_rb_div hd h1 h3
theorem v_rb_int {A n:Int} (h:(n.natAbs:Int)≤A) (h1:1≤A):v_rb A (n:Rat) := ⟨h,h1⟩
/-- Operations on such numbers. -/
def v_rmk (n d:Int):(Int×List Int)×(Int×List Int) := v_rat ((n:Rat) / (d:Rat))
def v_rint (n:Int):(Int×List Int)×(Int×List Int) := v_rat (n:Rat)
def v_rneg (p:(Int×List Int)×(Int×List Int)):(Int×List Int)×(Int×List Int) := v_rat (-(v_rv p))
def v_radd (p q:(Int×List Int)×(Int×List Int)):(Int×List Int)×(Int×List Int) := v_rat (v_rv p + v_rv q)
def v_rsub (p q:(Int×List Int)×(Int×List Int)):(Int×List Int)×(Int×List Int) := v_rat (v_rv p - v_rv q)
def v_rmul (p q:(Int×List Int)×(Int×List Int)):(Int×List Int)×(Int×List Int) := v_rat (v_rv p * v_rv q)
abbrev t_Zn (p0:Int×List Int) (p1:Int×List Int):(Int×List Int)×(Int×List Int) := v_rmk (v_wval p0) (v_wval p1)
abbrev qre_Zn (p0:Int×List Int) (p1:Int×List Int):List Prop := [v_wok p0,v_wok p1,p0.2.length≤400000000000,p1.2.length≤400000000000,v_wval p1 ≠ 0]
theorem pp_Zn (p0:Int×List Int) (p1:Int×List Int) (hq:∀ p∈qre_Zn p0 p1,p):∀ p∈pre_Zn p0 p1,p := by
 obtain ⟨h1,h2,h3,h4,h5,_⟩ := conj_of hq
 obtain ⟨n,rfl,hn⟩ := h1.ex
 obtain ⟨d,rfl,hd⟩ := h2.ex
 rw [v_wide_len] at h3 h4
 rw [v_wval_wide] at h5
 have g0 := v_gcd_pos (a := n) h5
 have g0' := v_gcd_pos (a := -n) (b := -d) (by omega)
 have gd:v_dl (v_gcd n d)≤400000000000 := Nat.le_trans (v_dl_mono (by have := Nat.le_of_dvd (by omega) (show n.gcd d ∣ d.natAbs from Nat.gcd_dvd_right _ _); unfold v_gcd; omega)) h4
 have gg:v_gcd (-n) (-d)=v_gcd n d := by unfold v_gcd; rw [Int.neg_gcd,Int.gcd_neg]
 have w1:v_wok (v_wide 1) := v_wok_of (Nat.le_trans (v_digs_len (k := 1) (by decide)) (by decide))
 have wg:v_wok (v_wide (v_gcd n d)) := v_wok_of (Nat.le_trans gd (by decide))
 have wn:v_wok (v_wide (-n)) := v_wok_of (by rw [v_dl_neg]; exact hn)
 have wd:v_wok (v_wide (-d)) := v_wok_of (by rw [v_dl_neg]; exact hd)
 have f1:v_fit 1 := by unfold v_fit; omega
 have lg:(v_wide (v_gcd n d)).2.length≤500000000000 := Nat.le_trans gd (by decide)
 have ln:(v_wide (-n)).2.length≤400000000000 := by rw [v_wide_len,v_dl_neg]; exact h3
 have ld:(v_wide (-d)).2.length≤400000000000 := by rw [v_wide_len,v_dl_neg]; exact h4
 simp only [pre_Zn,fM,v_wval_wide,gg]
 and_intros
 all_goals first
  | (intro p hp; cases hp; done)
  | exact f1
  | exact w1
  | (intros; first | exact h1 | exact h2 | exact wn | exact wd | exact wg | exact w1 | exact f1 | exact h3 | exact h4 | exact ln | exact ld | exact lg | exact g0)
theorem tt_Zn (p0:Int×List Int) (p1:Int×List Int) (hq:∀ p∈qre_Zn p0 p1,p):s_Zn p0 p1 = t_Zn p0 p1 := by
 obtain ⟨h1,h2,h3,h4,h5,_⟩ := conj_of hq
 obtain ⟨n,rfl,hn⟩ := h1.ex
 obtain ⟨d,rfl,hd⟩ := h2.ex
 rw [v_wval_wide] at h5
 unfold s_Zn t_Zn v_rmk v_rat
 have key:∀ n d:Int,0 < d→cond (v_cmp (v_gcd n d) 1 == 0) (v_wide n,v_wide d) (v_wide (n / v_gcd n d),v_wide (d / v_gcd n d))=(v_wide ((n:Rat) / (d:Rat)).num,v_wide (((n:Rat) / (d:Rat)).den:Int)) := by
  intro n d hd
  have e := v_low_frac (n := n) hd
  unfold v_low v_frac at e
  simp only [pJ] at e
  rw [← e.1,← e.2]
  have g := v_gcd_pos (a := n) (b := d) (by omega)
  rcases Decidable.em (v_gcd n d = 1) with k | k
  ·rw [k,Int.ediv_one,Int.ediv_one]; cases (v_cmp 1 1 == 0) <;> rfl
  ·have:(v_cmp (v_gcd n d) 1 == 0)=false := by
    unfold v_cmp
    rw [decide_eq_false (show ¬ v_gcd n d < 1 by omega),decide_eq_true (show v_gcd n d > 1 by omega)]; rfl
   rw [this]; rfl
 have gg:v_gcd (-n) (-d)=v_gcd n d := by unfold v_gcd; rw [Int.neg_gcd,Int.gcd_neg]
 simp only [v_wval_wide]
 rcases Int.lt_or_le d 0 with c | c
 ·have k := key (-n) (-d) (by omega)
  rw [Rat.intCast_neg,Rat.intCast_neg,show -(n:Rat) / -(d:Rat)=(n:Rat) / (d:Rat) from by rw [Rat.div_def,Rat.div_def,show (-(d:Rat))⁻¹ = -((d:Rat)⁻¹) from by have := v_rcast_ne h5; grind]; grind] at k
  have e1:decide ((v_wide d).1 < 0)=true := decide_eq_true (by rw [v_wide_1,Int.sign_eq_neg_one_of_neg c]; decide)
  rw [e1,← k]
  simp only [cond_true]
 ·have k := key n d (by omega)
  have e1:decide ((v_wide d).1 < 0)=false := decide_eq_false (by rw [v_wide_1,Int.sign_eq_one_of_pos (show 0 < d by omega)]; decide)
  rw [e1,← k]
  simp only [cond_false]

abbrev con_Zn:Con := ⟨P_Zn,R_Zn,fun x => qre_Zn x.1 x.2,fun x => t_Zn x.1 x.2⟩
theorem ok_Zn:ConOk Tryz.prog 68 con_Zn := okG k_Zn e_Zn hC_Zn fun x hx => tf_of (w_Zn_eq x.1 x.2 _) (d_Zn x.1 x.2 _ (pp_Zn x.1 x.2 hx) (tt_Zn x.1 x.2 hx))
def C_Z15:Cons := [(66,[],con_Zg),(68,[],con_Zn)]
theorem hC_Z15:ConsOk Tryz.prog C_Z15 := cC ok_Zg <| cC ok_Zn <| ConsOk.nil
def w_Z15 (p0:Int) (p1:Int) (K:((Int×(List Int))×(Int×(List Int)))→Prop):Prop := ((v_fit p0) ∧((v_fit p1) ∧((v_wok (v_wide p0)) ∧((v_wok (v_wide p1)) ∧(((List.length (v_wide p0).2)≤400000000000) ∧(((List.length (v_wide p1).2)≤400000000000) ∧(((v_wval (v_wide p1)) ≠ zz0) ∧(K (v_rmk (v_wval (v_wide p0)) (v_wval (v_wide p1)))))))))))
theorem w_Z15_eq (p0:Int) (p1:Int) (K:((Int×(List Int))×(Int×(List Int)))→Prop):tfn F_Z15 A_Z15 C_Z15 P_Z15 R_Z15 (p0,p1) K = w_Z15 p0 p1 K := by kernel_rfl
def s_Z15 (p0:Int) (p1:Int):((Int×(List Int))×(Int×(List Int))) := (v_rmk (v_wval (v_wide p0)) (v_wval (v_wide p1)))
abbrev pre_Z15 (p0:Int) (p1:Int):List Prop := [(v_fit p0),(v_fit p1),(v_wok (v_wide p0)),(v_wok (v_wide p1)),((List.length (v_wide p0).2)≤400000000000),((List.length (v_wide p1).2)≤400000000000),((v_wval (v_wide p1)) ≠ (0:Int))]
theorem d_Z15 (p0:Int) (p1:Int) (K:((Int×(List Int))×(Int×(List Int)))→Prop) (hp:∀ p∈pre_Z15 p0 p1,p) (h:K (s_Z15 p0 p1)):w_Z15 p0 p1 K := by
 unfold w_Z15
 unfold s_Z15 at h
 obtain ⟨hp0,hp1,hp2,hp3,hp4,hp5,hp6,_⟩ := conj_of hp
 exact ⟨(hp0),(hp1),(hp2),(hp3),(hp4),(hp5),(hp6),h⟩
theorem v_rat_1 (q:Rat):(v_rat q).1 = v_wide q.num := rfl
theorem v_rat_2 (q:Rat):(v_rat q).2 = v_wide (q.den:Int) := rfl
theorem v_dl_fit {n:Int} (h:v_fit n):v_dl n≤12 := v_digs_len (k := 12) (by unfold v_fit at h; rw [show (v_pow 12:Int)=1000000000000000000000000000000000000000000000000000000000000000000000000000000000000000000000000000000000000 by decide]; omega)
theorem v_den_ne (q:Rat):(q.den:Int) ≠ 0 := by have := q.den_pos; omega
abbrev t_Z15 (p0:Int) (p1:Int):(Int×List Int)×(Int×List Int) := v_rmk p0 p1
abbrev qre_Z15 (p0:Int) (p1:Int):List Prop := [v_fit p0,v_fit p1,p1 ≠ 0]
theorem pp_Z15 (p0:Int) (p1:Int) (hq:∀ p∈qre_Z15 p0 p1,p):∀ p∈pre_Z15 p0 p1,p := by
 obtain ⟨h1,h2,h3,_⟩ := conj_of hq
 have d1 := v_dl_fit h1
 have d2 := v_dl_fit h2
 simp only [pre_Z15,fM]
 and_intros
 all_goals first
  | (intro p hp; cases hp; done)
  | (intros; assumption)
  | (intros; rw [v_wval_wide]; assumption)
  | (intros; apply v_wok_of; omega)
  | (intros; rw [v_wide_len]; omega)
  | omega
  | (unfold v_fit at *; omega)
theorem tt_Z15 (p0:Int) (p1:Int) (_hq:∀ p∈qre_Z15 p0 p1,p):s_Z15 p0 p1 = t_Z15 p0 p1 := by
 unfold s_Z15 t_Z15
 rw [v_wval_wide,v_wval_wide]

abbrev con_Z15:Con := ⟨P_Z15,R_Z15,fun x => qre_Z15 x.1 x.2,fun x => t_Z15 x.1 x.2⟩
theorem ok_Z15:ConOk Tryz.prog 89 con_Z15 := okG k_Z15 e_Z15 hC_Z15 fun x hx => tf_of (w_Z15_eq x.1 x.2 _) (d_Z15 x.1 x.2 _ (pp_Z15 x.1 x.2 hx) (tt_Z15 x.1 x.2 hx))
def C_Z14:Cons := [(107,[],con_Z5)]
theorem hC_Z14:ConsOk Tryz.prog C_Z14 := cC ok_Z5 <| ConsOk.nil
def w_Z14 (p0:gD) (K:(Int×(List Int))→Prop):Prop := ((v_wok p0.1) ∧((v_wok p0.2) ∧((zz0 < (v_wval p0.2)) ∧((p0.2.2.length≤500000000000) ∧(K (v_wide ((v_wval p0.1) / (v_wval p0.2))))))))
theorem w_Z14_eq (p0:gD) (K:(Int×(List Int))→Prop):tfn F_Z14 A_Z14 C_Z14 P_Z14 R_Z14 p0 K = w_Z14 p0 K := by kernel_rfl
def s_Z14 (p0:gD):(Int×(List Int)) := (v_wide ((v_wval p0.1) / (v_wval p0.2)))
abbrev pre_Z14 (p0:gD):List Prop := [(v_wok p0.1),(v_wok p0.2),((0:Int) < (v_wval p0.2)),(p0.2.2.length≤500000000000)]
theorem d_Z14 (p0:gD) (K:(Int×(List Int))→Prop) (hp:∀ p∈pre_Z14 p0,p) (h:K (s_Z14 p0)):w_Z14 p0 K := by
 unfold w_Z14
 unfold s_Z14 at h
 obtain ⟨hp0,hp1,hp2,hp3,_⟩ := conj_of hp
 exact ⟨(hp0),(hp1),(hp2),(hp3),h⟩
/-- A quotient rounded down and up. -/
def v_flr (q:Rat):Int := q.num / (q.den:Int)
def v_cel (q:Rat):Int := -((-q.num) / (q.den:Int))
theorem v_dl_div (a b:Int):v_dl (a / b)≤v_dl a := v_dl_mono (Int.natAbs_ediv_le_natAbs a b)
theorem v_low_div {n d:Int} (hd:0 < d):(v_low (n,d)).1 / (v_low (n,d)).2 = n / d := by
 have hg:0 < v_gcd n d := v_gcd_pos (by omega)
 unfold v_low
 simp only
 have e1:n = v_gcd n d * (n / v_gcd n d) := (Int.mul_ediv_cancel' (by unfold v_gcd; exact Int.gcd_dvd_left ..)).symm
 have e2:d = v_gcd n d * (d / v_gcd n d) := (Int.mul_ediv_cancel' (by unfold v_gcd; exact Int.gcd_dvd_right ..)).symm
 have := Int.mul_ediv_mul_of_pos (n / v_gcd n d) (d / v_gcd n d) hg
 rw [← e1,← e2] at this
 exact this.symm
theorem v_flr_div {n d:Int} (hd:0 < d):v_flr ((n:Rat) / (d:Rat))=n / d := by
 have h := v_low_frac (n := n) hd
 have e := v_low_div (n := n) hd
 rw [h] at e
 exact e
theorem v_cel_div {n d:Int} (hd:0 < d):v_cel ((n:Rat) / (d:Rat))=v_ceil n d := by
 have e := v_flr_div (n := -n) hd
 unfold v_flr at e
 rw [show (((-n:Int):Rat) / (d:Rat)) = -((n:Rat) / (d:Rat)) by rw [Rat.intCast_neg,Rat.div_def,Rat.neg_mul,← Rat.div_def],Rat.neg_num,Rat.neg_den] at e
 unfold v_cel v_ceil
 rw [e]
abbrev t_Z14 (p0:(Int×List Int)×(Int×List Int)):Int×List Int := v_wide (v_flr (v_rv p0))
abbrev qre_Z14 (p0:(Int×List Int)×(Int×List Int)):List Prop := [v_rok p0]
theorem pp_Z14 (p0:(Int×List Int)×(Int×List Int)) (hq:∀ p∈qre_Z14 p0,p):∀ p∈pre_Z14 p0,p := by
 obtain ⟨h1,_⟩ := conj_of hq
 obtain ⟨q,rfl,d1,d2⟩ := h1.ex
 have hd := q.den_pos
 simp only [pre_Z14,fM,v_rat_1,v_rat_2,v_wval_wide,v_wide_len]
 exact ⟨v_wok_of (by omega),v_wok_of (by omega),by omega,by omega,by simp⟩
theorem tt_Z14 (p0:(Int×List Int)×(Int×List Int)) (hq:∀ p∈qre_Z14 p0,p):s_Z14 p0 = t_Z14 p0 := by
 obtain ⟨h1,_⟩ := conj_of hq
 obtain ⟨q,rfl,d1,d2⟩ := h1.ex
 unfold s_Z14 t_Z14 v_flr
 rw [v_rat_1,v_rat_2,v_wval_wide,v_wval_wide,v_rv_rat]

abbrev con_Z14:Con := ⟨P_Z14,R_Z14,fun x => qre_Z14 x,fun x => t_Z14 x⟩
theorem ok_Z14:ConOk Tryz.prog 70 con_Z14 := okG k_Z14 e_Z14 hC_Z14 fun x hx => tf_of (w_Z14_eq x _) (d_Z14 x _ (pp_Z14 x hx) (tt_Z14 x hx))
def C_Z16:Cons := [(104,[],con_Zo),(107,[],con_Z5)]
theorem hC_Z16:ConsOk Tryz.prog C_Z16 := cC ok_Zo <| cC ok_Z5 <| ConsOk.nil
def w_Z16 (p0:gD) (K:(Int×(List Int))→Prop):Prop := ((v_wok p0.1) ∧((v_wok (v_wide (-(v_wval p0.1)))) ∧((v_wok p0.2) ∧((zz0 < (v_wval p0.2)) ∧((p0.2.2.length≤500000000000) ∧((v_wok (v_wide ((v_wval (v_wide (-(v_wval p0.1)))) / (v_wval p0.2)))) ∧(K (v_wide (-(v_wval (v_wide ((v_wval (v_wide (-(v_wval p0.1)))) / (v_wval p0.2)))))))))))))
theorem w_Z16_eq (p0:gD) (K:(Int×(List Int))→Prop):tfn F_Z16 A_Z16 C_Z16 P_Z16 R_Z16 p0 K = w_Z16 p0 K := by kernel_rfl
def s_Z16 (p0:gD):(Int×(List Int)) := (v_wide (-(v_wval (v_wide ((v_wval (v_wide (-(v_wval p0.1)))) / (v_wval p0.2))))))
abbrev pre_Z16 (p0:gD):List Prop := [(v_wok p0.1),(v_wok (v_wide (-(v_wval p0.1)))),(v_wok p0.2),((0:Int) < (v_wval p0.2)),(p0.2.2.length≤500000000000),(v_wok (v_wide ((v_wval (v_wide (-(v_wval p0.1)))) / (v_wval p0.2))))]
theorem d_Z16 (p0:gD) (K:(Int×(List Int))→Prop) (hp:∀ p∈pre_Z16 p0,p) (h:K (s_Z16 p0)):w_Z16 p0 K := by
 unfold w_Z16
 unfold s_Z16 at h
 obtain ⟨hp0,hp1,hp2,hp3,hp4,hp5,_⟩ := conj_of hp
 exact ⟨(hp0),(hp1),(hp2),(hp3),(hp4),(hp5),h⟩
abbrev t_Z16 (p0:(Int×List Int)×(Int×List Int)):Int×List Int := v_wide (v_cel (v_rv p0))
abbrev qre_Z16 (p0:(Int×List Int)×(Int×List Int)):List Prop := [v_rok p0]
theorem pp_Z16 (p0:(Int×List Int)×(Int×List Int)) (hq:∀ p∈qre_Z16 p0,p):∀ p∈pre_Z16 p0,p := by
 obtain ⟨h1,_⟩ := conj_of hq
 obtain ⟨q,rfl,d1,d2⟩ := h1.ex
 have hd := q.den_pos
 have hn := v_dl_neg q.num
 have hv := v_dl_div (-q.num) (q.den:Int)
 simp only [pre_Z16,fM,v_rat_1,v_rat_2,v_wval_wide,v_wide_len]
 exact ⟨v_wok_of (by omega),v_wok_of (by omega),v_wok_of (by omega),by omega,by omega,v_wok_of (by omega),by simp⟩
theorem tt_Z16 (p0:(Int×List Int)×(Int×List Int)) (hq:∀ p∈qre_Z16 p0,p):s_Z16 p0 = t_Z16 p0 := by
 obtain ⟨h1,_⟩ := conj_of hq
 obtain ⟨q,rfl,d1,d2⟩ := h1.ex
 unfold s_Z16 t_Z16 v_cel
 simp only [v_rat_1,v_rat_2,v_wval_wide,v_rv_rat]

abbrev con_Z16:Con := ⟨P_Z16,R_Z16,fun x => qre_Z16 x,fun x => t_Z16 x⟩
theorem ok_Z16:ConOk Tryz.prog 88 con_Z16 := okG k_Z16 e_Z16 hC_Z16 fun x hx => tf_of (w_Z16_eq x _) (d_Z16 x _ (pp_Z16 x hx) (tt_Z16 x hx))
def C_Zk:Cons := []
theorem hC_Zk:ConsOk Tryz.prog C_Zk := ConsOk.nil
def w_Zk (p0:gE) (K:(Int×Bool)→Prop):Prop := ((((decide ((p0.2.length:Int) > 2))=true) →(K (zz0,false))) ∧(((decide ((p0.2.length:Int) > 2))=false) →(∃ n0,(loopP (fun (y1:gG) k2 => ((((decide (y1.1 ≥ 0))=true) →((zz0≤y1.1) ∧((y1.1 < (p0.2.length:Int)) ∧(k2 ((IntKind.i64.wrap (y1.1 - 1)),(IntKind.i64.wrap ((IntKind.i64.wrap (y1.2 * 1000000000)) + (p0.2.getD y1.1.toNat zz0)))))))) ∧(((decide (y1.1 ≥ 0))=false) →(K ((IntKind.i64.wrap (p0.1 * y1.2)),true))))) n0 ((IntKind.i64.wrap ((p0.2.length:Int) - 1)),zz0)))))
theorem w_Zk_eq (p0:gE) (K:(Int×Bool)→Prop):tfn F_Zk A_Zk C_Zk P_Zk R_Zk p0 K = w_Zk p0 K := by kernel_rfl
def st_Zk_0 (p0:gE) (y1:gG):(Int×Int) ⊕ (Int×Bool) := (cond (decide (y1.1 ≥ 0)) (Sum.inl ((IntKind.i64.wrap (y1.1 - 1)),(IntKind.i64.wrap ((IntKind.i64.wrap (y1.2 * 1000000000)) + (p0.2.getD y1.1.toNat (0:Int)))))) (Sum.inr ((IntKind.i64.wrap (p0.1 * y1.2)),true)))
abbrev sp_Zk_0 (p0:gE) (y1:gG):List Prop := [(((decide (y1.1 ≥ 0))=true)→((0:Int)≤y1.1)),(((decide (y1.1 ≥ 0))=true)→(y1.1 < (p0.2.length:Int)))]
def s_Zk (p0:gE):(Int×Bool) := (cond (decide ((p0.2.length:Int) > 2)) ((0:Int),false) (lpv ((0:Int),false) (st_Zk_0 p0) ((IntKind.i64.wrap ((p0.2.length:Int) - 1)),(0:Int))))
abbrev pre_Zk (p0:gE):List Prop := [(((decide ((p0.2.length:Int) > 2))=false)→(OkL (st_Zk_0 p0) (sp_Zk_0 p0) ((IntKind.i64.wrap ((p0.2.length:Int) - 1)),(0:Int))))]
theorem d_Zk (p0:gE) (K:(Int×Bool)→Prop) (hp:∀ p∈pre_Zk p0,p) (h:K (s_Zk p0)):w_Zk p0 K := by
 unfold w_Zk
 unfold s_Zk at h
 obtain ⟨hp0,_⟩ := conj_of hp
 exact (br' h (fun e0 h => h)
  (fun e0 h => (loop_gen (hp0 e0) h (fun y1 k1 hp h => by
 unfold st_Zk_0 at h; obtain ⟨hp0,hp1,_⟩ := conj_of hp
 exact (br' h (fun e2 h => ⟨(hp0 e2),(hp1 e2),h⟩)
  (fun e2 h => h))))))
/-- A number as an int,if it is small. -/
def v_wint (n:Int):Int×Bool := cond (decide (n.natAbs < 1000000000000000000)) (n,true) (0,false)
theorem l_Zk_0 (p0:Int×List Int) (h:v_wok p0) (hl:p0.2.length≤2):OkL (st_Zk_0 p0) (sp_Zk_0 p0) (IntKind.i64.wrap ((p0.2.length:Int) - 1),0)∧lpv (0,false) (st_Zk_0 p0) (IntKind.i64.wrap ((p0.2.length:Int) - 1),0)=(v_wval p0,true) := by
 obtain ⟨n,en,_⟩ := h.ex
 have wn:v_wval p0 = n := by rw [en,v_wval_wide]
 have d0:v_dgok p0.2 := by rw [en]; exact v_wide_ok n
 have vn:v_dvl p0.2 = n.natAbs := by rw [en]; exact v_wide_val n
 have s0:p0.1 = n.sign := by rw [en]; rfl
 have small:∀ j,0≤v_dvl (p0.2.drop j)∧v_dvl (p0.2.drop j) < 1000000000000000000 := fun j => by
  have h1 := v_val_nn (v_dgok_drop d0 j)
  have h2 := v_val_lt (v_dgok_drop d0 j)
  have h3 := v_pow_le (show (p0.2.drop j).length≤2 by rw [List.length_drop]; omega)
  rw [show v_pow 2 = 1000000000000000000 from by decide] at h3
  omega
 rw [wrap_id (n := (p0.2.length:Int) - 1) (by omega) (by omega),wn]
 refine @down_is Int (Int×Int) (Int×Bool) (0,false) (st_Zk_0 p0) (sp_Zk_0 p0) (fun i t => (i,t)) p0.2.length (fun j t => t = v_dvl (p0.2.drop j)) (fun _ _ => (n,true)) (by omega) ?_ ?_ 0 (by rw [List.drop_length]; rfl)
 ·rintro t rfl
  simp only [sp_Zk_0,st_Zk_0,fM,show decide ((-1:Int) ≥ 0)=false from rfl,cond_false,List.drop_zero]
  refine ⟨⟨fun h => (by cases h),fun h => (by cases h),by simp⟩,?_⟩
  have := small 0
  rw [List.drop_zero] at this
  rw [s0,vn,v_sign_abs,wrap_id (n := n) (by omega) (by omega)]
 ·rintro j t hj rfl
  have hd := v_dgok_get d0 j
  have h1 := small (j + 1)
  have h2 := small j
  have e:v_dvl (p0.2.drop j)=p0.2.getD j 0 + 1000000000 * v_dvl (p0.2.drop (j + 1)) := by rw [drop_getD 0 hj]; rfl
  simp only [sp_Zk_0,st_Zk_0,fM,show decide ((j:Int) ≥ 0)=true from decide_eq_true (by omega),cond_true,Int.toNat_natCast]
  refine ⟨⟨fun _ => by omega,fun _ => by omega,by simp⟩,.inl ⟨v_dvl (p0.2.drop j),?_,rfl,trivial⟩⟩
  rw [w_add_l,wrap_id (n := (j:Int) - 1) (by omega) (by omega),e,wrap_id (n := v_dvl (p0.2.drop (j + 1)) * 1000000000 + p0.2.getD j 0) (by omega) (by omega)]
  congr 2
  omega
abbrev t_Zk (p0:Int×List Int):Int×Bool := v_wint (v_wval p0)
abbrev qre_Zk (p0:Int×List Int):List Prop := [v_wok p0]
theorem pp_Zk (p0:Int×List Int) (hq:∀ p∈qre_Zk p0,p):∀ p∈pre_Zk p0,p := by
 obtain ⟨h,_⟩ := conj_of hq
 simp only [pre_Zk,fM]
 exact ⟨fun c => (l_Zk_0 p0 h (by have := of_decide_eq_false c; omega)).1,by simp⟩
theorem tt_Zk (p0:Int×List Int) (hq:∀ p∈qre_Zk p0,p):s_Zk p0 = t_Zk p0 := by
 obtain ⟨h,_⟩ := conj_of hq
 unfold s_Zk t_Zk v_wint
 obtain ⟨n,en,_⟩ := h.ex
 have wn:v_wval p0 = n := by rw [en,v_wval_wide]
 have hl:p0.2.length = v_dl n := by rw [en]; rfl
 rw [wn]
 rcases Nat.lt_or_ge 2 p0.2.length with c | c
 ·rw [decide_eq_true (show (p0.2.length:Int) > 2 by omega),cond_true]
  have h1:¬ n.natAbs < 1000000000000000000 := fun k => by
   have:v_dl n≤2 := v_digs_len (by rw [show v_pow 2 = 1000000000000000000 from by decide]; omega)
   omega
  rw [decide_eq_false h1,cond_false]
 ·have e := (l_Zk_0 p0 h c).2
  rw [decide_eq_false (show ¬ (p0.2.length:Int) > 2 by omega),cond_false,e,wn]
  have h1:n.natAbs < 1000000000000000000 := by
   have h2 := v_digs_high n.natAbs
   have h3 := v_pow_le (show (v_digs n.natAbs).length≤2 by unfold v_dl at hl; omega)
   rw [show v_pow 2 = 1000000000000000000 from by decide] at h3
   omega
  rw [decide_eq_true h1,cond_true]

abbrev con_Zk:Con := ⟨P_Zk,R_Zk,fun x => qre_Zk x,fun x => t_Zk x⟩
theorem ok_Zk:ConOk Tryz.prog 69 con_Zk := okG k_Zk e_Zk hC_Zk fun x hx => tf_of (w_Zk_eq x _) (d_Zk x _ (pp_Zk x hx) (tt_Zk x hx))
def C_Zw:Cons := [(70,[],con_Z14),(69,[],con_Zk),(88,[],con_Z16)]
theorem hC_Zw:ConsOk Tryz.prog C_Zw := cC ok_Z14 <| cC ok_Zk <| cC ok_Z16 <| ConsOk.nil
def w_Zw (p0:gD) (K:(Int×Int)→Prop):Prop := ((v_rok p0) ∧((v_wok (v_wide (v_flr (v_rv p0)))) ∧((v_rok p0) ∧((v_wok (v_wide (v_cel (v_rv p0)))) ∧(K ((v_wint (v_wval (v_wide (v_flr (v_rv p0))))).1,(v_wint (v_wval (v_wide (v_cel (v_rv p0))))).1))))))
theorem w_Zw_eq (p0:gD) (K:(Int×Int)→Prop):tfn F_Zw A_Zw C_Zw P_Zw R_Zw p0 K = w_Zw p0 K := by kernel_rfl
def s_Zw (p0:gD):(Int×Int) := ((v_wint (v_wval (v_wide (v_flr (v_rv p0))))).1,(v_wint (v_wval (v_wide (v_cel (v_rv p0))))).1)
abbrev pre_Zw (p0:gD):List Prop := [(v_rok p0),(v_wok (v_wide (v_flr (v_rv p0)))),(v_wok (v_wide (v_cel (v_rv p0))))]
theorem d_Zw (p0:gD) (K:(Int×Int)→Prop) (hp:∀ p∈pre_Zw p0,p) (h:K (s_Zw p0)):w_Zw p0 K := by
 unfold w_Zw
 unfold s_Zw at h
 obtain ⟨hp0,hp1,hp2,_⟩ := conj_of hp
 exact ⟨(hp0),(hp1),(hp0),(hp2),h⟩
abbrev t_Zw (p0:(Int×List Int)×(Int×List Int)):Int×Int := (v_flr (v_rv p0),v_cel (v_rv p0))
abbrev qre_Zw (p0:(Int×List Int)×(Int×List Int)):List Prop := [v_rok p0,-1000000000000000000 < v_flr (v_rv p0)∧v_flr (v_rv p0) < 1000000000000000000,-1000000000000000000 < v_cel (v_rv p0)∧v_cel (v_rv p0) < 1000000000000000000]
theorem pp_Zw (p0:(Int×List Int)×(Int×List Int)) (hq:∀ p∈qre_Zw p0,p):∀ p∈pre_Zw p0,p := by
 obtain ⟨h1,h2,h3,_⟩ := conj_of hq
 have g := h1
 obtain ⟨q,rfl,d1,d2⟩ := h1.ex
 have hn := v_dl_neg q.num
 have hv := v_dl_div (-q.num) (q.den:Int)
 have hv2 := v_dl_div q.num (q.den:Int)
 have hv3 := v_dl_neg ((-q.num) / (q.den:Int))
 simp only [pre_Zw,fM,v_rv_rat]
 exact ⟨g,v_wok_of (by unfold v_flr; omega),v_wok_of (by unfold v_cel; omega),by simp⟩
theorem tt_Zw (p0:(Int×List Int)×(Int×List Int)) (hq:∀ p∈qre_Zw p0,p):s_Zw p0 = t_Zw p0 := by
 obtain ⟨h1,h2,h3,_⟩ := conj_of hq
 unfold s_Zw t_Zw v_wint
 simp only [v_wval_wide]
 rw [decide_eq_true (by omega),decide_eq_true (by omega)]; rfl

abbrev con_Zw:Con := ⟨P_Zw,R_Zw,fun x => qre_Zw x,fun x => t_Zw x⟩
theorem ok_Zw:ConOk Tryz.prog 43 con_Zw := okG k_Zw e_Zw hC_Zw fun x hx => tf_of (w_Zw_eq x _) (d_Zw x _ (pp_Zw x hx) (tt_Zw x hx))
def C_Zx:Cons := [(66,[],con_Zg)]
theorem hC_Zx:ConsOk Tryz.prog C_Zx := cC ok_Zg <| ConsOk.nil
def w_Zx (p0:Int) (K:((Int×(List Int))×(Int×(List Int)))→Prop):Prop := ((v_fit p0) ∧((v_fit zz1) ∧(K ((v_wide p0),(v_wide zz1)))))
theorem w_Zx_eq (p0:Int) (K:((Int×(List Int))×(Int×(List Int)))→Prop):tfn F_Zx A_Zx C_Zx P_Zx R_Zx p0 K = w_Zx p0 K := by kernel_rfl
def s_Zx (p0:Int):((Int×(List Int))×(Int×(List Int))) := ((v_wide p0),(v_wide (1:Int)))
abbrev pre_Zx (p0:Int):List Prop := [(v_fit p0),(v_fit (1:Int))]
theorem d_Zx (p0:Int) (K:((Int×(List Int))×(Int×(List Int)))→Prop) (hp:∀ p∈pre_Zx p0,p) (h:K (s_Zx p0)):w_Zx p0 K := by
 unfold w_Zx
 unfold s_Zx at h
 obtain ⟨hp0,hp1,_⟩ := conj_of hp
 exact ⟨(hp0),(hp1),h⟩
abbrev t_Zx (p0:Int):(Int×List Int)×(Int×List Int) := v_rint p0
abbrev qre_Zx (p0:Int):List Prop := [v_fit p0]
theorem pp_Zx (p0:Int) (hq:∀ p∈qre_Zx p0,p):∀ p∈pre_Zx p0,p := by
 obtain ⟨h1,_⟩ := conj_of hq
 simp only [pre_Zx,fM]
 and_intros
 all_goals first
  | (intro p hp; cases hp; done)
  | (intros; assumption)
  | (intros; rw [v_wval_wide]; assumption)
  | (intros; apply v_wok_of; omega)
  | (intros; rw [v_wide_len]; omega)
  | omega
  | (unfold v_fit at *; omega)
theorem tt_Zx (p0:Int) (_hq:∀ p∈qre_Zx p0,p):s_Zx p0 = t_Zx p0 := by
 unfold s_Zx t_Zx
 rfl

abbrev con_Zx:Con := ⟨P_Zx,R_Zx,fun x => qre_Zx x,fun x => t_Zx x⟩
theorem ok_Zx:ConOk Tryz.prog 47 con_Zx := okG k_Zx e_Zx hC_Zx fun x hx => tf_of (w_Zx_eq x _) (d_Zx x _ (pp_Zx x hx) (tt_Zx x hx))
def C_Z13:Cons := [(67,[],con_Z9),(68,[],con_Zn)]
theorem hC_Z13:ConsOk Tryz.prog C_Z13 := cC ok_Z9 <| cC ok_Zn <| ConsOk.nil
def w_Z13 (p0:gD) (p1:gD) (K:((Int×(List Int))×(Int×(List Int)))→Prop):Prop := ((v_wok p0.1) ∧((v_wok p1.1) ∧((v_wok p0.2) ∧((v_wok p1.2) ∧((v_wok (v_wide ((v_wval p0.1) * (v_wval p1.1)))) ∧((v_wok (v_wide ((v_wval p0.2) * (v_wval p1.2)))) ∧(((List.length (v_wide ((v_wval p0.1) * (v_wval p1.1))).2)≤400000000000) ∧(((List.length (v_wide ((v_wval p0.2) * (v_wval p1.2))).2)≤400000000000) ∧(((v_wval (v_wide ((v_wval p0.2) * (v_wval p1.2)))) ≠ zz0) ∧(K (v_rmk (v_wval (v_wide ((v_wval p0.1) * (v_wval p1.1)))) (v_wval (v_wide ((v_wval p0.2) * (v_wval p1.2)))))))))))))))
theorem w_Z13_eq (p0:gD) (p1:gD) (K:((Int×(List Int))×(Int×(List Int)))→Prop):tfn F_Z13 A_Z13 C_Z13 P_Z13 R_Z13 (p0,p1) K = w_Z13 p0 p1 K := by kernel_rfl
def s_Z13 (p0:gD) (p1:gD):((Int×(List Int))×(Int×(List Int))) := (v_rmk (v_wval (v_wide ((v_wval p0.1) * (v_wval p1.1)))) (v_wval (v_wide ((v_wval p0.2) * (v_wval p1.2)))))
abbrev pre_Z13 (p0:gD) (p1:gD):List Prop := [(v_wok p0.1),(v_wok p1.1),(v_wok p0.2),(v_wok p1.2),(v_wok (v_wide ((v_wval p0.1) * (v_wval p1.1)))),(v_wok (v_wide ((v_wval p0.2) * (v_wval p1.2)))),((List.length (v_wide ((v_wval p0.1) * (v_wval p1.1))).2)≤400000000000),((List.length (v_wide ((v_wval p0.2) * (v_wval p1.2))).2)≤400000000000),((v_wval (v_wide ((v_wval p0.2) * (v_wval p1.2)))) ≠ (0:Int))]
theorem d_Z13 (p0:gD) (p1:gD) (K:((Int×(List Int))×(Int×(List Int)))→Prop) (hp:∀ p∈pre_Z13 p0 p1,p) (h:K (s_Z13 p0 p1)):w_Z13 p0 p1 K := by
 unfold w_Z13
 unfold s_Z13 at h
 obtain ⟨hp0,hp1,hp2,hp3,hp4,hp5,hp6,hp7,hp8,_⟩ := conj_of hp
 exact ⟨(hp0),(hp1),(hp2),(hp3),(hp4),(hp5),(hp6),(hp7),(hp8),h⟩
abbrev t_Z13 (p0:(Int×List Int)×(Int×List Int)) (p1:(Int×List Int)×(Int×List Int)):(Int×List Int)×(Int×List Int) := v_rmul p0 p1
abbrev qre_Z13 (p0:(Int×List Int)×(Int×List Int)) (p1:(Int×List Int)×(Int×List Int)):List Prop := [v_rok p0,v_rok p1]
theorem pp_Z13 (p0:(Int×List Int)×(Int×List Int)) (p1:(Int×List Int)×(Int×List Int)) (hq:∀ p∈qre_Z13 p0 p1,p):∀ p∈pre_Z13 p0 p1,p := by
 obtain ⟨h1,h2,_⟩ := conj_of hq
 obtain ⟨p,rfl,a1,a2⟩ := h1.ex
 obtain ⟨q,rfl,b1,b2⟩ := h2.ex
 have m3 := v_dl_mul p.num q.num
 have m4 := v_dl_mul p.den q.den
 have hne:(p.den:Int) * (q.den:Int) ≠ 0 := Int.mul_ne_zero (v_den_ne p) (v_den_ne q)
 simp only [pre_Z13,fM,v_rat_1,v_rat_2,v_wval_wide]
 and_intros
 all_goals first
  | (intro p hp; cases hp; done)
  | (intros; assumption)
  | (intros; rw [v_wval_wide]; assumption)
  | (intros; apply v_wok_of; omega)
  | (intros; rw [v_wide_len]; omega)
  | omega
  | (unfold v_fit at *; omega)
theorem tt_Z13 (p0:(Int×List Int)×(Int×List Int)) (p1:(Int×List Int)×(Int×List Int)) (hq:∀ p∈qre_Z13 p0 p1,p):s_Z13 p0 p1 = t_Z13 p0 p1 := by
 obtain ⟨h1,h2,_⟩ := conj_of hq
 obtain ⟨p,rfl,a1,a2⟩ := h1.ex
 obtain ⟨q,rfl,b1,b2⟩ := h2.ex
 unfold s_Z13 t_Z13 v_rmul v_rmk
 simp only [v_rat_1,v_rat_2,v_rv_rat,v_wval_wide]
 rw [v_qmul]

abbrev con_Z13:Con := ⟨P_Z13,R_Z13,fun x => qre_Z13 x.1 x.2,fun x => t_Z13 x.1 x.2⟩
theorem ok_Z13:ConOk Tryz.prog 71 con_Z13 := okG k_Z13 e_Z13 hC_Z13 fun x hx => tf_of (w_Z13_eq x.1 x.2 _) (d_Z13 x.1 x.2 _ (pp_Z13 x.1 x.2 hx) (tt_Z13 x.1 x.2 hx))
def C_Zz:Cons := [(67,[],con_Z9),(73,[],con_Zy),(68,[],con_Zn)]
theorem hC_Zz:ConsOk Tryz.prog C_Zz := cC ok_Z9 <| cC ok_Zy <| cC ok_Zn <| ConsOk.nil
def w_Zz (p0:gD) (p1:gD) (K:((Int×(List Int))×(Int×(List Int)))→Prop):Prop := ((v_wok p0.1) ∧((v_wok p1.2) ∧((v_wok p1.1) ∧((v_wok p0.2) ∧((v_wok (v_wide ((v_wval p0.1) * (v_wval p1.2)))) ∧((v_wok (v_wide ((v_wval p1.1) * (v_wval p0.2)))) ∧((v_wok p0.2) ∧((v_wok p1.2) ∧((v_wok (v_wide ((v_wval (v_wide ((v_wval p0.1) * (v_wval p1.2)))) + (v_wval (v_wide ((v_wval p1.1) * (v_wval p0.2))))))) ∧((v_wok (v_wide ((v_wval p0.2) * (v_wval p1.2)))) ∧(((List.length (v_wide ((v_wval (v_wide ((v_wval p0.1) * (v_wval p1.2)))) + (v_wval (v_wide ((v_wval p1.1) * (v_wval p0.2)))))).2)≤400000000000) ∧(((List.length (v_wide ((v_wval p0.2) * (v_wval p1.2))).2)≤400000000000) ∧(((v_wval (v_wide ((v_wval p0.2) * (v_wval p1.2)))) ≠ zz0) ∧(K (v_rmk (v_wval (v_wide ((v_wval (v_wide ((v_wval p0.1) * (v_wval p1.2)))) + (v_wval (v_wide ((v_wval p1.1) * (v_wval p0.2))))))) (v_wval (v_wide ((v_wval p0.2) * (v_wval p1.2)))))))))))))))))))
theorem w_Zz_eq (p0:gD) (p1:gD) (K:((Int×(List Int))×(Int×(List Int)))→Prop):tfn F_Zz A_Zz C_Zz P_Zz R_Zz (p0,p1) K = w_Zz p0 p1 K := by kernel_rfl
def s_Zz (p0:gD) (p1:gD):((Int×(List Int))×(Int×(List Int))) := (v_rmk (v_wval (v_wide ((v_wval (v_wide ((v_wval p0.1) * (v_wval p1.2)))) + (v_wval (v_wide ((v_wval p1.1) * (v_wval p0.2))))))) (v_wval (v_wide ((v_wval p0.2) * (v_wval p1.2)))))
abbrev pre_Zz (p0:gD) (p1:gD):List Prop := [(v_wok p0.1),(v_wok p1.2),(v_wok p1.1),(v_wok p0.2),(v_wok (v_wide ((v_wval p0.1) * (v_wval p1.2)))),(v_wok (v_wide ((v_wval p1.1) * (v_wval p0.2)))),(v_wok (v_wide ((v_wval (v_wide ((v_wval p0.1) * (v_wval p1.2)))) + (v_wval (v_wide ((v_wval p1.1) * (v_wval p0.2))))))),(v_wok (v_wide ((v_wval p0.2) * (v_wval p1.2)))),((List.length (v_wide ((v_wval (v_wide ((v_wval p0.1) * (v_wval p1.2)))) + (v_wval (v_wide ((v_wval p1.1) * (v_wval p0.2)))))).2)≤400000000000),((List.length (v_wide ((v_wval p0.2) * (v_wval p1.2))).2)≤400000000000),((v_wval (v_wide ((v_wval p0.2) * (v_wval p1.2)))) ≠ (0:Int))]
theorem d_Zz (p0:gD) (p1:gD) (K:((Int×(List Int))×(Int×(List Int)))→Prop) (hp:∀ p∈pre_Zz p0 p1,p) (h:K (s_Zz p0 p1)):w_Zz p0 p1 K := by
 unfold w_Zz
 unfold s_Zz at h
 obtain ⟨hp0,hp1,hp2,hp3,hp4,hp5,hp6,hp7,hp8,hp9,hp10,_⟩ := conj_of hp
 exact ⟨(hp0),(hp1),(hp2),(hp3),(hp4),(hp5),(hp3),(hp1),(hp6),(hp7),(hp8),(hp9),(hp10),h⟩
abbrev t_Zz (p0:(Int×List Int)×(Int×List Int)) (p1:(Int×List Int)×(Int×List Int)):(Int×List Int)×(Int×List Int) := v_radd p0 p1
abbrev qre_Zz (p0:(Int×List Int)×(Int×List Int)) (p1:(Int×List Int)×(Int×List Int)):List Prop := [v_rok p0,v_rok p1]
theorem pp_Zz (p0:(Int×List Int)×(Int×List Int)) (p1:(Int×List Int)×(Int×List Int)) (hq:∀ p∈qre_Zz p0 p1,p):∀ p∈pre_Zz p0 p1,p := by
 obtain ⟨h1,h2,_⟩ := conj_of hq
 obtain ⟨p,rfl,a1,a2⟩ := h1.ex
 obtain ⟨q,rfl,b1,b2⟩ := h2.ex
 have m1 := v_dl_mul p.num q.den
 have m2 := v_dl_mul q.num p.den
 have m3 := v_dl_add (p.num * q.den) (q.num * p.den)
 have m4 := v_dl_mul p.den q.den
 have hne:(p.den:Int) * (q.den:Int) ≠ 0 := Int.mul_ne_zero (v_den_ne p) (v_den_ne q)
 simp only [pre_Zz,fM,v_rat_1,v_rat_2,v_wval_wide]
 and_intros
 all_goals first
  | (intro p hp; cases hp; done)
  | (intros; assumption)
  | (intros; rw [v_wval_wide]; assumption)
  | (intros; apply v_wok_of; omega)
  | (intros; rw [v_wide_len]; omega)
  | omega
  | (unfold v_fit at *; omega)
theorem tt_Zz (p0:(Int×List Int)×(Int×List Int)) (p1:(Int×List Int)×(Int×List Int)) (hq:∀ p∈qre_Zz p0 p1,p):s_Zz p0 p1 = t_Zz p0 p1 := by
 obtain ⟨h1,h2,_⟩ := conj_of hq
 obtain ⟨p,rfl,a1,a2⟩ := h1.ex
 obtain ⟨q,rfl,b1,b2⟩ := h2.ex
 unfold s_Zz t_Zz v_radd v_rmk
 simp only [v_rat_1,v_rat_2,v_rv_rat,v_wval_wide]
 rw [v_qadd]

abbrev con_Zz:Con := ⟨P_Zz,R_Zz,fun x => qre_Zz x.1 x.2,fun x => t_Zz x.1 x.2⟩
theorem ok_Zz:ConOk Tryz.prog 90 con_Zz := okG k_Zz e_Zz hC_Zz fun x hx => tf_of (w_Zz_eq x.1 x.2 _) (d_Zz x.1 x.2 _ (pp_Zz x.1 x.2 hx) (tt_Zz x.1 x.2 hx))
def C_Zj:Cons := [(47,[],con_Zx),(89,[],con_Z15),(71,[],con_Z13),(90,[],con_Zz)]
theorem hC_Zj:ConsOk Tryz.prog C_Zj := cC ok_Zx <| cC ok_Z15 <| cC ok_Z13 <| cC ok_Zz <| ConsOk.nil
def w_Zj (p0:(Int×(List (Int×Int)))) (p1:Int) (K:((Int×(List Int))×(Int×(List Int)))→Prop):Prop := (∃ n0,(loopP (fun (y1:Int) k2 => ((zz0≤y1) ∧((y1 < (p0.2.length:Int)) ∧((((decide ((p0.2.getD y1.toNat (zz0,zz0)).1 < p1))=true) →(k2 (IntKind.i64.wrap (y1 + 1)))) ∧(((decide ((p0.2.getD y1.toNat (zz0,zz0)).1 < p1))=false) →((zz0≤(IntKind.i64.wrap (y1 - 1))) ∧(((IntKind.i64.wrap (y1 - 1)) < (p0.2.length:Int)) ∧((zz0≤y1) ∧((y1 < (p0.2.length:Int)) ∧((v_fit (IntKind.i64.wrap ((p0.2.getD y1.toNat (zz0,zz0)).2 - (p0.2.getD (Int.toNat (IntKind.i64.wrap (y1 - 1))) (zz0,zz0)).2))) ∧((v_fit (IntKind.i64.wrap (p1 - (p0.2.getD (Int.toNat (IntKind.i64.wrap (y1 - 1))) (zz0,zz0)).1))) ∧((v_fit (IntKind.i64.wrap ((p0.2.getD y1.toNat (zz0,zz0)).1 - (p0.2.getD (Int.toNat (IntKind.i64.wrap (y1 - 1))) (zz0,zz0)).1))) ∧(((IntKind.i64.wrap ((p0.2.getD y1.toNat (zz0,zz0)).1 - (p0.2.getD (Int.toNat (IntKind.i64.wrap (y1 - 1))) (zz0,zz0)).1)) ≠ zz0) ∧((v_rok (v_rint (IntKind.i64.wrap ((p0.2.getD y1.toNat (zz0,zz0)).2 - (p0.2.getD (Int.toNat (IntKind.i64.wrap (y1 - 1))) (zz0,zz0)).2)))) ∧((v_rok (v_rmk (IntKind.i64.wrap (p1 - (p0.2.getD (Int.toNat (IntKind.i64.wrap (y1 - 1))) (zz0,zz0)).1)) (IntKind.i64.wrap ((p0.2.getD y1.toNat (zz0,zz0)).1 - (p0.2.getD (Int.toNat (IntKind.i64.wrap (y1 - 1))) (zz0,zz0)).1)))) ∧((v_fit (IntKind.i64.wrap ((p0.2.getD (Int.toNat (IntKind.i64.wrap (y1 - 1))) (zz0,zz0)).2 - p0.1))) ∧((v_rok (v_rmul (v_rint (IntKind.i64.wrap ((p0.2.getD y1.toNat (zz0,zz0)).2 - (p0.2.getD (Int.toNat (IntKind.i64.wrap (y1 - 1))) (zz0,zz0)).2))) (v_rmk (IntKind.i64.wrap (p1 - (p0.2.getD (Int.toNat (IntKind.i64.wrap (y1 - 1))) (zz0,zz0)).1)) (IntKind.i64.wrap ((p0.2.getD y1.toNat (zz0,zz0)).1 - (p0.2.getD (Int.toNat (IntKind.i64.wrap (y1 - 1))) (zz0,zz0)).1))))) ∧((v_rok (v_rint (IntKind.i64.wrap ((p0.2.getD (Int.toNat (IntKind.i64.wrap (y1 - 1))) (zz0,zz0)).2 - p0.1)))) ∧(K (v_radd (v_rmul (v_rint (IntKind.i64.wrap ((p0.2.getD y1.toNat (zz0,zz0)).2 - (p0.2.getD (Int.toNat (IntKind.i64.wrap (y1 - 1))) (zz0,zz0)).2))) (v_rmk (IntKind.i64.wrap (p1 - (p0.2.getD (Int.toNat (IntKind.i64.wrap (y1 - 1))) (zz0,zz0)).1)) (IntKind.i64.wrap ((p0.2.getD y1.toNat (zz0,zz0)).1 - (p0.2.getD (Int.toNat (IntKind.i64.wrap (y1 - 1))) (zz0,zz0)).1)))) (v_rint (IntKind.i64.wrap ((p0.2.getD (Int.toNat (IntKind.i64.wrap (y1 - 1))) (zz0,zz0)).2 - p0.1))))))))))))))))))))))) n0 zz1))
theorem w_Zj_eq (p0:(Int×(List (Int×Int)))) (p1:Int) (K:((Int×(List Int))×(Int×(List Int)))→Prop):tfn F_Zj A_Zj C_Zj P_Zj R_Zj (p0,p1) K = w_Zj p0 p1 K := by kernel_rfl
def st_Zj_0 (p0:(Int×(List (Int×Int)))) (p1:Int) (y0:Int):Int ⊕ ((Int×(List Int))×(Int×(List Int))) := (cond (decide ((p0.2.getD y0.toNat (0,0)).1 < p1)) (Sum.inl (IntKind.i64.wrap (y0 + 1))) (Sum.inr (v_radd (v_rmul (v_rint (IntKind.i64.wrap ((p0.2.getD y0.toNat (0,0)).2 - (p0.2.getD (Int.toNat (IntKind.i64.wrap (y0 - 1))) (0,0)).2))) (v_rmk (IntKind.i64.wrap (p1 - (p0.2.getD (Int.toNat (IntKind.i64.wrap (y0 - 1))) (0,0)).1)) (IntKind.i64.wrap ((p0.2.getD y0.toNat (0,0)).1 - (p0.2.getD (Int.toNat (IntKind.i64.wrap (y0 - 1))) (0,0)).1)))) (v_rint (IntKind.i64.wrap ((p0.2.getD (Int.toNat (IntKind.i64.wrap (y0 - 1))) (0,0)).2 - p0.1))))))
abbrev sp_Zj_0 (p0:(Int×(List (Int×Int)))) (p1:Int) (y0:Int):List Prop := [((0:Int)≤y0),(y0 < (p0.2.length:Int)),(((decide ((p0.2.getD y0.toNat (0,0)).1 < p1))=false)→((0:Int)≤(IntKind.i64.wrap (y0 - 1)))),(((decide ((p0.2.getD y0.toNat (0,0)).1 < p1))=false)→((IntKind.i64.wrap (y0 - 1)) < (p0.2.length:Int))),(((decide ((p0.2.getD y0.toNat (0,0)).1 < p1))=false)→((0:Int)≤y0)),(((decide ((p0.2.getD y0.toNat (0,0)).1 < p1))=false)→(y0 < (p0.2.length:Int))),(((decide ((p0.2.getD y0.toNat (0,0)).1 < p1))=false)→(v_fit (IntKind.i64.wrap ((p0.2.getD y0.toNat (0,0)).2 - (p0.2.getD (Int.toNat (IntKind.i64.wrap (y0 - 1))) (0,0)).2)))),(((decide ((p0.2.getD y0.toNat (0,0)).1 < p1))=false)→(v_fit (IntKind.i64.wrap (p1 - (p0.2.getD (Int.toNat (IntKind.i64.wrap (y0 - 1))) (0,0)).1)))),(((decide ((p0.2.getD y0.toNat (0,0)).1 < p1))=false)→(v_fit (IntKind.i64.wrap ((p0.2.getD y0.toNat (0,0)).1 - (p0.2.getD (Int.toNat (IntKind.i64.wrap (y0 - 1))) (0,0)).1)))),(((decide ((p0.2.getD y0.toNat (0,0)).1 < p1))=false)→((IntKind.i64.wrap ((p0.2.getD y0.toNat (0,0)).1 - (p0.2.getD (Int.toNat (IntKind.i64.wrap (y0 - 1))) (0,0)).1)) ≠ (0:Int))),(((decide ((p0.2.getD y0.toNat (0,0)).1 < p1))=false)→(v_rok (v_rint (IntKind.i64.wrap ((p0.2.getD y0.toNat (0,0)).2 - (p0.2.getD (Int.toNat (IntKind.i64.wrap (y0 - 1))) (0,0)).2))))),(((decide ((p0.2.getD y0.toNat (0,0)).1 < p1))=false)→(v_rok (v_rmk (IntKind.i64.wrap (p1 - (p0.2.getD (Int.toNat (IntKind.i64.wrap (y0 - 1))) (0,0)).1)) (IntKind.i64.wrap ((p0.2.getD y0.toNat (0,0)).1 - (p0.2.getD (Int.toNat (IntKind.i64.wrap (y0 - 1))) (0,0)).1))))),(((decide ((p0.2.getD y0.toNat (0,0)).1 < p1))=false)→(v_fit (IntKind.i64.wrap ((p0.2.getD (Int.toNat (IntKind.i64.wrap (y0 - 1))) (0,0)).2 - p0.1)))),(((decide ((p0.2.getD y0.toNat (0,0)).1 < p1))=false)→(v_rok (v_rmul (v_rint (IntKind.i64.wrap ((p0.2.getD y0.toNat (0,0)).2 - (p0.2.getD (Int.toNat (IntKind.i64.wrap (y0 - 1))) (0,0)).2))) (v_rmk (IntKind.i64.wrap (p1 - (p0.2.getD (Int.toNat (IntKind.i64.wrap (y0 - 1))) (0,0)).1)) (IntKind.i64.wrap ((p0.2.getD y0.toNat (0,0)).1 - (p0.2.getD (Int.toNat (IntKind.i64.wrap (y0 - 1))) (0,0)).1)))))),(((decide ((p0.2.getD y0.toNat (0,0)).1 < p1))=false)→(v_rok (v_rint (IntKind.i64.wrap ((p0.2.getD (Int.toNat (IntKind.i64.wrap (y0 - 1))) (0,0)).2 - p0.1)))))]
def s_Zj (p0:(Int×(List (Int×Int)))) (p1:Int):((Int×(List Int))×(Int×(List Int))) := (lpv (((0:Int),[]),((0:Int),[])) (st_Zj_0 p0 p1) (1:Int))
abbrev pre_Zj (p0:(Int×(List (Int×Int)))) (p1:Int):List Prop := [(OkL (st_Zj_0 p0 p1) (sp_Zj_0 p0 p1) (1:Int))]
theorem d_Zj (p0:(Int×(List (Int×Int)))) (p1:Int) (K:((Int×(List Int))×(Int×(List Int)))→Prop) (hp:∀ p∈pre_Zj p0 p1,p) (h:K (s_Zj p0 p1)):w_Zj p0 p1 K := by
 unfold w_Zj
 unfold s_Zj at h
 obtain ⟨hp0,_⟩ := conj_of hp
 exact (loop_gen (hp0) h (fun y0 k0 hp h => by
 unfold st_Zj_0 at h; obtain ⟨hp0,hp1,hp2,hp3,hp4,hp5,hp6,hp7,hp8,hp9,hp10,hp11,hp12,hp13,hp14,_⟩ := conj_of hp
 exact ⟨(hp0),(hp1),(br' h (fun e1 h => h)
  (fun e1 h => ⟨(hp2 e1),(hp3 e1),(hp4 e1),(hp5 e1),(hp6 e1),(hp7 e1),(hp8 e1),(hp9 e1),(hp10 e1),(hp11 e1),(hp12 e1),(hp13 e1),(hp14 e1),h⟩))⟩))
/-- The daily change,exactly. -/
def v_chq (b:Int×List (Int×Int)) (t:Int):Rat := (v_cn b t:Rat) / (v_cd b t:Rat)
theorem v_qf {a x d e:Rat} (h:d ≠ 0):a * (x / d) + e = (e * d + a * x) / d := by grind
theorem l_Zj_0 (p0:Int×List (Int×Int)) (p1:Int) (h:v_bok p0) (hw:v_iw p0 p1 = true):OkL (st_Zj_0 p0 p1) (sp_Zj_0 p0 p1) 1∧lpv ((0,[]),(0,[])) (st_Zj_0 p0 p1) 1 = v_rat (v_chq p0 p1) := by
 have c := v_chb_of h hw
 have ci := c.i
 have hl := h.len
 have hd0 := h.d
 refine @for_is Unit Int ((Int×List Int)×(Int×List Int)) ((0,[]),(0,[])) (st_Zj_0 p0 p1) (sp_Zj_0 p0 p1) (fun i _ => i) 1 (v_pi p0 p1) (fun _ _ => True) (fun _ _ => v_rat (v_chq p0 p1)) (by omega) (by omega) ?_ ?_ () trivial
 ·intro t _
  have cw := c.w
  have cd := c.d
  have o1 := h.ok _ ci.2
  have o2 := h.ok (v_pi p0 p1 - 1) (by omega)
  have w1:IntKind.i64.wrap ((v_pi p0 p1:Int) - 1)=((v_pi p0 p1 - 1:Nat):Int) := by rw [wrap_id (by omega) (by omega)]; omega
  have hn:decide ((p0.2.getD (v_pi p0 p1) (0,0)).1 < p1)=false := decide_eq_false (by omega)
  have e:v_chq p0 p1 = (((p0.2.getD (v_pi p0 p1) (0,0)).2 - (p0.2.getD (v_pi p0 p1 - 1) (0,0)).2:Int):Rat) * (((p1 - (p0.2.getD (v_pi p0 p1 - 1) (0,0)).1:Int):Rat) / (((p0.2.getD (v_pi p0 p1) (0,0)).1 - (p0.2.getD (v_pi p0 p1 - 1) (0,0)).1:Int):Rat)) + (((p0.2.getD (v_pi p0 p1 - 1) (0,0)).2 - p0.1:Int):Rat) := by
   unfold v_chq v_cn
   have hz := v_rcast_ne (show v_cd p0 p1 ≠ 0 by omega)
   rw [Rat.intCast_add,Rat.intCast_mul,Rat.intCast_mul]
   rw [show ((p0.2.getD (v_pi p0 p1) (0,0)).1 - (p0.2.getD (v_pi p0 p1 - 1) (0,0)).1)=v_cd p0 p1 from rfl]
   exact (v_qf hz).symm
  rw [e]
  simp only [sp_Zj_0,st_Zj_0,fM,Int.toNat_natCast,hn,w1,cond_false]
  unfold v_cd at cd
  generalize p0.2.getD (v_pi p0 p1) (0,0)=q at *
  generalize p0.2.getD (v_pi p0 p1 - 1) (0,0)=p at *
  have b1:v_rb 200000 ((q.2 - p.2:Int):Rat) := v_rb_int (by omega) (by omega)
  have b2:v_rb 1000000000000 (((p1 - p.1:Int):Rat) / ((q.1 - p.1:Int):Rat)) := v_rb_div (by omega) (by omega) (by omega)
  have b3:v_rb 200000 ((p.2 - p0.1:Int):Rat) := v_rb_int (by omega) (by omega)
  rw [wrap_id (n := q.2 - p.2) (by omega) (by omega),wrap_id (n := p1 - p.1) (by omega) (by omega),wrap_id (n := q.1 - p.1) (by omega) (by omega),wrap_id (n := p.2 - p0.1) (by omega) (by omega)]
  refine ⟨⟨by omega,by omega,fun _ => (by omega),fun _ => (by omega),fun _ => (by omega),fun _ => (by omega),fun _ => (by unfold v_fit; omega),fun _ => (by unfold v_fit; omega),fun _ => (by unfold v_fit; omega),fun _ => (by omega),fun _ => b1.ok (by decide),fun _ => b2.ok (by decide),fun _ => (by unfold v_fit; omega),fun _ => ?_,fun _ => b3.ok (by decide),fun p hp => by cases hp⟩,?_⟩
  ·unfold v_rmul v_rint v_rmk
   rw [v_rv_rat,v_rv_rat]
   exact (v_rb_mul b1 b2).ok (by decide)
  ·unfold v_radd v_rmul v_rint v_rmk
   rw [v_rv_rat,v_rv_rat,v_rv_rat,v_rv_rat]
 ·intro j t h1 hj _
  have hw1:IntKind.i64.wrap ((j:Int) + 1)=((j + 1:Nat):Int) := wrap_id (by omega) (by omega)
  have hlt:(p0.2.getD j (0,0)).1 < p1 := v_pos_lt (by unfold v_pi at hj; omega)
  simp only [sp_Zj_0,st_Zj_0,fM,Int.toNat_natCast,decide_eq_true hlt,hw1,cond_true]
  refine ⟨?_,.inl ⟨(),by first | rfl | trivial,trivial,by first | rfl | trivial⟩⟩
  and_intros
  all_goals first
   | (intro p hp; cases hp; done)
   | (intro h; cases h; done)
   | omega
abbrev t_Zj (p0:Int×List (Int×Int)) (p1:Int):(Int×List Int)×(Int×List Int) := v_rat (v_chq p0 p1)
abbrev qre_Zj (p0:Int×List (Int×Int)) (p1:Int):List Prop := [v_bok p0,v_iw p0 p1 = true]
theorem pp_Zj (p0:Int×List (Int×Int)) (p1:Int) (hq:∀ p∈qre_Zj p0 p1,p):∀ p∈pre_Zj p0 p1,p := by
 obtain ⟨h1,h2,_⟩ := conj_of hq
 simp only [pre_Zj,fM]
 exact ⟨(l_Zj_0 p0 p1 h1 h2).1,by simp⟩
theorem tt_Zj (p0:Int×List (Int×Int)) (p1:Int) (hq:∀ p∈qre_Zj p0 p1,p):s_Zj p0 p1 = t_Zj p0 p1 := by
 obtain ⟨h1,h2,_⟩ := conj_of hq
 exact (l_Zj_0 p0 p1 h1 h2).2

abbrev con_Zj:Con := ⟨P_Zj,R_Zj,fun x => qre_Zj x.1 x.2,fun x => t_Zj x.1 x.2⟩
theorem ok_Zj:ConOk Tryz.prog 44 con_Zj := okG k_Zj e_Zj hC_Zj fun x hx => tf_of (w_Zj_eq x.1 x.2 _) (d_Zj x.1 x.2 _ (pp_Zj x.1 x.2 hx) (tt_Zj x.1 x.2 hx))
def C_Z11:Cons := [(44,[],con_Zj),(43,[],con_Zw)]
theorem hC_Z11:ConsOk Tryz.prog C_Z11 := cC ok_Zj <| cC ok_Zw <| ConsOk.nil
def w_Z11 (p0:(Int×(List (Int×Int)))) (p1:Int) (K:(Int×Int)→Prop):Prop := ((v_bok p0) ∧(((v_iw p0 p1)=true) ∧((v_rok (v_rat (v_chq p0 p1))) ∧((((-1000000000000000000:Int) < (v_flr (v_rv (v_rat (v_chq p0 p1))))) ∧((v_flr (v_rv (v_rat (v_chq p0 p1)))) < 1000000000000000000)) ∧((((-1000000000000000000:Int) < (v_cel (v_rv (v_rat (v_chq p0 p1))))) ∧((v_cel (v_rv (v_rat (v_chq p0 p1)))) < 1000000000000000000)) ∧(K ((v_flr (v_rv (v_rat (v_chq p0 p1)))),(v_cel (v_rv (v_rat (v_chq p0 p1)))))))))))
theorem w_Z11_eq (p0:(Int×(List (Int×Int)))) (p1:Int) (K:(Int×Int)→Prop):tfn F_Z11 A_Z11 C_Z11 P_Z11 R_Z11 (p0,p1) K = w_Z11 p0 p1 K := by kernel_rfl
def s_Z11 (p0:(Int×(List (Int×Int)))) (p1:Int):(Int×Int) := ((v_flr (v_rv (v_rat (v_chq p0 p1)))),(v_cel (v_rv (v_rat (v_chq p0 p1)))))
abbrev pre_Z11 (p0:(Int×(List (Int×Int)))) (p1:Int):List Prop := [(v_bok p0),((v_iw p0 p1)=true),(v_rok (v_rat (v_chq p0 p1))),(((-1000000000000000000:Int) < (v_flr (v_rv (v_rat (v_chq p0 p1)))))∧((v_flr (v_rv (v_rat (v_chq p0 p1)))) < 1000000000000000000)),(((-1000000000000000000:Int) < (v_cel (v_rv (v_rat (v_chq p0 p1)))))∧((v_cel (v_rv (v_rat (v_chq p0 p1)))) < 1000000000000000000))]
theorem d_Z11 (p0:(Int×(List (Int×Int)))) (p1:Int) (K:(Int×Int)→Prop) (hp:∀ p∈pre_Z11 p0 p1,p) (h:K (s_Z11 p0 p1)):w_Z11 p0 p1 K := by
 unfold w_Z11
 unfold s_Z11 at h
 obtain ⟨hp0,hp1,hp2,hp3,hp4,_⟩ := conj_of hp
 exact ⟨(hp0),(hp1),(hp2),(hp3),(hp4),h⟩
theorem v_chq_rb {b:Int×List (Int×Int)} {t:Int} (h:v_chb b t):v_rb 400000000000000000 (v_chq b t) := by
 have d := h.d
 have n := h.n
 exact v_rb_div (by omega) (by omega) (by omega)
theorem v_chq_fc {b:Int×List (Int×Int)} {t:Int} (h:v_chb b t):(v_flr (v_chq b t),v_cel (v_chq b t))=v_chr b t := by
 have d := h.d
 unfold v_chr v_chq
 rw [v_flr_div d.1,v_cel_div d.1]
theorem v_nat_div {n d:Int} (h:n.natAbs < 1000000000000000000):(-1000000000000000000 < n / d∧n / d < 1000000000000000000)∧-1000000000000000000 < v_ceil n d∧v_ceil n d < 1000000000000000000 := by
 have a := Int.natAbs_ediv_le_natAbs n d
 have b := Int.natAbs_ediv_le_natAbs (-n) d
 unfold v_ceil
 omega
abbrev t_Z11 (p0:Int×List (Int×Int)) (p1:Int):Int×Int := v_chr p0 p1
abbrev qre_Z11 (p0:Int×List (Int×Int)) (p1:Int):List Prop := [v_bok p0,v_iw p0 p1 = true]
theorem pp_Z11 (p0:Int×List (Int×Int)) (p1:Int) (hq:∀ p∈qre_Z11 p0 p1,p):∀ p∈pre_Z11 p0 p1,p := by
 obtain ⟨h1,h2,_⟩ := conj_of hq
 have c := v_chb_of h1 h2
 have d := c.d
 have n := c.n
 obtain ⟨m1,m2⟩ := v_nat_div (n := v_cn p0 p1) (d := v_cd p0 p1) (by omega)
 simp only [pre_Z11,fM,v_rv_rat]
 refine ⟨h1,h2,(v_chq_rb c).ok (by decide),?_,?_,by simp⟩
 ·unfold v_chq; rw [v_flr_div d.1]; exact m1
 ·unfold v_chq; rw [v_cel_div d.1]; exact m2
theorem tt_Z11 (p0:Int×List (Int×Int)) (p1:Int) (hq:∀ p∈qre_Z11 p0 p1,p):s_Z11 p0 p1 = t_Z11 p0 p1 := by
 obtain ⟨h1,h2,_⟩ := conj_of hq
 unfold s_Z11 t_Z11
 rw [v_rv_rat]
 exact v_chq_fc (v_chb_of h1 h2)

abbrev con_Z11:Con := ⟨P_Z11,R_Z11,fun x => qre_Z11 x.1 x.2,fun x => t_Z11 x.1 x.2⟩
theorem ok_Z11:ConOk Tryz.prog 15 con_Z11 := okG k_Z11 e_Z11 hC_Z11 fun x hx => tf_of (w_Z11_eq x.1 x.2 _) (d_Z11 x.1 x.2 _ (pp_Z11 x.1 x.2 hx) (tt_Z11 x.1 x.2 hx))
def C_Z1s:Cons := [(45,[],con_Z4)]
theorem hC_Z1s:ConsOk Tryz.prog C_Z1s := cC ok_Z4 <| ConsOk.nil
def w_Z1s (p0:(List (Int×(Int×(Int×(Int×Int)))))) (K:Int→Prop):Prop := (K (v_cs p0).2)
theorem w_Z1s_eq (p0:(List (Int×(Int×(Int×(Int×Int)))))) (K:Int→Prop):tfn F_Z1s A_Z1s C_Z1s P_Z1s R_Z1s p0 K = w_Z1s p0 K := by kernel_rfl
def s_Z1s (p0:(List (Int×(Int×(Int×(Int×Int)))))):Int := (v_cs p0).2
abbrev pre_Z1s (_p0:(List (Int×(Int×(Int×(Int×Int)))))):List Prop := []
theorem d_Z1s (p0:(List (Int×(Int×(Int×(Int×Int)))))) (K:Int→Prop) (_hp:∀ p∈pre_Z1s p0,p) (h:K (s_Z1s p0)):w_Z1s p0 K := by
 unfold w_Z1s
 unfold s_Z1s at h
 exact h
abbrev con_Z1s:Con := ⟨P_Z1s,R_Z1s,fun x => pre_Z1s x,fun x => s_Z1s x⟩
theorem ok_Z1s:ConOk Tryz.prog 16 con_Z1s := okG k_Z1s e_Z1s hC_Z1s fun x hx => tf_of (w_Z1s_eq x _) (d_Z1s x _ hx rfl)
def C_Z17:Cons := [(104,[],con_Zo)]
theorem hC_Z17:ConsOk Tryz.prog C_Z17 := cC ok_Zo <| ConsOk.nil
def w_Z17 (p0:gD) (K:((Int×(List Int))×(Int×(List Int)))→Prop):Prop := ((v_wok p0.1) ∧(K ((v_wide (-(v_wval p0.1))),p0.2)))
theorem w_Z17_eq (p0:gD) (K:((Int×(List Int))×(Int×(List Int)))→Prop):tfn F_Z17 A_Z17 C_Z17 P_Z17 R_Z17 p0 K = w_Z17 p0 K := by kernel_rfl
def s_Z17 (p0:gD):((Int×(List Int))×(Int×(List Int))) := ((v_wide (-(v_wval p0.1))),p0.2)
abbrev pre_Z17 (p0:gD):List Prop := [(v_wok p0.1)]
theorem d_Z17 (p0:gD) (K:((Int×(List Int))×(Int×(List Int)))→Prop) (hp:∀ p∈pre_Z17 p0,p) (h:K (s_Z17 p0)):w_Z17 p0 K := by
 unfold w_Z17
 unfold s_Z17 at h
 obtain ⟨hp0,_⟩ := conj_of hp
 exact ⟨(hp0),h⟩
abbrev t_Z17 (p0:(Int×List Int)×(Int×List Int)):(Int×List Int)×(Int×List Int) := v_rneg p0
abbrev qre_Z17 (p0:(Int×List Int)×(Int×List Int)):List Prop := [v_rok p0]
theorem pp_Z17 (p0:(Int×List Int)×(Int×List Int)) (hq:∀ p∈qre_Z17 p0,p):∀ p∈pre_Z17 p0,p := by
 obtain ⟨h1,_⟩ := conj_of hq
 obtain ⟨q,rfl,d1,d2⟩ := h1.ex
 simp only [pre_Z17,fM,v_rat_1,v_rat_2]
 and_intros
 all_goals first
  | (intro p hp; cases hp; done)
  | (intros; assumption)
  | (intros; rw [v_wval_wide]; assumption)
  | (intros; apply v_wok_of; omega)
  | (intros; rw [v_wide_len]; omega)
  | omega
  | (unfold v_fit at *; omega)
theorem tt_Z17 (p0:(Int×List Int)×(Int×List Int)) (hq:∀ p∈qre_Z17 p0,p):s_Z17 p0 = t_Z17 p0 := by
 obtain ⟨h1,_⟩ := conj_of hq
 obtain ⟨q,rfl,d1,d2⟩ := h1.ex
 unfold s_Z17 t_Z17 v_rneg
 rw [v_rat_1,v_rat_2,v_rv_rat,v_wval_wide]
 unfold v_rat
 rw [Rat.neg_num,Rat.neg_den]

abbrev con_Z17:Con := ⟨P_Z17,R_Z17,fun x => qre_Z17 x,fun x => t_Z17 x⟩
theorem ok_Z17:ConOk Tryz.prog 92 con_Z17 := okG k_Z17 e_Z17 hC_Z17 fun x hx => tf_of (w_Z17_eq x _) (d_Z17 x _ (pp_Z17 x hx) (tt_Z17 x hx))
end Go.Proofs.YtdkhhafmidokmaaGreat
