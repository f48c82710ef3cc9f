/- What the functions that MagnetBest reaches compute: contracts, each function once. No condition. -/
import Derived.Test.YtcdbaepeabefnaaWalkMagnetBestB
import Derived.KernelRfl
namespace Go.Proofs.Ytcdbaepeabefnaa
open Go Go.Mx
set_option maxRecDepth 100000
set_option maxHeartbeats 4000000
def C_Zp:Cons := []
theorem jCC:jag Try.prog C_Zp := jag.nil
def w_Zp (p0:gF) (p1:gF) (K:Int→Prop):Prop := (((((p0.length:Int) != (p1.length:Int))=true) →((((decide ((p0.length:Int) < (p1.length:Int)))=true) →(K (-1:Int))) ∧(((decide ((p0.length:Int) < (p1.length:Int)))=false) →(K zz1)))) ∧((((p0.length:Int) != (p1.length:Int))=false) →(∃ n0,(jaX (fun (y1:Int) k2 => ((((decide (y1 ≥ 0))=true) →((zz0≤y1) ∧((y1 < (p0.length:Int)) ∧((zz0≤y1) ∧((y1 < (p1.length:Int)) ∧((((decide ((p0.getD y1.toNat zz0) < (p1.getD y1.toNat zz0)))=true) →(K (-1:Int))) ∧(((decide ((p0.getD y1.toNat zz0) < (p1.getD y1.toNat zz0)))=false) →((zz0≤y1) ∧((y1 < (p0.length:Int)) ∧((zz0≤y1) ∧((y1 < (p1.length:Int)) ∧((((decide ((p0.getD y1.toNat zz0) > (p1.getD y1.toNat zz0)))=true) →(K zz1)) ∧(((decide ((p0.getD y1.toNat zz0) > (p1.getD y1.toNat zz0)))=false) →(k2 (IntKind.i64.wrap (y1 - 1)))))))))))))))) ∧(((decide (y1 ≥ 0))=false) →(K zz0)))) n0 (IntKind.i64.wrap ((p0.length:Int) - 1))))))
theorem jCD (p0:gF) (p1:gF) (K:Int→Prop):tfn F_Zp A_Zp C_Zp P_Zp R_Zp (p0,p1) K = w_Zp p0 p1 K := by kernel_rfl
def jfb (p0:gF) (p1:gF) (y2:Int):Int ⊕ Int := (cond (decide (y2 ≥ 0)) (cond (decide ((p0.getD y2.toNat (0:Int)) < (p1.getD y2.toNat (0:Int)))) (Sum.inr (-1:Int)) (cond (decide ((p0.getD y2.toNat (0:Int)) > (p1.getD y2.toNat (0:Int)))) (Sum.inr (1:Int)) (Sum.inl (IntKind.i64.wrap (y2 - 1))))) (Sum.inr (0:Int)))
abbrev ji0 (p0:gF) (p1:gF) (y2:Int):List Prop := [(((decide (y2 ≥ 0))=true)→((0:Int)≤y2)),(((decide (y2 ≥ 0))=true)→(y2 < (p0.length:Int))),(((decide (y2 ≥ 0))=true)→(y2 < (p1.length:Int))),(((decide (y2 ≥ 0))=true)→(((decide ((p0.getD y2.toNat (0:Int)) < (p1.getD y2.toNat (0:Int))))=false)→((0:Int)≤y2))),(((decide (y2 ≥ 0))=true)→(((decide ((p0.getD y2.toNat (0:Int)) < (p1.getD y2.toNat (0:Int))))=false)→(y2 < (p0.length:Int)))),(((decide (y2 ≥ 0))=true)→(((decide ((p0.getD y2.toNat (0:Int)) < (p1.getD y2.toNat (0:Int))))=false)→(y2 < (p1.length:Int))))]
def s_Zp (p0:gF) (p1:gF):Int := (cond ((p0.length:Int) != (p1.length:Int)) (cond (decide ((p0.length:Int) < (p1.length:Int))) (-1:Int) (1:Int)) (lpv (0:Int) (jfb p0 p1) (IntKind.i64.wrap ((p0.length:Int) - 1))))
abbrev jmP (p0:gF) (p1:gF):List Prop := [((((p0.length:Int) != (p1.length:Int))=false)→(OkL (jfb p0 p1) (ji0 p0 p1) (IntKind.i64.wrap ((p0.length:Int) - 1))))]
theorem d_Zp (p0:gF) (p1:gF) (K:Int→Prop) (hp:∀ p∈jmP p0 p1,p) (h:K (s_Zp p0 p1)):w_Zp p0 p1 K := by
 unfold w_Zp
 unfold s_Zp at h
 obtain ⟨hp0,_⟩ := jah hp
 exact (br' h (fun e0 h => (br' h (fun e1 h => h)
  (fun e1 h => h)))
  (fun e0 h => (ja5 (hp0 e0) h (fun y2 k2 hp h => by
 unfold jfb at h; obtain ⟨hp0,hp1,hp2,hp3,hp4,hp5,_⟩ := jah hp
 exact (br' h (fun e3 h => ⟨(hp0 e3),(hp1 e3),(hp0 e3),(hp2 e3),(br' h (fun e4 h => h)
  (fun e4 h => ⟨(hp3 e3 e4),(hp4 e3 e4),(hp3 e3 e4),(hp5 e3 e4),(br' h (fun e5 h => h)
  (fun e5 h => h))⟩))⟩)
  (fun e3 h => h))))))
/-- Digits that are those of their number. -/
structure v_can (l:gF):Prop where
 eq:l = jay (jac l).toNat
 len:l.length≤1000000000000
theorem v_can.ok {l:List Int} (h:v_can l):jaE l := by rw [h.eq]; exact jgY _
theorem v_can.lt {a b:List Int} (ha:v_can a) (hb:v_can b) (h:a.length < b.length):jac a < jac b := by
 have h1 := jdO ha.ok
 have h2 := jdO hb.ok
 have := jsl (m := (jac a).toNat) (n := (jac b).toNat) (by rw [← ha.eq,← hb.eq]; exact h)
 omega
theorem jsu (p0 p1:gF) (h1:v_can p0) (h2:v_can p1) (hl:p0.length = p1.length):OkL (jfb p0 p1) (ji0 p0 p1) (IntKind.i64.wrap ((p0.length:Int) - 1))∧lpv (0:Int) (jfb p0 p1) (IntKind.i64.wrap ((p0.length:Int) - 1))=jaF (jac p0) (jac p1) := by
 have hlen := h1.len
 rw [jar (n := (p0.length:Int) - 1) (by omega) (by omega)]
 refine jCv (dd := (0:Int)) (fun i (_:Unit) => i) p0.length (fun j _ => p0.drop j = p1.drop j) (fun _ _ => jaF (jac p0) (jac p1)) (by omega) ?_ ?_ () (by rw [List.drop_length,hl,List.drop_length])
 ·intro _ h
  simp only [List.drop_zero] at h
  subst h
  simp only [ji0,jfb,fM,show decide ((-1:Int) ≥ 0)=false from rfl,cond_false]
  refine ⟨⟨fun h => (by cases h),fun h => (by cases h),fun h => (by cases h),fun h => (by cases h),fun h => (by cases h),fun h => (by cases h),by simp⟩,?_⟩
  unfold jaF
  rw [decide_eq_false (by omega)]; rfl
 ·intro j _ hj h
  have hj1:j < p1.length := by omega
  have hd:decide ((j:Int) ≥ 0)=true := decide_eq_true (by omega)
  have hw:IntKind.i64.wrap ((j:Int) - 1)=(j:Int) - 1 := jar (by omega) (by omega)
  simp only [ji0,jfb,fM,hd,cond_true,Int.toNat_natCast,hw]
  refine ⟨⟨fun _ => by omega,fun _ => by omega,fun _ => by omega,fun _ _ => by omega,fun _ _ => by omega,fun _ _ => by omega,by simp⟩,?_⟩
  rcases Int.lt_trichotomy (p0.getD j 0) (p1.getD j 0) with c | c | c
  ·right
   rw [decide_eq_true c,cond_true]
   have := jsp h1.ok h2.ok hj hj1 h c
   unfold jaF
   rw [decide_eq_true this]; rfl
  ·left
   rw [decide_eq_false (show ¬ p0.getD j 0 < p1.getD j 0 by omega),decide_eq_false (show ¬ p0.getD j 0 > p1.getD j 0 by omega),cond_false,cond_false]
   exact ⟨(),rfl,by rw [jdz 0 hj,jdz 0 hj1,h,c],trivial⟩
  ·right
   rw [decide_eq_false (show ¬ p0.getD j 0 < p1.getD j 0 by omega),decide_eq_true (show p0.getD j 0 > p1.getD j 0 from c),cond_true,cond_false]
   have := jsp h2.ok h1.ok hj1 hj h.symm c
   unfold jaF
   rw [decide_eq_false (show ¬ jac p0 < jac p1 by omega),decide_eq_true (show jac p0 > jac p1 from this)]; rfl
abbrev t_Zp (p0:gF) (p1:gF):Int := jaF (jac p0) (jac p1)
abbrev jmQ (p0:gF) (p1:gF):List Prop := [v_can p0,v_can p1]
theorem jCE (p0:gF) (p1:gF) (hq:∀ p∈jmQ p0 p1,p):∀ p∈jmP p0 p1,p := by
 obtain ⟨h1,h2,_⟩ := jah hq
 simp only [jmP,fM]
 exact ⟨fun h => (jsu p0 p1 h1 h2 (by simp at h; omega)).1,by simp⟩
theorem jCF (p0:gF) (p1:gF) (hq:∀ p∈jmQ p0 p1,p):s_Zp p0 p1 = t_Zp p0 p1 := by
 obtain ⟨h1,h2,_⟩ := jah hq
 unfold s_Zp t_Zp
 rcases Nat.lt_trichotomy p0.length p1.length with h | h | h
 ·rw [show ((p0.length:Int) != (p1.length:Int))=true from bne_iff_ne.2 (by omega),decide_eq_true (by omega)]
  have := h1.lt h2 h
  unfold jaF
  rw [decide_eq_true this]; rfl
 ·have e := (jsu p0 p1 h1 h2 h).2
  rw [e,h,bne_self_eq_false,cond_false]
 ·rw [show ((p0.length:Int) != (p1.length:Int))=true from bne_iff_ne.2 (by omega),decide_eq_false (by omega)]
  have := h2.lt h1 h
  unfold jaF
  rw [decide_eq_false (by omega),decide_eq_true (show jac p0 > jac p1 from this)]; rfl

abbrev jsv:Con := ⟨P_Zp,R_Zp,fun x => jmQ x.1 x.2,fun x => t_Zp x.1 x.2⟩
theorem jCG:jau Try.prog 71 jsv := okG k_Zp e_Zp jCC fun x hx => jaA (jCD x.1 x.2 _) (d_Zp x.1 x.2 _ (jCE x.1 x.2 hx) (jCF x.1 x.2 hx))
def C_Zx:Cons := [(89,[],jmO)]
theorem jCH:jag Try.prog C_Zx := cC jst <| jag.nil
def w_Zx (p0:Int) (p1:gF) (K:tQH→Prop):Prop := ((p1.length≤10000000000000) ∧(((((((jbt p1).length:Nat):Int) == 0)=true) →(K (zz0,(jbt p1)))) ∧((((((jbt p1).length:Nat):Int) == 0)=false) →(K (p0,(jbt p1))))))
theorem jCI (p0:Int) (p1:gF) (K:tQH→Prop):tfn F_Zx A_Zx C_Zx P_Zx R_Zx (p0,p1) K = w_Zx p0 p1 K := by kernel_rfl
def s_Zx (p0:Int) (p1:gF):tQH := (cond ((((jbt p1).length:Nat):Int) == 0) ((0:Int),(jbt p1)) (p0,(jbt p1)))
abbrev jmR (_p0:Int) (p1:gF):List Prop := [(p1.length≤10000000000000)]
theorem d_Zx (p0:Int) (p1:gF) (K:tQH→Prop) (hp:∀ p∈jmR p0 p1,p) (h:K (s_Zx p0 p1)):w_Zx p0 p1 K := by
 unfold w_Zx
 unfold s_Zx at h
 obtain ⟨hp0,_⟩ := jah hp
 exact ⟨(hp0),(br' h (fun e0 h => h)
  (fun e0 h => h))⟩
/-- A sign that fits digits. -/
def jct (s:Int) (l:gF):Prop := s = 1 ∨ s = -1 ∨ jac l = 0
abbrev t_Zx (p0:Int) (p1:gF):Int×List Int := jap (p0 * jac p1)
abbrev jmS (p0:Int) (p1:gF):List Prop := [jct p0 p1,jaE p1,p1.length≤10000000000000]
theorem jCJ (p0:Int) (p1:gF) (hq:∀ p∈jmS p0 p1,p):∀ p∈jmR p0 p1,p := by
 obtain ⟨_,_,h3,_⟩ := jah hq
 simp only [jmR,fM]
 exact ⟨h3,by simp⟩
theorem jCK (p0:Int) (p1:gF) (hq:∀ p∈jmS p0 p1,p):s_Zx p0 p1 = t_Zx p0 p1 := by
 obtain ⟨h1,h2,_⟩ := jah hq
 have hn := jdO h2
 unfold s_Zx t_Zx jap
 rw [jmJ h2]
 rcases Decidable.em (jac p1 = 0) with z | z
 ·rw [z,Int.mul_zero,show (0:Int).toNat = 0 from rfl]
  show cond (((jay 0).length:Int) == 0) ((0:Int),jay 0) (p0,jay 0)=((0:Int),jay 0)
  rw [jdr]; rfl
 ·have hp:jay (jac p1).toNat ≠ [] := by rw [jfR (by omega)]; simp
  have hl:((jay (jac p1).toNat).length:Int) ≠ 0 := by have := List.length_pos_iff.2 hp; omega
  rw [show (((jay (jac p1).toNat).length:Int) == 0)=false from beq_eq_false_iff_ne.2 hl]
  rcases h1 with rfl | rfl | h1
  ·rw [Int.one_mul,Int.sign_eq_one_of_pos (by omega)]
   simp only [cond_false]
   congr 2
   omega
  ·rw [show -1 * jac p1 = -(jac p1) by omega,Int.sign_eq_neg_one_of_neg (by omega)]
   simp only [cond_false]
   congr 2
   omega
  ·exact absurd h1 z

abbrev ji1:Con := ⟨P_Zx,R_Zx,fun x => jmS x.1 x.2,fun x => t_Zx x.1 x.2⟩
theorem jmT:jau Try.prog 69 ji1 := okG k_Zx e_Zx jCH fun x hx => jaA (jCI x.1 x.2 _) (d_Zx x.1 x.2 _ (jCJ x.1 x.2 hx) (jCK x.1 x.2 hx))
def jsw:Cons := []
theorem jCL:jag Try.prog jsw := jag.nil
def jmU (p0:gE) (K:tQH→Prop):Prop := (K ((IntKind.i64.wrap (zz0 - p0.1)),p0.2))
theorem jCM (p0:gE) (K:tQH→Prop):tfn jpE jxv jsw jpF jpG p0 K = jmU p0 K := by kernel_rfl
def ji2 (p0:gE):tQH := ((IntKind.i64.wrap ((0:Int) - p0.1)),p0.2)
abbrev jmV (_p0:gE):List Prop := []
theorem jCN (p0:gE) (K:tQH→Prop) (_hp:∀ p∈jmV p0,p) (h:K (ji2 p0)):jmU p0 K := by
 unfold jmU
 unfold ji2 at h
 exact h
/-- A number that is as it should be. -/
structure v_wok (p:Int×List Int):Prop where
 eq:p = jap (jaH p)
 ln:p.2.length≤1000000000000
/-- How many digits a number has. -/
def v_dl (n:Int):Nat := (jay n.natAbs).length
theorem v_wok.ex {p:Int×List Int} (h:v_wok p):∃ n:Int,p = jap n∧v_dl n≤1000000000000 := ⟨_,h.eq,by have := h.ln; rw [h.eq] at this; exact this⟩
theorem jg5 {n:Int} (h:v_dl n≤1000000000000):v_wok (jap n) := ⟨by rw [jc5],h⟩
theorem jsx {m n:Nat} (h:m≤n):(jay m).length≤(jay n).length := by
 rcases Nat.lt_or_ge (jay n).length (jay m).length with k | k
 ·have := jsl k; omega
 ·exact k
theorem jsy (m n:Int):v_dl (m * n)≤v_dl m + v_dl n := by
 unfold v_dl
 refine jg3 ?_
 have h1 := jg2 m.natAbs
 have h2 := jg2 n.natAbs
 rw [Int.natAbs_mul,jg0,Int.natCast_mul]
 rcases Int.lt_or_le 0 (n.natAbs:Int) with k | k
 ·exact Int.lt_of_lt_of_le (Int.mul_lt_mul_of_pos_right h1 k) (Int.mul_le_mul_of_nonneg_left (Int.le_of_lt h2) (by have := jfa (jay m.natAbs).length; omega))
 ·have:(n.natAbs:Int)=0 := by omega
  rw [this,Int.mul_zero,← jg0]
  have := jfa ((jay m.natAbs).length + (jay n.natAbs).length); omega
theorem jCO (m n:Int):v_dl (m + n)≤max (v_dl m) (v_dl n) + 1 := by
 unfold v_dl
 refine jg3 ?_
 have h1 := jg2 m.natAbs
 have h2 := jg2 n.natAbs
 have h3 := jiW (Nat.le_max_left (jay m.natAbs).length (jay n.natAbs).length)
 have h4 := jiW (Nat.le_max_right (jay m.natAbs).length (jay n.natAbs).length)
 have h5 := jfa (max (jay m.natAbs).length (jay n.natAbs).length)
 rw [jc4]; omega
theorem jCP (n:Int):v_dl (-n)=v_dl n := by unfold v_dl; rw [Int.natAbs_neg]
theorem jsz (n:Int):(jap n).1 = n.sign := rfl
theorem jg6 (n:Int):jac (jap n).2 = n.natAbs := jgZ _
theorem jep (n:Int):jaE (jap n).2 := jgY _
theorem jsA {n:Int} (h:v_dl n≤1000000000000):v_can (jap n).2 := ⟨by rw [jg6,Int.toNat_natCast]; rfl,h⟩
theorem ji3 (n:Int):n.sign * (n.natAbs:Int)=n := Int.sign_mul_natAbs n
theorem jdP (n:Int):(n < 0∧n.sign = -1∧(n.sign == 0)=false) ∨ (n = 0∧n.sign = 0∧(n.sign == 0)=true) ∨ (0 < n∧n.sign = 1∧(n.sign == 0)=false) := by
 rcases Int.lt_trichotomy n 0 with h | h | h
 ·have e := Int.sign_eq_neg_one_of_neg h; exact .inl ⟨h,e,by rw [e]; rfl⟩
 ·subst h; exact .inr (.inl ⟨rfl,rfl,rfl⟩)
 ·have e := Int.sign_eq_one_of_pos h; exact .inr (.inr ⟨h,e,by rw [e]; rfl⟩)
theorem jCQ (a b:Int):(a - b).sign = jaF a b := by
 unfold jaF
 rcases Int.lt_trichotomy a b with h | h | h
 ·rw [decide_eq_true h,Int.sign_eq_neg_one_of_neg (by omega)]; rfl
 ·subst h; rw [Int.sub_self,decide_eq_false (by omega)]; rfl
 ·rw [decide_eq_false (show ¬ a < b by omega),decide_eq_true (show a > b from h),Int.sign_eq_one_of_pos (by omega)]; rfl
abbrev jmW (p0:Int×List Int):Int×List Int := jap (-(jaH p0))
abbrev jmX (p0:Int×List Int):List Prop := [v_wok p0]
theorem jCR (p0:Int×List Int) (_hq:∀ p∈jmX p0,p):∀ p∈jmV p0,p := by
 simp [jmV]
theorem jCS (p0:Int×List Int) (hq:∀ p∈jmX p0,p):ji2 p0 = jmW p0 := by
 obtain ⟨n,rfl,h⟩ := (jah hq).1.ex
 unfold ji2 jmW
 rw [jc5]
 unfold jap
 rw [Int.natAbs_neg,Int.sign_neg]
 rcases jdP n with ⟨_,e,_⟩ | ⟨_,e,_⟩ | ⟨_,e,_⟩ <;> rw [e] <;> rfl

abbrev jsB:Con := ⟨jpF,jpG,fun x => jmX x,fun x => jmW x⟩
theorem jCT:jau Try.prog 67 jsB := okG jxx jxw jCL fun x hx => jaA (jCM x _) (jCN x _ (jCR x hx) (jCS x hx))
def jsC:Cons := []
theorem jCU:jag Try.prog jsC := jag.nil
def jmY (p0:gF) (p1:Int) (K:Int→Prop):Prop := ((((decide (p1 < (p0.length:Int)))=true) →((zz0≤p1) ∧((p1 < (p0.length:Int)) ∧(K (p0.getD p1.toNat zz0))))) ∧(((decide (p1 < (p0.length:Int)))=false) →(K zz0)))
theorem jCV (p0:gF) (p1:Int) (K:Int→Prop):tfn jp7 jxV jsC jp8 jp9 (p0,p1) K = jmY p0 p1 K := by kernel_rfl
def ji4 (p0:gF) (p1:Int):Int := (cond (decide (p1 < (p0.length:Int))) (p0.getD p1.toNat (0:Int)) (0:Int))
abbrev jmZ (p0:gF) (p1:Int):List Prop := [(((decide (p1 < (p0.length:Int)))=true)→((0:Int)≤p1)),(((decide (p1 < (p0.length:Int)))=true)→(p1 < (p0.length:Int)))]
theorem jCW (p0:gF) (p1:Int) (K:Int→Prop) (hp:∀ p∈jmZ p0 p1,p) (h:K (ji4 p0 p1)):jmY p0 p1 K := by
 unfold jmY
 unfold ji4 at h
 obtain ⟨hp0,hp1,_⟩ := jah hp
 exact (br' h (fun e0 h => ⟨(hp0 e0),(hp1 e0),h⟩)
  (fun e0 h => h))
abbrev jm0 (p0:gF) (p1:Int):Int := p0.getD p1.toNat 0
abbrev jm1 (_p0:gF) (p1:Int):List Prop := [0≤p1]
theorem jCX (p0:gF) (p1:Int) (hq:∀ p∈jm1 p0 p1,p):∀ p∈jmZ p0 p1,p := by
 have h := (jah hq).1
 simp only [jmZ,fM]
 exact ⟨fun _ => h,fun c => of_decide_eq_true c,by simp⟩
theorem jCY (p0:gF) (p1:Int) (hq:∀ p∈jm1 p0 p1,p):ji4 p0 p1 = jm0 p0 p1 := by
 have h := (jah hq).1
 unfold ji4 jm0
 rcases Int.lt_or_le p1 p0.length with c | c
 ·rw [decide_eq_true c]; rfl
 ·rw [decide_eq_false (by omega),jdA 0 (by omega)]; rfl

abbrev jm2:Con := ⟨jp8,jp9,fun x => jm1 x.1 x.2,fun x => jm0 x.1 x.2⟩
theorem jsD:jau Try.prog 90 jm2 := okG jxX jxW jCU fun x hx => jaA (jCV x.1 x.2 _) (jCW x.1 x.2 _ (jCX x.1 x.2 hx) (jCY x.1 x.2 hx))
def C_Zc:Cons := [(90,[],jm2)]
theorem jCZ:jag Try.prog C_Zc := cC jsD <| jag.nil
abbrev jfc (p0:gF) (p1:gF) (y1:tQN) := (cond (decide (y1.1 < (p0.length:Int))) true (decide (y1.1 < (p1.length:Int))))
def w_Zc (p0:gF) (p1:gF) (K:(List Int)→Prop):Prop := (∃ n0,(jaX (fun (y1:tQN) k2 => ((((decide (y1.1 < (p0.length:Int)))=false) →((decide (y1.1 < (p0.length:Int)))=(decide (y1.1 < (p0.length:Int))))) ∧((((decide (y1.1 < (p0.length:Int)))=false) →((decide (y1.1 < (p0.length:Int)))=(decide (y1.1 < (p0.length:Int))))) ∧((((decide (y1.1 < (p0.length:Int)))=false) →((decide (y1.1 < (p0.length:Int)))=(decide (y1.1 < (p0.length:Int))))) ∧(((decide (y1.1 < (p0.length:Int)))=(decide (y1.1 < (p0.length:Int)))) ∧((((jfc p0 p1 y1)=false) →((jfc p0 p1 y1)=(jfc p0 p1 y1))) ∧(((jfc p0 p1 y1)=(jfc p0 p1 y1)) ∧((((cond (jfc p0 p1 y1) true (decide (y1.2.2 > zz0)))=true) →((zz0≤y1.1) ∧((zz0≤y1.1) ∧((((y1.2.1.length + (List.length ((Int.tmod (wi ((wi ((p0.getD y1.1.toNat zz0) + (p1.getD y1.1.toNat zz0))) + y1.2.2)) (1000000000:Int)) :: ([]:List Int)))) * 8)≤140737488355328) ∧(k2 ((wi (y1.1 + zz1)),((y1.2.1 ++ ((Int.tmod (wi ((wi ((p0.getD y1.1.toNat zz0) + (p1.getD y1.1.toNat zz0))) + y1.2.2)) (1000000000:Int)) :: ([]:List Int))),(wi (Int.tdiv (wi ((wi ((p0.getD y1.1.toNat zz0) + (p1.getD y1.1.toNat zz0))) + y1.2.2)) (1000000000:Int)))))))))) ∧(((cond (jfc p0 p1 y1) true (decide (y1.2.2 > zz0)))=false) →(K y1.2.1)))))))))) n0 (zz0,(([]:List Int),zz0))))
theorem jC0 (p0:gF) (p1:gF) (K:(List Int)→Prop):tfn F_Zc A_Zc C_Zc P_Zc R_Zc (p0,p1) K = w_Zc p0 p1 K := by kernel_rfl
def jeq (p0:gF) (p1:gF) (y0:tQN):tQN ⊕ (List Int) := (cond (cond (cond (decide (y0.1 < (p0.length:Int))) true (decide (y0.1 < (p1.length:Int)))) true (decide (y0.2.2 > 0))) (Sum.inl ((IntKind.i64.wrap (y0.1 + 1)),((y0.2.1 ++ ((Int.tmod (IntKind.i64.wrap ((IntKind.i64.wrap ((p0.getD y0.1.toNat (0:Int)) + (p1.getD y0.1.toNat (0:Int)))) + y0.2.2)) (1000000000:Int)) :: ([]:List Int))),(IntKind.i64.wrap (Int.tdiv (IntKind.i64.wrap ((IntKind.i64.wrap ((p0.getD y0.1.toNat (0:Int)) + (p1.getD y0.1.toNat (0:Int)))) + y0.2.2)) (1000000000:Int)))))) (Sum.inr y0.2.1))
abbrev jfS (p0:gF) (p1:gF) (y0:tQN):List Prop := [(((cond (cond (decide (y0.1 < (p0.length:Int))) true (decide (y0.1 < (p1.length:Int)))) true (decide (y0.2.2 > 0)))=true)→((0:Int)≤y0.1)),(((cond (cond (decide (y0.1 < (p0.length:Int))) true (decide (y0.1 < (p1.length:Int)))) true (decide (y0.2.2 > 0)))=true)→(((y0.2.1.length + (List.length ((Int.tmod (IntKind.i64.wrap ((IntKind.i64.wrap ((p0.getD y0.1.toNat (0:Int)) + (p1.getD y0.1.toNat (0:Int)))) + y0.2.2)) (1000000000:Int)) :: ([]:List Int)))) * 8)≤140737488355328))]
def s_Zc (p0:gF) (p1:gF):(List Int) := (lpv [] (jeq p0 p1) ((0:Int),(([]:List Int),(0:Int))))
abbrev jsE (p0:gF) (p1:gF):List Prop := [(OkL (jeq p0 p1) (jfS p0 p1) ((0:Int),(([]:List Int),(0:Int))))]
theorem d_Zc (p0:gF) (p1:gF) (K:(List Int)→Prop) (hp:∀ p∈jsE p0 p1,p) (h:K (s_Zc p0 p1)):w_Zc p0 p1 K := by
 unfold w_Zc
 unfold s_Zc at h
 obtain ⟨hp0,_⟩ := jah hp
 exact (ja5 (hp0) h (fun y0 k0 hp h => by
 unfold jeq at h; obtain ⟨hp0,hp1,_⟩ := jah hp
 exact ⟨rf,rf,rf,rfl,rf,rfl,(br' h (fun e1 h => ⟨(hp0 e1),(hp0 e1),(hp1 e1),h⟩)
  (fun e1 h => h))⟩))
abbrev jsF:Con := ⟨P_Zc,R_Zc,fun x => jsE x.1 x.2,fun x => s_Zc x.1 x.2⟩
theorem jC1:jau Try.prog 70 jsF := okG k_Zc e_Zc jCZ fun x hx => jaA (jC0 x.1 x.2 _) (d_Zc x.1 x.2 _ hx rfl)
theorem l_Zc (p0 p1:gF) (h1:jaE p0) (h2:jaE p1) (l1:p0.length≤1000000000000) (l2:p1.length≤1000000000000):OkL (jeq p0 p1) (jfS p0 p1) (0,[],0)∧(jaE (s_Zc p0 p1)∧jac (s_Zc p0 p1)=jac p0 + jac p1∧(s_Zc p0 p1).length≤1000000000001) := by
 unfold s_Zc
 refine jCw (st := jeq p0 p1) (sp := jfS p0 p1) (fun (y:Int×List Int×Int) => ∃ i:Nat,y.1 = i∧y.2.1.length = i∧jaE y.2.1∧(0≤y.2.2∧y.2.2≤1)∧jac y.2.1 + jaC i * (y.2.2 + (jac (p0.drop i) + jac (p1.drop i)))=jac p0 + jac p1∧i≤max p0.length p1.length + 1∧(i = max p0.length p1.length + 1→y.2.2 = 0)) (fun y => (max p0.length p1.length + 1 - y.1).toNat) (fun r => jaE r∧jac r = jac p0 + jac p1∧r.length≤1000000000001) ?_ ⟨0,rfl,rfl,(fun d hd => by cases hd),⟨Int.le_refl _,by decide⟩,?_,Nat.zero_le _,fun _ => rfl⟩ (by unfold fuel; simp only; omega)
 ·rintro ⟨_,out,c⟩ ⟨i,rfl,g1,g2,g3,g4,g5,g6⟩
  simp only at g1 g2 g3 g4 g6
  have d0 := jeo h1 i
  have d1 := jeo h2 i
  have hb:(cond (cond (decide ((i:Int) < p0.length)) true (decide ((i:Int) < p1.length))) true (decide (c > 0)))=true→i≤max p0.length p1.length := by
   intro hb
   rcases Nat.lt_or_ge (max p0.length p1.length) i with k | k
   ·have hz := g6 (by omega)
    subst hz
    rw [decide_eq_false (show ¬ (i:Int) < p0.length by omega),decide_eq_false (show ¬ (i:Int) < p1.length by omega)] at hb
    cases hb
   ·exact k
  have w1:IntKind.i64.wrap (IntKind.i64.wrap (p0.getD i 0 + p1.getD i 0) + c)=p0.getD i 0 + p1.getD i 0 + c := by rw [jjy]; exact jar (by omega) (by omega)
  simp only [jfS,jeq,fM,Int.toNat_natCast,w1]
  cases hc:(cond (cond (decide ((i:Int) < p0.length)) true (decide ((i:Int) < p1.length))) true (decide (c > 0)))
  ·refine ⟨by and_intros <;> first | (intro p hp; cases hp; done) | (intro h; cases h; done) | (intros; omega) | (intros; simp; omega),?_⟩
   simp only [cond_false]
   have e0:¬ (i:Int) < p0.length := fun k => by rw [decide_eq_true k] at hc; cases hc
   rw [decide_eq_false e0] at hc
   have e1:¬ (i:Int) < p1.length := fun k => by rw [decide_eq_true k] at hc; cases hc
   rw [decide_eq_false e1] at hc
   have e2:¬ c > 0 := fun k => by rw [decide_eq_true k] at hc; cases hc
   rw [List.drop_eq_nil_of_le (show p0.length≤i by omega),List.drop_eq_nil_of_le (show p1.length≤i by omega),show c = 0 by omega] at g4
   have e3:jac ([]:List Int)=0 := rfl
   rw [e3,Int.add_zero,Int.add_zero,Int.mul_zero,Int.add_zero] at g4
   exact ⟨g2,g4,by omega⟩
  ·have hi := hb hc
   refine ⟨by and_intros <;> first | (intro p hp; cases hp; done) | (intros; omega) | (intros; simp; omega),?_⟩
   simp only [cond_true]
   have nn:0≤p0.getD i 0 + p1.getD i 0 + c := by omega
   rw [Int.tmod_eq_emod_of_nonneg nn,Int.tdiv_eq_ediv_of_nonneg nn]
   have q1 := Int.emod_nonneg (p0.getD i 0 + p1.getD i 0 + c) (show (1000000000:Int) ≠ 0 by decide)
   have q2 := Int.emod_lt_of_pos (p0.getD i 0 + p1.getD i 0 + c) (show (0:Int) < 1000000000 by decide)
   have q3:0≤(p0.getD i 0 + p1.getD i 0 + c) / 1000000000∧(p0.getD i 0 + p1.getD i 0 + c) / 1000000000≤1 := by omega
   rw [jar (n := (p0.getD i 0 + p1.getD i 0 + c) / 1000000000) (by omega) (by omega),jfh (by omega)]
   refine ⟨⟨i + 1,rfl,by simp [g1],jiY g2 ⟨q1,q2⟩,q3,?_,by omega,fun h => ?_⟩,by omega⟩
   ·rw [← g1]
    refine jCx ?_
    rw [g1,← g4]
    have s0:jac (p0.drop i)=p0.getD i 0 + 1000000000 * jac (p0.drop (i + 1)) := by
     rcases Nat.lt_or_ge i p0.length with k | k
     ·rw [jdz 0 k]; rfl
     ·rw [jdA 0 k,List.drop_eq_nil_of_le k,List.drop_eq_nil_of_le (by omega)]; rfl
    have s1:jac (p1.drop i)=p1.getD i 0 + 1000000000 * jac (p1.drop (i + 1)) := by
     rcases Nat.lt_or_ge i p1.length with k | k
     ·rw [jdz 0 k]; rfl
     ·rw [jdA 0 k,List.drop_eq_nil_of_le k,List.drop_eq_nil_of_le (by omega)]; rfl
    rw [s0,s1]
    generalize jaC i = P
    grind
   ·have e0:p0.getD i 0 = 0 := jdA 0 (by omega)
    have e1:p1.getD i 0 = 0 := jdA 0 (by omega)
    rw [e0,e1]; omega
 ·show (0:Int) + 1 * (0 + (jac p0 + jac p1))=_
  omega
def C_Zf:Cons := [(90,[],jm2),(89,[],jmO)]
theorem jC2:jag Try.prog C_Zf := cC jsD <| cC jst <| jag.nil
abbrev jfT (p0:gF) (p1:gF) (y1:tQN) := ((p0.getD y1.1.toNat zz0) - (p1.getD y1.1.toNat zz0))
def w_Zf (p0:gF) (p1:gF) (K:(List Int)→Prop):Prop := (∃ n0,(jaX (fun (y1:tQN) k2 => ((((decide (y1.1 < (p0.length:Int)))=true) →((zz0≤y1.1) ∧((y1.1 < (p0.length:Int)) ∧((zz0≤y1.1) ∧((((decide ((wi ((wi (jfT p0 p1 y1)) - y1.2.2)) < zz0))=true) →((((y1.2.1.length + (List.length ((wi ((wi ((wi (jfT p0 p1 y1)) - y1.2.2)) + 1000000000)) :: ([]:List Int)))) * 8)≤140737488355328) ∧(k2 ((wi (y1.1 + zz1)),((y1.2.1 ++ ((wi ((wi ((wi (jfT p0 p1 y1)) - y1.2.2)) + 1000000000)) :: ([]:List Int))),zz1))))) ∧(((decide ((wi ((wi (jfT p0 p1 y1)) - y1.2.2)) < zz0))=false) →((((y1.2.1.length + (List.length ((wi ((wi (jfT p0 p1 y1)) - y1.2.2)) :: ([]:List Int)))) * 8)≤140737488355328) ∧(k2 ((wi (y1.1 + zz1)),((y1.2.1 ++ ((wi ((wi (jfT p0 p1 y1)) - y1.2.2)) :: ([]:List Int))),zz0)))))))))) ∧(((decide (y1.1 < (p0.length:Int)))=false) →((y1.2.1.length≤10000000000000) ∧(K (jbt y1.2.1)))))) n0 (zz0,(([]:List Int),zz0))))
theorem jC3 (p0:gF) (p1:gF) (K:(List Int)→Prop):tfn F_Zf A_Zf C_Zf P_Zf R_Zf (p0,p1) K = w_Zf p0 p1 K := by kernel_rfl
def jer (p0:gF) (p1:gF) (y0:tQN):tQN ⊕ (List Int) := (cond (decide (y0.1 < (p0.length:Int))) (cond (decide ((IntKind.i64.wrap ((IntKind.i64.wrap ((p0.getD y0.1.toNat (0:Int)) - (p1.getD y0.1.toNat (0:Int)))) - y0.2.2)) < 0)) (Sum.inl ((IntKind.i64.wrap (y0.1 + 1)),((y0.2.1 ++ ((IntKind.i64.wrap ((IntKind.i64.wrap ((IntKind.i64.wrap ((p0.getD y0.1.toNat (0:Int)) - (p1.getD y0.1.toNat (0:Int)))) - y0.2.2)) + 1000000000)) :: ([]:List Int))),(1:Int)))) (Sum.inl ((IntKind.i64.wrap (y0.1 + 1)),((y0.2.1 ++ ((IntKind.i64.wrap ((IntKind.i64.wrap ((p0.getD y0.1.toNat (0:Int)) - (p1.getD y0.1.toNat (0:Int)))) - y0.2.2)) :: ([]:List Int))),(0:Int))))) (Sum.inr (jbt y0.2.1)))
abbrev jg7 (p0:gF) (p1:gF) (y0:tQN):List Prop := [(((decide (y0.1 < (p0.length:Int)))=true)→((0:Int)≤y0.1)),(((decide (y0.1 < (p0.length:Int)))=true)→(y0.1 < (p0.length:Int))),(((decide (y0.1 < (p0.length:Int)))=true)→(((decide ((IntKind.i64.wrap ((IntKind.i64.wrap ((p0.getD y0.1.toNat (0:Int)) - (p1.getD y0.1.toNat (0:Int)))) - y0.2.2)) < 0))=true)→(((y0.2.1.length + (List.length ((IntKind.i64.wrap ((IntKind.i64.wrap ((IntKind.i64.wrap ((p0.getD y0.1.toNat (0:Int)) - (p1.getD y0.1.toNat (0:Int)))) - y0.2.2)) + 1000000000)) :: ([]:List Int)))) * 8)≤140737488355328))),(((decide (y0.1 < (p0.length:Int)))=true)→(((decide ((IntKind.i64.wrap ((IntKind.i64.wrap ((p0.getD y0.1.toNat (0:Int)) - (p1.getD y0.1.toNat (0:Int)))) - y0.2.2)) < 0))=false)→(((y0.2.1.length + (List.length ((IntKind.i64.wrap ((IntKind.i64.wrap ((p0.getD y0.1.toNat (0:Int)) - (p1.getD y0.1.toNat (0:Int)))) - y0.2.2)) :: ([]:List Int)))) * 8)≤140737488355328))),(((decide (y0.1 < (p0.length:Int)))=false)→(y0.2.1.length≤10000000000000))]
def s_Zf (p0:gF) (p1:gF):(List Int) := (lpv [] (jer p0 p1) ((0:Int),(([]:List Int),(0:Int))))
abbrev jm3 (p0:gF) (p1:gF):List Prop := [(OkL (jer p0 p1) (jg7 p0 p1) ((0:Int),(([]:List Int),(0:Int))))]
theorem d_Zf (p0:gF) (p1:gF) (K:(List Int)→Prop) (hp:∀ p∈jm3 p0 p1,p) (h:K (s_Zf p0 p1)):w_Zf p0 p1 K := by
 unfold w_Zf
 unfold s_Zf at h
 obtain ⟨hp0,_⟩ := jah hp
 exact (ja5 (hp0) h (fun y0 k0 hp h => by
 unfold jer at h; obtain ⟨hp0,hp1,hp2,hp3,hp4,_⟩ := jah hp
 exact (br' h (fun e1 h => ⟨(hp0 e1),(hp1 e1),(hp0 e1),(br' h (fun e2 h => ⟨(hp2 e1 e2),h⟩)
  (fun e2 h => ⟨(hp3 e1 e2),h⟩))⟩)
  (fun e1 h => ⟨(hp4 e1),h⟩))))
theorem l_Zf (p0 p1:gF) (h1:jaE p0) (h2:jaE p1) (l1:p0.length≤5000000000000) (hle:jac p1≤jac p0):OkL (jer p0 p1) (jg7 p0 p1) (0,[],0)∧lpv [] (jer p0 p1) (0,[],0)=jay (jac p0 - jac p1).toNat := by
 refine jmM (dd := []) (st := jer p0 p1) (sp := jg7 p0 p1) (fun i (t:List Int×Int) => (i,t)) 0 p0.length (fun j t => t.1.length = j∧jaE t.1∧(0≤t.2∧t.2≤1)∧jac (p0.take j) - jac (p1.take j)=jac t.1 - t.2 * jaC j) (fun r => r = jay (jac p0 - jac p1).toNat) (Nat.zero_le _) (by omega) ?_ ?_ ([],0) ⟨rfl,(fun d hd => by cases hd),⟨Int.le_refl _,by decide⟩,rfl⟩
 ·rintro ⟨out,c⟩ ⟨g1,g2,g3,g4⟩
  simp only at g1 g2 g3 g4
  have hd:decide ((p0.length:Int) < p0.length)=false := decide_eq_false (by omega)
  simp only [jg7,jer,fM,hd,cond_false]
  refine ⟨by and_intros <;> first | (intro p hp; cases hp; done) | (intro h; cases h; done) | (intros; omega),_,rfl,?_⟩
  rw [jmJ g2]
  rw [List.take_length] at g4
  have b1:jac p1 = jac (p1.take p0.length) := by
   have e := jg4 (p1.take p0.length) (p1.drop p0.length)
   rw [List.take_append_drop] at e
   have n1 := jdO (jmL h2 p0.length)
   have n2 := jdO (jCu h2 p0.length)
   have n3 := jg1 h1
   rcases Nat.lt_or_ge p0.length p1.length with k | k
   ·rw [List.length_take,Nat.min_eq_left (by omega)] at e
    have:jac (p1.drop p0.length)=0 := by
     rcases Int.lt_or_le 0 (jac (p1.drop p0.length)) with q | q
     ·have := Int.mul_le_mul_of_nonneg_left (show 1≤jac (p1.drop p0.length) by omega) (show 0≤jaC p0.length by have := jfa p0.length; omega)
      omega
     ·omega
    rw [this,Int.mul_zero] at e; omega
   ·rw [List.take_of_length_le k]
  have n4 := jg1 g2
  have n5 := jdO g2
  rw [g1] at n4
  have hc:c = 0 := by
   rcases Int.lt_or_le 0 c with q | q
   ·have:c = 1 := by omega
    rw [this,Int.one_mul] at g4; omega
   ·omega
  rw [hc,Int.zero_mul] at g4
  congr 2
  omega
 ·rintro j ⟨out,c⟩ _ hj ⟨g1,g2,g3,g4⟩
  simp only at g1 g2 g3 g4
  have d0 := jeo h1 j
  have d1 := jeo h2 j
  have hd:decide ((j:Int) < p0.length)=true := decide_eq_true (by omega)
  have w1:IntKind.i64.wrap (IntKind.i64.wrap (p0.getD j 0 - p1.getD j 0) - c)=p0.getD j 0 - p1.getD j 0 - c := by rw [jFE]; exact jar (by omega) (by omega)
  have w2:IntKind.i64.wrap (p0.getD j 0 - p1.getD j 0 - c + 1000000000)=p0.getD j 0 - p1.getD j 0 - c + 1000000000 := jar (by omega) (by omega)
  have t0 := jiX hj
  have t1:jac (p1.take (j + 1))=jac (p1.take j) + jaC j * p1.getD j 0 := by
   rcases Nat.lt_or_ge j p1.length with k | k
   ·exact jiX k
   ·rw [List.take_of_length_le k,List.take_of_length_le (by omega),jdA 0 k,Int.mul_zero,Int.add_zero]
  simp only [jg7,jer,fM,hd,cond_true,Int.toNat_natCast,w1,w2,jfh (show (j:Int)≤9223372036854775806 by omega)]
  refine ⟨by and_intros <;> first | (intro p hp; cases hp; done) | (intro h; cases h; done) | (intros; omega) | (intros; simp; omega),.inl ?_⟩
  rcases dec0 (a := p0.getD j 0 - p1.getD j 0 - c) (b := 0) with ⟨k,e,_⟩ | ⟨k,e,_⟩ <;> rw [e]
  ·refine ⟨(out ++ [p0.getD j 0 - p1.getD j 0 - c + 1000000000],1),rfl,by simp [g1],jiY g2 ⟨by omega,by omega⟩,⟨by simp only; omega,Int.le_refl _⟩,?_⟩
   simp only
   rw [t0,t1,jiZ,g1,jc4]
   generalize jaC j = P at *
   grind
  ·refine ⟨(out ++ [p0.getD j 0 - p1.getD j 0 - c],0),rfl,by simp [g1],jiY g2 ⟨by omega,by omega⟩,⟨Int.le_refl _,by simp only; omega⟩,?_⟩
   simp only
   rw [t0,t1,jiZ,g1,jc4]
   generalize jaC j = P at *
   grind
abbrev t_Zf (p0:gF) (p1:gF):List Int := jay (jac p0 - jac p1).toNat
abbrev jm4 (p0:gF) (p1:gF):List Prop := [jaE p0,jaE p1,p0.length≤5000000000000,jac p1≤jac p0]
theorem jC4 (p0:gF) (p1:gF) (hq:∀ p∈jm4 p0 p1,p):∀ p∈jm3 p0 p1,p := by
 obtain ⟨h1,h2,h3,h4,_⟩ := jah hq
 simp only [jm3,fM]
 exact ⟨(l_Zf p0 p1 h1 h2 h3 h4).1,by simp⟩
theorem jC5 (p0:gF) (p1:gF) (hq:∀ p∈jm4 p0 p1,p):s_Zf p0 p1 = t_Zf p0 p1 := by
 obtain ⟨h1,h2,h3,h4,_⟩ := jah hq
 exact (l_Zf p0 p1 h1 h2 h3 h4).2

abbrev jsG:Con := ⟨P_Zf,R_Zf,fun x => jm4 x.1 x.2,fun x => t_Zf x.1 x.2⟩
theorem jC6:jau Try.prog 72 jsG := okG k_Zf e_Zf jC2 fun x hx => jaA (jC3 x.1 x.2 _) (d_Zf x.1 x.2 _ (jC4 x.1 x.2 hx) (jC5 x.1 x.2 hx))
def jsH:Cons := [(70,[],jsF),(69,[],ji1),(71,[],jsv),(72,[],jsG)]
theorem jC7:jag Try.prog jsH := cC jC1 <| cC jmT <| cC jCG <| cC jC6 <| jag.nil
def jm5 (p0:gE) (p1:gE) (K:tQH→Prop):Prop := ((((p0.1 == 0)=true) →(K p1)) ∧(((p0.1 == 0)=false) →((((p1.1 == 0)=true) →(K p0)) ∧(((p1.1 == 0)=false) →((((p0.1 == p1.1)=true) →((OkL (jeq p0.2 p1.2) (jfS p0.2 p1.2) (zz0,(([]:List Int),zz0))) ∧((jct p0.1 (s_Zc p0.2 p1.2)) ∧((jaE (s_Zc p0.2 p1.2)) ∧(((List.length (s_Zc p0.2 p1.2))≤10000000000000) ∧(K (jap (p0.1 * (jac (s_Zc p0.2 p1.2)))))))))) ∧(((p0.1 == p1.1)=false) →((v_can p0.2) ∧((v_can p1.2) ∧(((((jaF (jac p0.2) (jac p1.2)) == 0)=true) →(K (zz0,([]:List Int)))) ∧((((jaF (jac p0.2) (jac p1.2)) == 0)=false) →((((decide ((jaF (jac p0.2) (jac p1.2)) > 0))=true) →((jaE p0.2) ∧((jaE p1.2) ∧((p0.2.length≤5000000000000) ∧(((jac p1.2)≤(jac p0.2)) ∧((jct p0.1 (jay (Int.toNat ((jac p0.2) - (jac p1.2))))) ∧((jaE (jay (Int.toNat ((jac p0.2) - (jac p1.2))))) ∧(((List.length (jay (Int.toNat ((jac p0.2) - (jac p1.2)))))≤10000000000000) ∧(K (jap (p0.1 * (jac (jay (Int.toNat ((jac p0.2) - (jac p1.2)))))))))))))))) ∧(((decide ((jaF (jac p0.2) (jac p1.2)) > 0))=false) →((jaE p1.2) ∧((jaE p0.2) ∧((p1.2.length≤5000000000000) ∧(((jac p0.2)≤(jac p1.2)) ∧((jct p1.1 (jay (Int.toNat ((jac p1.2) - (jac p0.2))))) ∧((jaE (jay (Int.toNat ((jac p1.2) - (jac p0.2))))) ∧(((List.length (jay (Int.toNat ((jac p1.2) - (jac p0.2)))))≤10000000000000) ∧(K (jap (p1.1 * (jac (jay (Int.toNat ((jac p1.2) - (jac p0.2)))))))))))))))))))))))))))
theorem jC8 (p0:gE) (p1:gE) (K:tQH→Prop):tfn jpm jw8 jsH jpn jpo (p0,p1) K = jm5 p0 p1 K := by kernel_rfl
def ji5 (p0:gE) (p1:gE):tQH := (cond (p0.1 == 0) p1 (cond (p1.1 == 0) p0 (cond (p0.1 == p1.1) (jap (p0.1 * (jac (s_Zc p0.2 p1.2)))) (cond ((jaF (jac p0.2) (jac p1.2)) == 0) ((0:Int),([]:List Int)) (cond (decide ((jaF (jac p0.2) (jac p1.2)) > 0)) (jap (p0.1 * (jac (jay (Int.toNat ((jac p0.2) - (jac p1.2))))))) (jap (p1.1 * (jac (jay (Int.toNat ((jac p1.2) - (jac p0.2))))))))))))
abbrev jm6 (p0:gE) (p1:gE):List Prop := [(((p0.1 == 0)=false)→(((p1.1 == 0)=false)→(((p0.1 == p1.1)=true)→(OkL (jeq p0.2 p1.2) (jfS p0.2 p1.2) ((0:Int),(([]:List Int),(0:Int))))))),(((p0.1 == 0)=false)→(((p1.1 == 0)=false)→(((p0.1 == p1.1)=true)→(jct p0.1 (s_Zc p0.2 p1.2))))),(((p0.1 == 0)=false)→(((p1.1 == 0)=false)→(((p0.1 == p1.1)=true)→(jaE (s_Zc p0.2 p1.2))))),(((p0.1 == 0)=false)→(((p1.1 == 0)=false)→(((p0.1 == p1.1)=true)→((List.length (s_Zc p0.2 p1.2))≤10000000000000)))),(((p0.1 == 0)=false)→(((p1.1 == 0)=false)→(((p0.1 == p1.1)=false)→(v_can p0.2)))),(((p0.1 == 0)=false)→(((p1.1 == 0)=false)→(((p0.1 == p1.1)=false)→(v_can p1.2)))),(((p0.1 == 0)=false)→(((p1.1 == 0)=false)→(((p0.1 == p1.1)=false)→((((jaF (jac p0.2) (jac p1.2)) == 0)=false)→(((decide ((jaF (jac p0.2) (jac p1.2)) > 0))=true)→(jaE p0.2)))))),(((p0.1 == 0)=false)→(((p1.1 == 0)=false)→(((p0.1 == p1.1)=false)→((((jaF (jac p0.2) (jac p1.2)) == 0)=false)→(((decide ((jaF (jac p0.2) (jac p1.2)) > 0))=true)→(jaE p1.2)))))),(((p0.1 == 0)=false)→(((p1.1 == 0)=false)→(((p0.1 == p1.1)=false)→((((jaF (jac p0.2) (jac p1.2)) == 0)=false)→(((decide ((jaF (jac p0.2) (jac p1.2)) > 0))=true)→(p0.2.length≤5000000000000)))))),(((p0.1 == 0)=false)→(((p1.1 == 0)=false)→(((p0.1 == p1.1)=false)→((((jaF (jac p0.2) (jac p1.2)) == 0)=false)→(((decide ((jaF (jac p0.2) (jac p1.2)) > 0))=true)→((jac p1.2)≤(jac p0.2))))))),(((p0.1 == 0)=false)→(((p1.1 == 0)=false)→(((p0.1 == p1.1)=false)→((((jaF (jac p0.2) (jac p1.2)) == 0)=false)→(((decide ((jaF (jac p0.2) (jac p1.2)) > 0))=true)→(jct p0.1 (jay (Int.toNat ((jac p0.2) - (jac p1.2)))))))))),(((p0.1 == 0)=false)→(((p1.1 == 0)=false)→(((p0.1 == p1.1)=false)→((((jaF (jac p0.2) (jac p1.2)) == 0)=false)→(((decide ((jaF (jac p0.2) (jac p1.2)) > 0))=true)→(jaE (jay (Int.toNat ((jac p0.2) - (jac p1.2)))))))))),(((p0.1 == 0)=false)→(((p1.1 == 0)=false)→(((p0.1 == p1.1)=false)→((((jaF (jac p0.2) (jac p1.2)) == 0)=false)→(((decide ((jaF (jac p0.2) (jac p1.2)) > 0))=true)→((List.length (jay (Int.toNat ((jac p0.2) - (jac p1.2)))))≤10000000000000)))))),(((p0.1 == 0)=false)→(((p1.1 == 0)=false)→(((p0.1 == p1.1)=false)→((((jaF (jac p0.2) (jac p1.2)) == 0)=false)→(((decide ((jaF (jac p0.2) (jac p1.2)) > 0))=false)→(jaE p1.2)))))),(((p0.1 == 0)=false)→(((p1.1 == 0)=false)→(((p0.1 == p1.1)=false)→((((jaF (jac p0.2) (jac p1.2)) == 0)=false)→(((decide ((jaF (jac p0.2) (jac p1.2)) > 0))=false)→(jaE p0.2)))))),(((p0.1 == 0)=false)→(((p1.1 == 0)=false)→(((p0.1 == p1.1)=false)→((((jaF (jac p0.2) (jac p1.2)) == 0)=false)→(((decide ((jaF (jac p0.2) (jac p1.2)) > 0))=false)→(p1.2.length≤5000000000000)))))),(((p0.1 == 0)=false)→(((p1.1 == 0)=false)→(((p0.1 == p1.1)=false)→((((jaF (jac p0.2) (jac p1.2)) == 0)=false)→(((decide ((jaF (jac p0.2) (jac p1.2)) > 0))=false)→((jac p0.2)≤(jac p1.2))))))),(((p0.1 == 0)=false)→(((p1.1 == 0)=false)→(((p0.1 == p1.1)=false)→((((jaF (jac p0.2) (jac p1.2)) == 0)=false)→(((decide ((jaF (jac p0.2) (jac p1.2)) > 0))=false)→(jct p1.1 (jay (Int.toNat ((jac p1.2) - (jac p0.2)))))))))),(((p0.1 == 0)=false)→(((p1.1 == 0)=false)→(((p0.1 == p1.1)=false)→((((jaF (jac p0.2) (jac p1.2)) == 0)=false)→(((decide ((jaF (jac p0.2) (jac p1.2)) > 0))=false)→(jaE (jay (Int.toNat ((jac p1.2) - (jac p0.2)))))))))),(((p0.1 == 0)=false)→(((p1.1 == 0)=false)→(((p0.1 == p1.1)=false)→((((jaF (jac p0.2) (jac p1.2)) == 0)=false)→(((decide ((jaF (jac p0.2) (jac p1.2)) > 0))=false)→((List.length (jay (Int.toNat ((jac p1.2) - (jac p0.2)))))≤10000000000000))))))]
theorem jC9 (p0:gE) (p1:gE) (K:tQH→Prop) (hp:∀ p∈jm6 p0 p1,p) (h:K (ji5 p0 p1)):jm5 p0 p1 K := by
 unfold jm5
 unfold ji5 at h
 obtain ⟨hp0,hp1,hp2,hp3,hp4,hp5,hp6,hp7,hp8,hp9,hp10,hp11,hp12,hp13,hp14,hp15,hp16,hp17,hp18,hp19,_⟩ := jah hp
 exact (br' h (fun e0 h => h)
  (fun e0 h => (br' h (fun e1 h => h)
  (fun e1 h => (br' h (fun e2 h => ⟨(hp0 e0 e1 e2),(hp1 e0 e1 e2),(hp2 e0 e1 e2),(hp3 e0 e1 e2),h⟩)
  (fun e2 h => ⟨(hp4 e0 e1 e2),(hp5 e0 e1 e2),(br' h (fun e3 h => h)
  (fun e3 h => (br' h (fun e4 h => ⟨(hp6 e0 e1 e2 e3 e4),(hp7 e0 e1 e2 e3 e4),(hp8 e0 e1 e2 e3 e4),(hp9 e0 e1 e2 e3 e4),(hp10 e0 e1 e2 e3 e4),(hp11 e0 e1 e2 e3 e4),(hp12 e0 e1 e2 e3 e4),h⟩)
  (fun e4 h => ⟨(hp13 e0 e1 e2 e3 e4),(hp14 e0 e1 e2 e3 e4),(hp15 e0 e1 e2 e3 e4),(hp16 e0 e1 e2 e3 e4),(hp17 e0 e1 e2 e3 e4),(hp18 e0 e1 e2 e3 e4),(hp19 e0 e1 e2 e3 e4),h⟩))))⟩))))))
abbrev jm7 (p0:Int×List Int) (p1:Int×List Int):Int×List Int := jap (jaH p0 + jaH p1)
abbrev jm8 (p0:Int×List Int) (p1:Int×List Int):List Prop := [v_wok p0,v_wok p1]
theorem jDa (p0:Int×List Int) (p1:Int×List Int) (hq:∀ p∈jm8 p0 p1,p):∀ p∈jm6 p0 p1,p := by
 obtain ⟨h1,h2,_⟩ := jah hq
 obtain ⟨m,rfl,hm⟩ := h1.ex
 obtain ⟨n,rfl,hn⟩ := h2.ex
 simp only [jm6,fM,jsz,jg6]
 obtain ⟨a1,a2,a3,a4⟩ := l_Zc _ _ (jep m) (jep n) hm hn
 have c1 := jsA hm
 have c2 := jsA hn
 have k1 := jep m
 have k2 := jep n
 have dl1:(jay ((m.natAbs:Int) - n.natAbs).toNat).length≤10000000000000 := Nat.le_trans (jsx (n := m.natAbs) (by omega)) (Nat.le_trans hm (by decide))
 have dl2:(jay ((n.natAbs:Int) - m.natAbs).toNat).length≤10000000000000 := Nat.le_trans (jsx (n := n.natAbs) (by omega)) (Nat.le_trans hn (by decide))
 have sg:∀ (x:Int) (l:gF),(x.sign == 0)=false→jct x.sign l := fun x l h => by
  rcases jdP x with ⟨_,e,f⟩ | ⟨_,e,f⟩ | ⟨_,e,f⟩
  ·exact .inr (.inl e)
  ·rw [f] at h; cases h
  ·exact .inl e
 have cgt:∀ a b:Int,decide (jaF a b > 0)=true→b≤a := fun a b h => by have := jsi.1 (of_decide_eq_true h); omega
 have clt:∀ a b:Int,decide (jaF a b > 0)=false→a≤b := fun a b h => by
  have h := of_decide_eq_false h
  rcases Int.lt_or_le b a with k | k
  ·exact absurd (jsi.2 k) h
  ·exact k
 have hm5:(jap m).2.length≤5000000000000 := Nat.le_trans hm (by decide)
 have hn5:(jap n).2.length≤5000000000000 := Nat.le_trans hn (by decide)
 refine ⟨fun _ _ _ => a1,fun h _ _ => sg _ _ h,fun _ _ _ => a2,fun _ _ _ => by omega,fun _ _ _ => c1,fun _ _ _ => c2,?_⟩
 refine ⟨fun _ _ _ _ _ => k1,fun _ _ _ _ _ => k2,fun _ _ _ _ _ => hm5,fun _ _ _ _ h => cgt _ _ h,fun h _ _ _ _ => sg _ _ h,fun _ _ _ _ _ => jgY _,fun _ _ _ _ _ => dl1,?_⟩
 exact ⟨fun _ _ _ _ _ => k2,fun _ _ _ _ _ => k1,fun _ _ _ _ _ => hn5,fun _ _ _ _ h => clt _ _ h,fun _ h _ _ _ => sg _ _ h,fun _ _ _ _ _ => jgY _,fun _ _ _ _ _ => dl2,by simp⟩
theorem jDb (p0:Int×List Int) (p1:Int×List Int) (hq:∀ p∈jm8 p0 p1,p):ji5 p0 p1 = jm7 p0 p1 := by
 obtain ⟨h1,h2,_⟩ := jah hq
 obtain ⟨m,rfl,hm⟩ := h1.ex
 obtain ⟨n,rfl,hn⟩ := h2.ex
 unfold ji5 jm7
 obtain ⟨_,_,a3,_⟩ := l_Zc _ _ (jep m) (jep n) hm hn
 rw [jc5,jc5,a3]
 simp only [jsz,jg6,jgZ]
 rcases jdP m with ⟨k1,e1,f1⟩ | ⟨k1,e1,f1⟩ | ⟨k1,e1,f1⟩ <;> rw [f1]
 ·rcases jdP n with ⟨k2,e2,f2⟩ | ⟨k2,e2,f2⟩ | ⟨k2,e2,f2⟩ <;> rw [f2]
  ·rw [e1,e2]
   simp only [cond_false,beq_self_eq_true,cond_true]
   congr 1; omega
  ·subst k2; simp
  ·rw [e1,e2]
   simp only [cond_false,show ((-1:Int) == 1)=false from rfl]
   unfold jaF
   rcases Int.lt_trichotomy (m.natAbs:Int) n.natAbs with c | c | c
   ·rw [decide_eq_true c]
    simp only [cond_true,show ((-1:Int) == 0)=false from rfl,show decide ((-1:Int) > 0)=false from rfl,cond_false]
    congr 1; omega
   ·rw [decide_eq_false (show ¬ (m.natAbs:Int) < n.natAbs by omega),decide_eq_false (show ¬ (m.natAbs:Int) > n.natAbs by omega)]
    simp only [cond_false,beq_self_eq_true,cond_true]
    rw [show m + n = 0 by omega]
    unfold jap
    rw [show Int.natAbs 0 = 0 from rfl,jdr]; rfl
   ·rw [decide_eq_false (show ¬ (m.natAbs:Int) < n.natAbs by omega),decide_eq_true (show (m.natAbs:Int) > n.natAbs from c)]
    simp only [cond_true,cond_false,show ((1:Int) == 0)=false from rfl,show decide ((1:Int) > 0)=true from rfl]
    congr 1; omega
 ·subst k1; simp
 ·rcases jdP n with ⟨k2,e2,f2⟩ | ⟨k2,e2,f2⟩ | ⟨k2,e2,f2⟩ <;> rw [f2]
  ·rw [e1,e2]
   simp only [cond_false,show ((1:Int) == -1)=false from rfl]
   unfold jaF
   rcases Int.lt_trichotomy (m.natAbs:Int) n.natAbs with c | c | c
   ·rw [decide_eq_true c]
    simp only [cond_true,show ((-1:Int) == 0)=false from rfl,show decide ((-1:Int) > 0)=false from rfl,cond_false]
    congr 1; omega
   ·rw [decide_eq_false (show ¬ (m.natAbs:Int) < n.natAbs by omega),decide_eq_false (show ¬ (m.natAbs:Int) > n.natAbs by omega)]
    simp only [cond_false,beq_self_eq_true,cond_true]
    rw [show m + n = 0 by omega]
    unfold jap
    rw [show Int.natAbs 0 = 0 from rfl,jdr]; rfl
   ·rw [decide_eq_false (show ¬ (m.natAbs:Int) < n.natAbs by omega),decide_eq_true (show (m.natAbs:Int) > n.natAbs from c)]
    simp only [cond_true,cond_false,show ((1:Int) == 0)=false from rfl,show decide ((1:Int) > 0)=true from rfl]
    congr 1; omega
  ·subst k2; simp
  ·rw [e1,e2]
   simp only [cond_false,beq_self_eq_true,cond_true]
   congr 1; omega

abbrev jm9:Con := ⟨jpn,jpo,fun x => jm8 x.1 x.2,fun x => jm7 x.1 x.2⟩
theorem jsI:jau Try.prog 43 jm9 := okG jxa jw9 jC7 fun x hx => jaA (jC8 x.1 x.2 _) (jC9 x.1 x.2 _ (jDa x.1 x.2 hx) (jDb x.1 x.2 hx))
def C_Za:Cons := [(69,[],ji1)]
theorem jDc:jag Try.prog C_Za := cC jmT <| jag.nil
def w_Za (p0:gE) (p1:gE) (K:tQH→Prop):Prop := ((zz0≤(IntKind.i64.wrap ((IntKind.i64.wrap ((p0.2.length:Int) + (p1.2.length:Int))) + 1))) ∧((((8:Int) * (IntKind.i64.wrap ((IntKind.i64.wrap ((p0.2.length:Int) + (p1.2.length:Int))) + 1)))≤281474976710656) ∧(((IntKind.i64.wrap ((IntKind.i64.wrap ((p0.2.length:Int) + (p1.2.length:Int))) + 1))≤9223372036854775807) ∧(∃ n0,(jaX (fun (y1:gE) k2 => ((((decide (y1.1 < (p0.2.length:Int)))=true) →(∃ n3,(jaX (fun (y4:(Int×tQH)) k5 => ((((decide (y4.1 < (p1.2.length:Int)))=true) →((zz0≤(IntKind.i64.wrap (y1.1 + y4.1))) ∧(((IntKind.i64.wrap (y1.1 + y4.1)) < (y4.2.2.length:Int)) ∧((zz0≤y1.1) ∧((y1.1 < (p0.2.length:Int)) ∧((zz0≤y4.1) ∧((y4.1 < (p1.2.length:Int)) ∧((zz0≤(IntKind.i64.wrap (y1.1 + y4.1))) ∧(((IntKind.i64.wrap (y1.1 + y4.1)) < (y4.2.2.length:Int)) ∧(k5 ((IntKind.i64.wrap (y4.1 + 1)),((IntKind.i64.wrap (Int.tdiv (IntKind.i64.wrap ((IntKind.i64.wrap ((y4.2.2.getD (Int.toNat (IntKind.i64.wrap (y1.1 + y4.1))) zz0) + (IntKind.i64.wrap ((p0.2.getD y1.1.toNat zz0) * (p1.2.getD y4.1.toNat zz0))))) + y4.2.1)) (1000000000:Int))),(List.set y4.2.2 (Int.toNat (IntKind.i64.wrap (y1.1 + y4.1))) (Int.tmod (IntKind.i64.wrap ((IntKind.i64.wrap ((y4.2.2.getD (Int.toNat (IntKind.i64.wrap (y1.1 + y4.1))) zz0) + (IntKind.i64.wrap ((p0.2.getD y1.1.toNat zz0) * (p1.2.getD y4.1.toNat zz0))))) + y4.2.1)) (1000000000:Int))))))))))))))) ∧(((decide (y4.1 < (p1.2.length:Int)))=false) →((zz0≤(IntKind.i64.wrap (y1.1 + (p1.2.length:Int)))) ∧(((IntKind.i64.wrap (y1.1 + (p1.2.length:Int))) < (y4.2.2.length:Int)) ∧((zz0≤(IntKind.i64.wrap (y1.1 + (p1.2.length:Int)))) ∧(((IntKind.i64.wrap (y1.1 + (p1.2.length:Int))) < (y4.2.2.length:Int)) ∧(k2 ((IntKind.i64.wrap (y1.1 + 1)),(List.set y4.2.2 (Int.toNat (IntKind.i64.wrap (y1.1 + (p1.2.length:Int)))) (IntKind.i64.wrap ((y4.2.2.getD (Int.toNat (IntKind.i64.wrap (y1.1 + (p1.2.length:Int)))) zz0) + y4.2.1)))))))))))) n3 (zz0,(zz0,y1.2))))) ∧(((decide (y1.1 < (p0.2.length:Int)))=false) →((jct (IntKind.i64.wrap (p0.1 * p1.1)) y1.2) ∧((jaE y1.2) ∧((y1.2.length≤10000000000000) ∧(K (jap ((IntKind.i64.wrap (p0.1 * p1.1)) * (jac y1.2)))))))))) n0 (zz0,(List.replicate (Int.toNat (IntKind.i64.wrap ((IntKind.i64.wrap ((p0.2.length:Int) + (p1.2.length:Int))) + 1))) zz0)))))))
theorem jDd (p0:gE) (p1:gE) (K:tQH→Prop):tfn F_Za A_Za C_Za P_Za R_Za (p0,p1) K = w_Za p0 p1 K := by kernel_rfl
def jes (p0:gE) (p1:gE) (y0:gE) (y2:(Int×tQH)):(Int×tQH) ⊕ (tQH ⊕ tQH) := (cond (decide (y2.1 < (p1.2.length:Int))) (Sum.inl ((IntKind.i64.wrap (y2.1 + 1)),((IntKind.i64.wrap (Int.tdiv (IntKind.i64.wrap ((IntKind.i64.wrap ((y2.2.2.getD (Int.toNat (IntKind.i64.wrap (y0.1 + y2.1))) (0:Int)) + (IntKind.i64.wrap ((p0.2.getD y0.1.toNat (0:Int)) * (p1.2.getD y2.1.toNat (0:Int)))))) + y2.2.1)) (1000000000:Int))),(List.set y2.2.2 (Int.toNat (IntKind.i64.wrap (y0.1 + y2.1))) (Int.tmod (IntKind.i64.wrap ((IntKind.i64.wrap ((y2.2.2.getD (Int.toNat (IntKind.i64.wrap (y0.1 + y2.1))) (0:Int)) + (IntKind.i64.wrap ((p0.2.getD y0.1.toNat (0:Int)) * (p1.2.getD y2.1.toNat (0:Int)))))) + y2.2.1)) (1000000000:Int)))))) (Sum.inr (Sum.inl ((IntKind.i64.wrap (y0.1 + 1)),(List.set y2.2.2 (Int.toNat (IntKind.i64.wrap (y0.1 + (p1.2.length:Int)))) (IntKind.i64.wrap ((y2.2.2.getD (Int.toNat (IntKind.i64.wrap (y0.1 + (p1.2.length:Int)))) (0:Int)) + y2.2.1)))))))
abbrev jg8 (p0:gE) (p1:gE) (y0:gE) (y2:(Int×tQH)):List Prop := [(((decide (y2.1 < (p1.2.length:Int)))=true)→((0:Int)≤(IntKind.i64.wrap (y0.1 + y2.1)))),(((decide (y2.1 < (p1.2.length:Int)))=true)→((IntKind.i64.wrap (y0.1 + y2.1)) < (y2.2.2.length:Int))),(((decide (y2.1 < (p1.2.length:Int)))=true)→((0:Int)≤y0.1)),(((decide (y2.1 < (p1.2.length:Int)))=true)→(y0.1 < (p0.2.length:Int))),(((decide (y2.1 < (p1.2.length:Int)))=true)→((0:Int)≤y2.1)),(((decide (y2.1 < (p1.2.length:Int)))=true)→(y2.1 < (p1.2.length:Int))),(((decide (y2.1 < (p1.2.length:Int)))=false)→((0:Int)≤(IntKind.i64.wrap (y0.1 + (p1.2.length:Int))))),(((decide (y2.1 < (p1.2.length:Int)))=false)→((IntKind.i64.wrap (y0.1 + (p1.2.length:Int))) < (y2.2.2.length:Int)))]
def jet (p0:gE) (p1:gE) (y0:gE):tQH ⊕ tQH := (cond (decide (y0.1 < (p0.2.length:Int))) (lpv (Sum.inr ((0:Int),[])) (jes p0 p1 y0) ((0:Int),((0:Int),y0.2))) (Sum.inr (jap ((IntKind.i64.wrap (p0.1 * p1.1)) * (jac y0.2)))))
abbrev jg9 (p0:gE) (p1:gE) (y0:gE):List Prop := [(((decide (y0.1 < (p0.2.length:Int)))=true)→(OkL (jes p0 p1 y0) (jg8 p0 p1 y0) ((0:Int),((0:Int),y0.2)))),(((decide (y0.1 < (p0.2.length:Int)))=false)→(jct (IntKind.i64.wrap (p0.1 * p1.1)) y0.2)),(((decide (y0.1 < (p0.2.length:Int)))=false)→(jaE y0.2)),(((decide (y0.1 < (p0.2.length:Int)))=false)→(y0.2.length≤10000000000000))]
def s_Za (p0:gE) (p1:gE):tQH := (lpv ((0:Int),[]) (jet p0 p1) ((0:Int),(List.replicate (Int.toNat (IntKind.i64.wrap ((IntKind.i64.wrap ((p0.2.length:Int) + (p1.2.length:Int))) + 1))) (0:Int))))
abbrev jna (p0:gE) (p1:gE):List Prop := [((0:Int)≤(IntKind.i64.wrap ((IntKind.i64.wrap ((p0.2.length:Int) + (p1.2.length:Int))) + 1))),(((8:Int) * (IntKind.i64.wrap ((IntKind.i64.wrap ((p0.2.length:Int) + (p1.2.length:Int))) + 1)))≤281474976710656),((IntKind.i64.wrap ((IntKind.i64.wrap ((p0.2.length:Int) + (p1.2.length:Int))) + 1))≤9223372036854775807),(OkL (jet p0 p1) (jg9 p0 p1) ((0:Int),(List.replicate (Int.toNat (IntKind.i64.wrap ((IntKind.i64.wrap ((p0.2.length:Int) + (p1.2.length:Int))) + 1))) (0:Int))))]
theorem d_Za (p0:gE) (p1:gE) (K:tQH→Prop) (hp:∀ p∈jna p0 p1,p) (h:K (s_Za p0 p1)):w_Za p0 p1 K := by
 unfold w_Za
 unfold s_Za at h
 obtain ⟨hp0,hp1,hp2,hp3,_⟩ := jah hp
 exact ⟨(hp0),(hp1),(hp2),(ja5 (hp3) h (fun y0 k0 hp h => by
 unfold jet at h; obtain ⟨hp0,hp1,hp2,hp3,_⟩ := jah hp
 exact (br' h (fun e1 h => (ja5 (hp0 e1) h (fun y2 k2 hp h => by
 unfold jes at h; obtain ⟨hp0,hp1,hp2,hp3,hp4,hp5,hp6,hp7,_⟩ := jah hp
 exact (br' h (fun e3 h => ⟨(hp0 e3),(hp1 e3),(hp2 e3),(hp3 e3),(hp4 e3),(hp5 e3),(hp0 e3),(hp1 e3),h⟩)
  (fun e3 h => ⟨(hp6 e3),(hp7 e3),(hp6 e3),(hp7 e3),h⟩)))))
  (fun e1 h => ⟨(hp1 e1),(hp2 e1),(hp3 e1),h⟩))))⟩
theorem jDe (p0 p1:Int×List Int) (d1:jaE p0.2) (d2:jaE p1.2) (l1:p0.2.length≤1000000000000) (l2:p1.2.length≤1000000000000) (j:Nat) (hj:j < p0.2.length) (out:gF) (ho:out.length = p0.2.length + p1.2.length + 1) (hd:jaE out) (hz:∀ m,j + p1.2.length≤m→out.getD m 0 = 0) :
  OkL (jes p0 p1 ((j:Int),out)) (jg8 p0 p1 ((j:Int),out)) (0,0,out)∧(fun (r:(Int×List Int) ⊕ (Int×List Int)) => ∃ o2:List Int,r = .inl (((j + 1:Nat):Int),o2)∧o2.length = p0.2.length + p1.2.length + 1∧jaE o2∧jac o2 = jac out + p0.2.getD j 0 * jaC j * jac p1.2∧(∀ m,j + 1 + p1.2.length≤m→o2.getD m 0 = 0)) (lpv (.inr (0,[])) (jes p0 p1 ((j:Int),out)) (0,0,out)) := by
 refine @jmM (Int×List Int) (Int×Int×List Int) ((Int×List Int) ⊕ (Int×List Int)) (.inr (0,[])) (jes p0 p1 ((j:Int),out)) (jg8 p0 p1 ((j:Int),out)) (fun i (t:Int×List Int) => (i,t)) 0 p1.2.length
  (fun k t => t.2.length = p0.2.length + p1.2.length + 1∧jaE t.2∧(0≤t.1∧t.1 < 1000000000)∧jac t.2 + t.1 * jaC (j + k)=jac out + p0.2.getD j 0 * jaC j * jac (p1.2.take k)∧(∀ m,j + p1.2.length≤m→t.2.getD m 0 = 0))
  (fun r => ∃ o2:List Int,r = .inl (((j + 1:Nat):Int),o2)∧o2.length = p0.2.length + p1.2.length + 1∧jaE o2∧jac o2 = jac out + p0.2.getD j 0 * jaC j * jac p1.2∧(∀ m,j + 1 + p1.2.length≤m→o2.getD m 0 = 0)) (Nat.zero_le _) (by omega) ?_ ?_ (0,out) ⟨ho,hd,⟨Int.le_refl _,by simp only; omega⟩,?_,hz⟩
 ·rintro ⟨c,o⟩ ⟨g1,g2,g3,g4,g5⟩
  simp only at g1 g2 g3 g4 g5
  have hd:decide ((p1.2.length:Int) < p1.2.length)=false := decide_eq_false (by omega)
  have wi:IntKind.i64.wrap ((j:Int) + p1.2.length)=((j + p1.2.length:Nat):Int) := by rw [jar (by omega) (by omega)]; omega
  have hz0 := g5 (j + p1.2.length) (Nat.le_refl _)
  simp only [jg8,jes,fM,hd,cond_false,wi,Int.toNat_natCast,hz0]
  refine ⟨by and_intros <;> first | (intro p hp; cases hp; done) | (intro h; cases h; done) | (intros; omega),_,rfl,o.set (j + p1.2.length) c,?_,by rw [List.length_set]; exact g1,jso g2 g3,?_,fun m hm => ?_⟩
  ·rw [jfh (by omega),Int.zero_add,jar (n := c) (by omega) (by omega)]
  ·rw [jmK _ _ _ (by omega),hz0,Int.sub_zero,Int.mul_comm (jaC _) c,g4,List.take_length]
  ·rw [jn4 (by omega),if_neg (by omega)]; exact g5 m (by omega)
 ·rintro k ⟨c,o⟩ _ hk ⟨g1,g2,g3,g4,g5⟩
  simp only at g1 g2 g3 g4 g5
  have hdd:decide ((k:Int) < p1.2.length)=true := decide_eq_true (by omega)
  have wi:IntKind.i64.wrap ((j:Int) + k)=((j + k:Nat):Int) := by rw [jar (by omega) (by omega)]; omega
  obtain ⟨b1,b2,b3,b4⟩ := jCz (jeo g2 (j + k)) (jeo d1 j) (jeo d2 k) g3
  have q0 := jeo g2 (j + k)
  have ws:IntKind.i64.wrap (IntKind.i64.wrap (o.getD (j + k) 0 + IntKind.i64.wrap (p0.2.getD j 0 * p1.2.getD k 0)) + c)=o.getD (j + k) 0 + p0.2.getD j 0 * p1.2.getD k 0 + c := by
   rw [jFD,jjy]; exact jar (by omega) (by omega)
  simp only [jg8,jes,fM,hdd,cond_true,wi,Int.toNat_natCast,ws,jfh (show (k:Int)≤9223372036854775806 by omega)]
  refine ⟨by and_intros <;> first | (intro p hp; cases hp; done) | (intro h; cases h; done) | (intros; omega),.inl ?_⟩
  rw [Int.tmod_eq_emod_of_nonneg b3,Int.tdiv_eq_ediv_of_nonneg b3]
  have r1 := Int.emod_nonneg (o.getD (j + k) 0 + p0.2.getD j 0 * p1.2.getD k 0 + c) (show (1000000000:Int) ≠ 0 by decide)
  have r2 := Int.emod_lt_of_pos (o.getD (j + k) 0 + p0.2.getD j 0 * p1.2.getD k 0 + c) (show (0:Int) < 1000000000 by decide)
  have r3:0≤(o.getD (j + k) 0 + p0.2.getD j 0 * p1.2.getD k 0 + c) / 1000000000 := Int.ediv_nonneg b3 (by decide)
  rw [jar (n := (o.getD (j + k) 0 + p0.2.getD j 0 * p1.2.getD k 0 + c) / 1000000000) (by omega) (by omega)]
  refine ⟨(_,o.set (j + k) _),rfl,by rw [List.length_set]; exact g1,jso g2 ⟨r1,r2⟩,⟨r3,b4⟩,?_,fun m hm => ?_⟩
  ·exact jCy hk (by omega) rfl g4
  ·show (o.set (j + k) _).getD m 0 = 0
   rw [jn4 (by omega),if_neg (by omega)]; exact g5 m hm
 ·simp only [List.take_zero]
  show jac out + 0 * jaC (j + 0)=jac out + p0.2.getD j 0 * jaC j * 0
  omega
theorem jsJ (p0 p1:Int×List Int) (h1:v_wok p0) (h2:v_wok p1):OkL (jet p0 p1) (jg9 p0 p1) (0,List.replicate (p0.2.length + p1.2.length + 1) 0)∧lpv (0,[]) (jet p0 p1) (0,List.replicate (p0.2.length + p1.2.length + 1) 0)=jap (jaH p0 * jaH p1) := by
 have l1 := h1.ln
 have l2 := h2.ln
 obtain ⟨a,ea,_⟩ := h1.ex
 obtain ⟨b,eb,_⟩ := h2.ex
 have d1:jaE p0.2 := by rw [ea]; exact jep a
 have d2:jaE p1.2 := by rw [eb]; exact jep b
 refine jmM (dd := (0,[])) (st := jet p0 p1) (sp := jg9 p0 p1) (fun i (t:gF) => (i,t)) 0 p0.2.length
  (fun j t => t.length = p0.2.length + p1.2.length + 1∧jaE t∧jac t = jac (p0.2.take j) * jac p1.2∧(∀ m,j + p1.2.length≤m→t.getD m 0 = 0)) (fun r => r = jap (jaH p0 * jaH p1)) (Nat.zero_le _) (by omega) ?_ ?_ _ ⟨by simp,?_,?_,fun m _ => jFO⟩
 ·rintro o ⟨g1,g2,g3,_⟩
  have hd:decide ((p0.2.length:Int) < p0.2.length)=false := decide_eq_false (by omega)
  rw [List.take_length] at g3
  have s0:p0.1 = a.sign := by rw [ea]; rfl
  have s1:p1.1 = b.sign := by rw [eb]; rfl
  have x0:jac p0.2 = a.natAbs := by rw [ea]; exact jg6 a
  have x1:jac p1.2 = b.natAbs := by rw [eb]; exact jg6 b
  have hs:IntKind.i64.wrap (p0.1 * p1.1)=a.sign * b.sign := by
   rw [s0,s1]
   rcases jdP a with ⟨_,e,_⟩ | ⟨_,e,_⟩ | ⟨_,e,_⟩ <;> rcases jdP b with ⟨_,f,_⟩ | ⟨_,f,_⟩ | ⟨_,f,_⟩ <;> rw [e,f] <;> rfl
  simp only [jg9,jet,fM,hd,cond_false,hs]
  refine ⟨⟨fun h => (by cases h),fun _ => ?_,fun _ => g2,fun _ => by omega,by simp⟩,_,rfl,?_⟩
  ·rcases jdP a with ⟨_,e,_⟩ | ⟨k,e,_⟩ | ⟨_,e,_⟩ <;> rcases jdP b with ⟨_,f,_⟩ | ⟨k',f,_⟩ | ⟨_,f,_⟩ <;> rw [e,f]
   ·exact .inl rfl
   ·right; right; rw [g3,x1,k']; simp
   ·exact .inr (.inl rfl)
   ·right; right; rw [g3,x0,k]; simp
   ·right; right; rw [g3,x0,k]; simp
   ·right; right; rw [g3,x0,k]; simp
   ·exact .inr (.inl rfl)
   ·right; right; rw [g3,x1,k']; simp
   ·exact .inl rfl
  ·rw [g3,x0,x1]
   have := ji3 a
   have := ji3 b
   congr 1
   rw [show jaH p0 = a by rw [ea,jc5],show jaH p1 = b by rw [eb,jc5]]
   rw [Int.mul_assoc,← Int.mul_assoc b.sign,Int.mul_comm b.sign,Int.mul_assoc,← Int.mul_assoc,ji3,ji3]
 ·rintro j o _ hj ⟨g1,g2,g3,g4⟩
  obtain ⟨i1,o2,i2,i3,i4,i5,i6⟩ := jDe p0 p1 d1 d2 l1 l2 j hj o g1 g2 g4
  have hd:decide ((j:Int) < p0.2.length)=true := decide_eq_true (by omega)
  simp only [jg9,jet,fM,hd,cond_true]
  refine ⟨⟨fun _ => i1,fun h => (by cases h),fun h => (by cases h),fun h => (by cases h),by simp⟩,.inl ⟨o2,i2,i3,i4,?_,i6⟩⟩
  rw [i5,g3,jiX hj,Int.add_mul,Int.mul_comm (jaC j)]
 ·intro d hd
  rw [List.eq_of_mem_replicate hd]; exact ⟨Int.le_refl _,by decide⟩
 ·rw [jsm]
  show (0:Int)=0 * _
  rw [Int.zero_mul]
abbrev t_Za (p0:Int×List Int) (p1:Int×List Int):Int×List Int := jap (jaH p0 * jaH p1)
abbrev jnb (p0:Int×List Int) (p1:Int×List Int):List Prop := [v_wok p0,v_wok p1]
theorem jDf (p0:Int×List Int) (p1:Int×List Int) (hq:∀ p∈jnb p0 p1,p):∀ p∈jna p0 p1,p := by
 obtain ⟨h1,h2,_⟩ := jah hq
 have l1 := h1.ln
 have l2 := h2.ln
 have e := (jsJ p0 p1 h1 h2).1
 have w:IntKind.i64.wrap (IntKind.i64.wrap ((p0.2.length:Int) + p1.2.length) + 1)=((p0.2.length + p1.2.length + 1:Nat):Int) := by rw [jjy,jar (by omega) (by omega)]; omega
 simp only [jna,fM,w,Int.toNat_natCast]
 exact ⟨by omega,by omega,by omega,e,by simp⟩
theorem jDg (p0:Int×List Int) (p1:Int×List Int) (hq:∀ p∈jnb p0 p1,p):s_Za p0 p1 = t_Za p0 p1 := by
 obtain ⟨h1,h2,_⟩ := jah hq
 have l1 := h1.ln
 have l2 := h2.ln
 have w:IntKind.i64.wrap (IntKind.i64.wrap ((p0.2.length:Int) + p1.2.length) + 1)=((p0.2.length + p1.2.length + 1:Nat):Int) := by rw [jjy,jar (by omega) (by omega)]; omega
 unfold s_Za t_Za
 rw [w,Int.toNat_natCast]
 exact (jsJ p0 p1 h1 h2).2

abbrev jsK:Con := ⟨P_Za,R_Za,fun x => jnb x.1 x.2,fun x => t_Za x.1 x.2⟩
theorem jDh:jau Try.prog 44 jsK := okG k_Za e_Za jDc fun x hx => jaA (jDd x.1 x.2 _) (d_Za x.1 x.2 _ (jDf x.1 x.2 hx) (jDg x.1 x.2 hx))
def jsL:Cons := []
theorem jDi:jag Try.prog jsL := jag.nil
def jnc (p0:Int) (K:Int→Prop):Prop := (K (max p0 (IntKind.i64.wrap (zz0 - p0))))
theorem jDj (p0:Int) (K:Int→Prop):tfn jpB jxs jsL jpC jpD p0 K = jnc p0 K := by kernel_rfl
def jcu (p0:Int):Int := (max p0 (IntKind.i64.wrap ((0:Int) - p0)))
abbrev jsM (_p0:Int):List Prop := []
theorem jDk (p0:Int) (K:Int→Prop) (_hp:∀ p∈jsM p0,p) (h:K (jcu p0)):jnc p0 K := by
 unfold jnc
 unfold jcu at h
 exact h
abbrev jsN:Con := ⟨jpC,jpD,fun x => jsM x,fun x => jcu x⟩
theorem jDl:jau Try.prog 68 jsN := okG jxu jxt jDi fun x hx => jaA (jDj x _) (jDk x _ hx rfl)
def C_Zn:Cons := [(68,[],jsN),(69,[],ji1)]
theorem jDm:jag Try.prog C_Zn := cC jDl <| cC jmT <| jag.nil
def w_Zn (p0:Int) (K:tQH→Prop):Prop := ((((decide (p0 < 0))=true) →(∃ n0,(jaX (fun (y1:gE) k2 => ((((y1.1 != 0)=true) →((((y1.2.length + (List.length ((jcu (Int.tmod y1.1 (1000000000:Int))) :: ([]:List Int)))) * 8)≤140737488355328) ∧(k2 ((IntKind.i64.wrap (Int.tdiv y1.1 (1000000000:Int))),(y1.2 ++ ((jcu (Int.tmod y1.1 (1000000000:Int))) :: ([]:List Int))))))) ∧(((y1.1 != 0)=false) →((jct (-1:Int) y1.2) ∧((jaE y1.2) ∧((y1.2.length≤10000000000000) ∧(K (jap ((-1:Int) * (jac y1.2)))))))))) n0 (p0,([]:List Int))))) ∧(((decide (p0 < 0))=false) →(∃ n3,(jaX (fun (y4:gE) k5 => ((((y4.1 != 0)=true) →((((y4.2.length + (List.length ((jcu (Int.tmod y4.1 (1000000000:Int))) :: ([]:List Int)))) * 8)≤140737488355328) ∧(k5 ((IntKind.i64.wrap (Int.tdiv y4.1 (1000000000:Int))),(y4.2 ++ ((jcu (Int.tmod y4.1 (1000000000:Int))) :: ([]:List Int))))))) ∧(((y4.1 != 0)=false) →((jct zz1 y4.2) ∧((jaE y4.2) ∧((y4.2.length≤10000000000000) ∧(K (jap (zz1 * (jac y4.2)))))))))) n3 (p0,([]:List Int))))))
theorem jDn (p0:Int) (K:tQH→Prop):tfn F_Zn A_Zn C_Zn P_Zn R_Zn p0 K = w_Zn p0 K := by kernel_rfl
def ji6 (_p0:Int) (y1:gE):tQH ⊕ tQH := (cond (y1.1 != 0) (Sum.inl ((IntKind.i64.wrap (Int.tdiv y1.1 (1000000000:Int))),(y1.2 ++ ((jcu (Int.tmod y1.1 (1000000000:Int))) :: ([]:List Int))))) (Sum.inr (jap ((-1:Int) * (jac y1.2)))))
abbrev jsO (_p0:Int) (y1:gE):List Prop := [(((y1.1 != 0)=true)→(((y1.2.length + (List.length ((jcu (Int.tmod y1.1 (1000000000:Int))) :: ([]:List Int)))) * 8)≤140737488355328)),(((y1.1 != 0)=false)→(jct (-1:Int) y1.2)),(((y1.1 != 0)=false)→(jaE y1.2)),(((y1.1 != 0)=false)→(y1.2.length≤10000000000000))]
def ji7 (_p0:Int) (y3:gE):tQH ⊕ tQH := (cond (y3.1 != 0) (Sum.inl ((IntKind.i64.wrap (Int.tdiv y3.1 (1000000000:Int))),(y3.2 ++ ((jcu (Int.tmod y3.1 (1000000000:Int))) :: ([]:List Int))))) (Sum.inr (jap ((1:Int) * (jac y3.2)))))
abbrev jsP (_p0:Int) (y3:gE):List Prop := [(((y3.1 != 0)=true)→(((y3.2.length + (List.length ((jcu (Int.tmod y3.1 (1000000000:Int))) :: ([]:List Int)))) * 8)≤140737488355328)),(((y3.1 != 0)=false)→(jct (1:Int) y3.2)),(((y3.1 != 0)=false)→(jaE y3.2)),(((y3.1 != 0)=false)→(y3.2.length≤10000000000000))]
def s_Zn (p0:Int):tQH := (cond (decide (p0 < 0)) (lpv ((0:Int),[]) (ji6 p0) (p0,([]:List Int))) (lpv ((0:Int),[]) (ji7 p0) (p0,([]:List Int))))
abbrev jnd (p0:Int):List Prop := [(((decide (p0 < 0))=true)→(OkL (ji6 p0) (jsO p0) (p0,([]:List Int)))),(((decide (p0 < 0))=false)→(OkL (ji7 p0) (jsP p0) (p0,([]:List Int))))]
theorem d_Zn (p0:Int) (K:tQH→Prop) (hp:∀ p∈jnd p0,p) (h:K (s_Zn p0)):w_Zn p0 K := by
 unfold w_Zn
 unfold s_Zn at h
 obtain ⟨hp0,hp1,_⟩ := jah hp
 exact (br' h (fun e0 h => (ja5 (hp0 e0) h (fun y1 k1 hp h => by
 unfold ji6 at h; obtain ⟨hp0,hp1,hp2,hp3,_⟩ := jah hp
 exact (br' h (fun e2 h => ⟨(hp0 e2),h⟩)
  (fun e2 h => ⟨(hp1 e2),(hp2 e2),(hp3 e2),h⟩)))))
  (fun e0 h => (ja5 (hp1 e0) h (fun y3 k3 hp h => by
 unfold ji7 at h; obtain ⟨hp0,hp1,hp2,hp3,_⟩ := jah hp
 exact (br' h (fun e4 h => ⟨(hp0 e4),h⟩)
  (fun e4 h => ⟨(hp1 e4),(hp2 e4),(hp3 e4),h⟩))))))
theorem jDo {n:Int} (h:jb3 n):jcu (n.tmod 1000000000)=((n.natAbs % 1000000000:Nat):Int)∧IntKind.i64.wrap (n.tdiv 1000000000)=n.tdiv 1000000000∧(n.tdiv 1000000000).natAbs = n.natAbs / 1000000000 := by
 have h1:(n.tmod 1000000000).natAbs = n.natAbs % 1000000000 := by rw [Int.natAbs_tmod]; rfl
 have h2:(n.tdiv 1000000000).natAbs = n.natAbs / 1000000000 := by rw [Int.natAbs_tdiv]; rfl
 unfold jb3 at h
 refine ⟨?_,jar (by omega) (by omega),h2⟩
 unfold jcu
 rcases Int.lt_or_le (n.tmod 1000000000) 0 with c | c
 ·first
  | (rw [decide_eq_true c]; simp only [cond_true]; rw [jar (by omega) (by omega)]; omega)
  | (rw [jar (by omega) (by omega)]; omega)
 ·first
  | (rw [decide_eq_false (by omega)]; simp only [cond_false]; omega)
  | (rw [jar (by omega) (by omega)]; omega)
theorem ji8 {dd:Int×List Int} {st:Int×List Int→(Int×List Int) ⊕ (Int×List Int)} {sp:Int×List Int→List Prop} (s p0:Int) (hs:s = 1∧0≤p0 ∨ s = -1∧p0 < 0) (hf:jb3 p0)
  (hst:∀ y,st y = cond (y.1 != 0) (.inl (IntKind.i64.wrap (y.1.tdiv 1000000000),y.2 ++ [jcu (y.1.tmod 1000000000)])) (.inr (jap (s * jac y.2))))
  (hsp:∀ y,(y.1 ≠ 0→y.2.length≤2)→jaE y.2→y.2.length≤3→∀ p∈sp y,p):OkL st sp (p0,[])∧lpv dd st (p0,[])=jap p0 := by
 refine jf6 (fun (y:Int×List Int) => jb3 y.1∧jaE y.2∧y.2.length≤3∧(y.1.natAbs:Int) < jaC (3 - y.2.length)∧jac y.2 + jaC y.2.length * y.1.natAbs = p0.natAbs) (fun (y:Int×List Int) => y.1.natAbs) (fun _ => jap p0) ?_ ⟨hf,(fun d hd => by cases hd),by simp,?_,?_⟩ (by unfold fuel; unfold jb3 at hf; simp only; omega)
 ·rintro ⟨n,l⟩ ⟨g1,g2,g3,g4,g5⟩
  simp only at g1 g2 g3 g4 g5
  have hl:n ≠ 0→l.length≤2 := fun hn => by
   rcases Nat.lt_or_ge 2 l.length with h | h
   ·rw [show 3 - l.length = 0 by omega,jsj] at g4; omega
   ·exact h
  refine ⟨hsp _ hl g2 g3,?_⟩
  rw [hst]
  simp only
  rcases int0 n with ⟨z,e,_⟩ | ⟨z,e,_⟩ <;> rw [e]
  ·simp only [cond_false]
   subst z
   have e5:jac l = p0.natAbs := by simpa using g5
   rw [e5]
   rcases hs with ⟨rfl,h⟩ | ⟨rfl,h⟩
   ·congr 1; omega
   ·congr 1; omega
  ·simp only [cond_true]
   have h2 := hl z
   obtain ⟨q1,q2,q3⟩ := jDo g1
   rw [q1,q2]
   have hdiv := Nat.div_add_mod n.natAbs 1000000000
   have hlt:n.natAbs / 1000000000 < n.natAbs := Nat.div_lt_self (by omega) (by decide)
   have hp:jaC (3 - l.length)=1000000000 * jaC (2 - l.length) := by rw [show 3 - l.length = 2 - l.length + 1 by omega,jc4]
   refine ⟨⟨?_,jiY g2 ⟨by omega,by omega⟩,by simp; omega,?_,?_⟩,by rw [q3]; exact hlt,trivial⟩
   ·unfold jb3 at g1 ⊢; omega
   ·rw [q3,List.length_append,List.length_singleton,show 3 - (l.length + 1)=2 - l.length by omega]; omega
   ·rw [q3,jiZ,List.length_append,List.length_singleton,jc4,← g5]
    have:(n.natAbs:Int)=1000000000 * ((n.natAbs / 1000000000:Nat):Int) + ((n.natAbs % 1000000000:Nat):Int) := by omega
    rw [this]
    generalize ((n.natAbs / 1000000000:Nat):Int)=a
    generalize ((n.natAbs % 1000000000:Nat):Int)=b
    grind
 ·simp only [List.length_nil]
  have:jaC (3 - 0)=1000000000000000000000000000 := by decide
  rw [this]
  unfold jb3 at hf; omega
 ·simp only [List.length_nil,jsj]
  show 0 + 1 * (p0.natAbs:Int)=p0.natAbs
  omega
abbrev t_Zn (p0:Int):Int×List Int := jap p0
abbrev jne (p0:Int):List Prop := [jb3 p0]
theorem jDp (p0:Int) (hq:∀ p∈jne p0,p):∀ p∈jnd p0,p := by
 have hf := (jah hq).1
 simp only [jnd,fM]
 refine ⟨fun h => ?_,fun h => ?_,by simp⟩
 ·exact (ji8 (dd := (0,[])) (-1) p0 (.inr ⟨rfl,of_decide_eq_true h⟩) hf (fun y => rfl) (fun y h1 h2 h3 => by simp only [jsO,fM]; exact ⟨fun h => by have := h1 (by simpa using h); simp; omega,fun _ => .inr (.inl rfl),fun _ => h2,fun _ => by omega,by simp⟩)).1
 ·have := of_decide_eq_false h
  exact (ji8 (dd := (0,[])) 1 p0 (.inl ⟨rfl,by omega⟩) hf (fun y => rfl) (fun y h1 h2 h3 => by simp only [jsP,fM]; exact ⟨fun h => by have := h1 (by simpa using h); simp; omega,fun _ => .inl rfl,fun _ => h2,fun _ => by omega,by simp⟩)).1
theorem jDq (p0:Int) (hq:∀ p∈jne p0,p):s_Zn p0 = t_Zn p0 := by
 have hf := (jah hq).1
 unfold s_Zn t_Zn
 cases h:decide (p0 < 0)
 ·have h := of_decide_eq_false h
  have e:lpv (0,[]) (ji7 p0) (p0,[])=jap p0 := (ji8 (dd := (0,[])) (sp := fun _ => []) 1 p0 (.inl ⟨rfl,by omega⟩) hf (fun y => rfl) (fun y _ _ _ => by simp)).2
  rw [e,cond_false]
 ·have e:lpv (0,[]) (ji6 p0) (p0,[])=jap p0 := (ji8 (dd := (0,[])) (sp := fun _ => []) (-1) p0 (.inr ⟨rfl,of_decide_eq_true h⟩) hf (fun y => rfl) (fun y _ _ _ => by simp)).2
  rw [e,cond_true]

abbrev jsQ:Con := ⟨P_Zn,R_Zn,fun x => jne x,fun x => t_Zn x⟩
theorem jDr:jau Try.prog 42 jsQ := okG k_Zn e_Zn jDm fun x hx => jaA (jDn x _) (d_Zn x _ (jDp x hx) (jDq x hx))
def C_Zb:Cons := [(42,[],jsQ),(12,[],jmH),(44,[],jsK),(43,[],jm9)]
theorem jDs:jag Try.prog C_Zb := cC jDr <| cC jsh <| cC jDh <| cC jsI <| jag.nil
def w_Zb (p0:tQF) (p1:tQC) (K:tQH→Prop):Prop := ((jb3 zz0) ∧(∃ n0,(jaX (fun (y1:(Int×tQH)) k2 => ((((decide (y1.1 < (p0.length:Int)))=true) →((v_smp p0) ∧((zz0≤y1.1) ∧((y1.1 < (p0.length:Int)) ∧((zz0≤y1.1) ∧((y1.1 < (p0.length:Int)) ∧(∃ n3,(jaX (fun (y4:gG) k5 => ((((decide (y4.1 < 8))=true) →((zz0≤y4.1) ∧((y4.1 < 8) ∧((zz0≤y4.1) ∧((y4.1 < 8) ∧(k5 ((IntKind.i64.wrap (y4.1 + 1)),(IntKind.i64.wrap (y4.2 - (IntKind.i64.wrap ((List.getD (p1.2.1 :: (p1.2.2.1 :: (p1.2.2.2.1 :: (p1.2.2.2.2.1 :: (p1.2.2.2.2.2.1 :: (p1.2.2.2.2.2.2.1 :: (p1.2.2.2.2.2.2.2.1 :: (p1.2.2.2.2.2.2.2.2 :: ([]:List Int))))))))) y4.1.toNat zz0) * (List.getD ((jae p0 y1.1.toNat).1 :: ((jae p0 y1.1.toNat).2.1 :: ((jae p0 y1.1.toNat).2.2.1 :: ((jae p0 y1.1.toNat).2.2.2.1 :: ((jae p0 y1.1.toNat).2.2.2.2.1 :: ((jae p0 y1.1.toNat).2.2.2.2.2.1 :: ((jae p0 y1.1.toNat).2.2.2.2.2.2.1 :: ((jae p0 y1.1.toNat).2.2.2.2.2.2.2 :: ([]:List Int))))))))) y4.1.toNat zz0)))))))))))) ∧(((decide (y4.1 < 8))=false) →((jb3 y4.2) ∧((jb3 y4.2) ∧((v_wok (jap y4.2)) ∧((v_wok (jap y4.2)) ∧((v_wok y1.2) ∧((v_wok (jap ((jaH (jap y4.2)) * (jaH (jap y4.2))))) ∧(k2 ((IntKind.i64.wrap (y1.1 + 1)),(jap ((jaH y1.2) + (jaH (jap ((jaH (jap y4.2)) * (jaH (jap y4.2)))))))))))))))))) n3 (zz0,(IntKind.i64.wrap (p1.1 * (p0.getD y1.1.toNat (zz0,(zz0,(zz0,(zz0,zz0))))).2.2.2.2))))))))))) ∧(((decide (y1.1 < (p0.length:Int)))=false) →(K y1.2)))) n0 (zz0,(jap zz0)))))
theorem jDt (p0:tQF) (p1:tQC) (K:tQH→Prop):tfn F_Zb A_Zb C_Zb P_Zb R_Zb (p0,p1) K = w_Zb p0 p1 K := by kernel_rfl
def jeu (p0:tQF) (p1:tQC) (y0:(Int×tQH)) (y2:gG):tQG ⊕ ((Int×tQH) ⊕ tQH) := (cond (decide (y2.1 < 8)) (Sum.inl ((IntKind.i64.wrap (y2.1 + 1)),(IntKind.i64.wrap (y2.2 - (IntKind.i64.wrap ((List.getD (p1.2.1 :: (p1.2.2.1 :: (p1.2.2.2.1 :: (p1.2.2.2.2.1 :: (p1.2.2.2.2.2.1 :: (p1.2.2.2.2.2.2.1 :: (p1.2.2.2.2.2.2.2.1 :: (p1.2.2.2.2.2.2.2.2 :: ([]:List Int))))))))) y2.1.toNat (0:Int)) * (List.getD ((jae p0 y0.1.toNat).1 :: ((jae p0 y0.1.toNat).2.1 :: ((jae p0 y0.1.toNat).2.2.1 :: ((jae p0 y0.1.toNat).2.2.2.1 :: ((jae p0 y0.1.toNat).2.2.2.2.1 :: ((jae p0 y0.1.toNat).2.2.2.2.2.1 :: ((jae p0 y0.1.toNat).2.2.2.2.2.2.1 :: ((jae p0 y0.1.toNat).2.2.2.2.2.2.2 :: ([]:List Int))))))))) y2.1.toNat (0:Int)))))))) (Sum.inr (Sum.inl ((IntKind.i64.wrap (y0.1 + 1)),(jap ((jaH y0.2) + (jaH (jap ((jaH (jap y2.2)) * (jaH (jap y2.2)))))))))))
abbrev jha (_p0:tQF) (_p1:tQC) (y0:(Int×tQH)) (y2:gG):List Prop := [(((decide (y2.1 < 8))=true)→((0:Int)≤y2.1)),(((decide (y2.1 < 8))=true)→(y2.1 < 8)),(((decide (y2.1 < 8))=false)→(jb3 y2.2)),(((decide (y2.1 < 8))=false)→(v_wok (jap y2.2))),(((decide (y2.1 < 8))=false)→(v_wok y0.2)),(((decide (y2.1 < 8))=false)→(v_wok (jap ((jaH (jap y2.2)) * (jaH (jap y2.2))))))]
def jev (p0:tQF) (p1:tQC) (y0:(Int×tQH)):(Int×tQH) ⊕ tQH := (cond (decide (y0.1 < (p0.length:Int))) (lpv (Sum.inr ((0:Int),[])) (jeu p0 p1 y0) ((0:Int),(IntKind.i64.wrap (p1.1 * (p0.getD y0.1.toNat ((0:Int),((0:Int),((0:Int),(0,0))))).2.2.2.2)))) (Sum.inr y0.2))
abbrev jhb (p0:tQF) (p1:tQC) (y0:(Int×tQH)):List Prop := [(((decide (y0.1 < (p0.length:Int)))=true)→(v_smp p0)),(((decide (y0.1 < (p0.length:Int)))=true)→((0:Int)≤y0.1)),(((decide (y0.1 < (p0.length:Int)))=true)→(y0.1 < (p0.length:Int))),(((decide (y0.1 < (p0.length:Int)))=true)→(OkL (jeu p0 p1 y0) (jha p0 p1 y0) ((0:Int),(IntKind.i64.wrap (p1.1 * (p0.getD y0.1.toNat ((0:Int),((0:Int),((0:Int),(0,0))))).2.2.2.2)))))]
def s_Zb (p0:tQF) (p1:tQC):tQH := (lpv ((0:Int),[]) (jev p0 p1) ((0:Int),(jap (0:Int))))
abbrev jnf (p0:tQF) (p1:tQC):List Prop := [(jb3 (0:Int)),(OkL (jev p0 p1) (jhb p0 p1) ((0:Int),(jap (0:Int))))]
theorem d_Zb (p0:tQF) (p1:tQC) (K:tQH→Prop) (hp:∀ p∈jnf p0 p1,p) (h:K (s_Zb p0 p1)):w_Zb p0 p1 K := by
 unfold w_Zb
 unfold s_Zb at h
 obtain ⟨hp0,hp1,_⟩ := jah hp
 exact ⟨(hp0),(ja5 (hp1) h (fun y0 k0 hp h => by
 unfold jev at h; obtain ⟨hp0,hp1,hp2,hp3,_⟩ := jah hp
 exact (br' h (fun e1 h => ⟨(hp0 e1),(hp1 e1),(hp2 e1),(hp1 e1),(hp2 e1),(ja5 (hp3 e1) h (fun y2 k2 hp h => by
 unfold jeu at h; obtain ⟨hp0,hp1,hp2,hp3,hp4,hp5,_⟩ := jah hp
 exact (br' h (fun e3 h => ⟨(hp0 e3),(hp1 e3),(hp0 e3),(hp1 e3),h⟩)
  (fun e3 h => ⟨(hp2 e3),(hp2 e3),(hp3 e3),(hp3 e3),(hp4 e3),(hp5 e3),h⟩))))⟩)
  (fun e1 h => h))))⟩
/-- The sum of squares of what is left. -/
def v_sq (l:List tQB) (f:Int×Int×Int×Int×Int×Int×Int×Int×Int) (m:Nat):Int := jaw (fun i => jaD l i 0 f * jaD l i 0 f) 0 m
theorem jng {l:List tQB} {f:Int×Int×Int×Int×Int×Int×Int×Int×Int} (h:v_smp l) (hf:v_fok f):∀ m,m≤l.length→v_dl (v_sq l f m)≤4 + m
 | 0,_ => by
  have:v_dl (0:Int)≤1 := jg3 (by decide)
  show v_dl 0≤4 + 0
  omega
 | m + 1,hm => by
  have ih := jng h hf m (by omega)
  have b := jiT h (show m < l.length by omega) hf (m := 0) (by omega)
  have d:v_dl (jaD l m 0 f)≤2 := jg3 (by rw [show jaC 2 = 1000000000000000000 from by decide]; omega)
  have d2 := jsy (jaD l m 0 f) (jaD l m 0 f)
  have e:v_sq l f (m + 1)=v_sq l f m + jaD l m 0 f * jaD l m 0 f := by
   unfold v_sq
   rw [jcx,Nat.zero_add]
  have d3 := jCO (v_sq l f m) (jaD l m 0 f * jaD l m 0 f)
  rw [e]; omega
theorem jDu {p0:List tQB} {p1:Int×Int×Int×Int×Int×Int×Int×Int×Int} (hs:v_smp p0) (hf:v_fok p1) {k:Nat} (hk:k < p0.length) (d:(Int×Int×List Int) ⊕ (Int×List Int)) :
  OkL (jeu p0 p1 ((k:Int),jap (v_sq p0 p1 k))) (jha p0 p1 ((k:Int),jap (v_sq p0 p1 k))) (0,p1.1 * (p0.getD k (0,0,0,0,0)).2.2.2.2)∧lpv d (jeu p0 p1 ((k:Int),jap (v_sq p0 p1 k))) (0,p1.1 * (p0.getD k (0,0,0,0,0)).2.2.2.2) = .inl (((k + 1:Nat):Int),jap (v_sq p0 p1 (k + 1))) := by
 have hl := hs.len
 have ha := jiS hs hk hf
 have hwk:IntKind.i64.wrap ((k:Int) + 1)=((k + 1:Nat):Int) := jar (by omega) (by omega)
 have b := jiT hs hk hf (m := 0) (by omega)
 have dd:v_dl (jaD p0 k 0 p1)≤2 := jg3 (by rw [show jaC 2 = 1000000000000000000 from by decide]; omega)
 have d2 := jsy (jaD p0 k 0 p1) (jaD p0 k 0 p1)
 have d3 := jng hs hf k (by omega)
 have e8:jce (p1.1 * (p0.getD k (0,0,0,0,0)).2.2.2.2) (jas p1) (ja7 (jae p0 k)) 0 8 = jaD p0 k 0 p1 := rfl
 have esq:v_sq p0 p1 (k + 1)=v_sq p0 p1 k + jaD p0 k 0 p1 * jaD p0 k 0 p1 := by
  unfold v_sq
  rw [jcx,Nat.zero_add]
 refine @jbN Int tQG ((Int×Int×List Int) ⊕ (Int×List Int)) d (jeu p0 p1 ((k:Int),jap (v_sq p0 p1 k))) (jha p0 p1 ((k:Int),jap (v_sq p0 p1 k))) (fun i s => (i,s)) 0 8 (fun j s => s = jce (p1.1 * (p0.getD k (0,0,0,0,0)).2.2.2.2) (jas p1) (ja7 (jae p0 k)) 0 j) (fun _ _ => .inl (((k + 1:Nat):Int),jap (v_sq p0 p1 (k + 1)))) (by omega) (by omega) ?_ ?_ _ rfl
 ·rintro s rfl
  rw [e8]
  refine ⟨?_,?_⟩
  ·simp only [jha,fM,show decide (((8:Nat):Int) < 8)=false from rfl,jc5]
   exact ⟨fun h => (by cases h),fun h => (by cases h),fun _ => (by unfold jb3; omega),fun _ => jg5 (by omega),fun _ => jg5 (by omega),fun _ => jg5 (by omega),fun p hp => (by cases hp)⟩
  ·unfold jeu
   rw [show decide (((8:Nat):Int) < 8)=false from rfl,cond_false]
   simp only [jc5]
   rw [hwk,← esq]
 ·rintro j s _ hj rfl
  have hw1:IntKind.i64.wrap ((j:Int) + 1)=((j + 1:Nat):Int) := jar (by omega) (by omega)
  have hd:decide ((j:Int) < 8)=true := decide_eq_true (by omega)
  have b1 := jiR (jgU hf) (fun q hq => jej hs hk hq) ha j (by omega) (m := 0)
  have b2 := jfQ (jgU hf j hj) (jej hs hk hj)
  have e1:([p1.2.1,p1.2.2.1,p1.2.2.2.1,p1.2.2.2.2.1,p1.2.2.2.2.2.1,p1.2.2.2.2.2.2.1,p1.2.2.2.2.2.2.2.1,p1.2.2.2.2.2.2.2.2]:List Int)=jas p1 := rfl
  have e2:([(jae p0 k).1,(jae p0 k).2.1,(jae p0 k).2.2.1,(jae p0 k).2.2.2.1,(jae p0 k).2.2.2.2.1,(jae p0 k).2.2.2.2.2.1,(jae p0 k).2.2.2.2.2.2.1,(jae p0 k).2.2.2.2.2.2.2]:List Int)=ja7 (jae p0 k) := rfl
  have hss:jce (p1.1 * (p0.getD k (0,0,0,0,0)).2.2.2.2) (jas p1) (ja7 (jae p0 k)) 0 (j + 1)=jce (p1.1 * (p0.getD k (0,0,0,0,0)).2.2.2.2) (jas p1) (ja7 (jae p0 k)) 0 j - (jas p1).getD j 0 * (ja7 (jae p0 k)).getD j 0 := by
   show _ - (jas p1).getD (0 + j) 0 * (ja7 (jae p0 k)).getD (0 + j) 0 = _
   rw [Nat.zero_add]
  refine ⟨?_,.inl ⟨_,?_,hss.symm,rfl⟩⟩
  ·simp only [jha,fM,hd]
   exact ⟨fun _ => (by omega),fun _ => (by omega),fun h => (by cases h),fun h => (by cases h),fun h => (by cases h),fun h => (by cases h),fun p hp => (by cases hp)⟩
  ·unfold jeu
   rw [hd,cond_true]
   simp only [Int.toNat_natCast,e1,e2,hw1]
   rw [jar (n := (jas p1).getD j 0 * (ja7 (jae p0 k)).getD j 0) (by omega) (by omega),jar (n := jce (p1.1 * (p0.getD k (0,0,0,0,0)).2.2.2.2) (jas p1) (ja7 (jae p0 k)) 0 j - (jas p1).getD j 0 * (ja7 (jae p0 k)).getD j 0) (by omega) (by omega)]
theorem jsR {p0:List tQB} {p1:Int×Int×Int×Int×Int×Int×Int×Int×Int} (hs:v_smp p0) (hf:v_fok p1) (d:Int×List Int) :
  OkL (jev p0 p1) (jhb p0 p1) (0,jap (v_sq p0 p1 0))∧lpv d (jev p0 p1) (0,jap (v_sq p0 p1 0))=jap (v_sq p0 p1 p0.length) := by
 have hl := hs.len
 refine @jbN (Int×List Int) (Int×Int×List Int) (Int×List Int) d (jev p0 p1) (jhb p0 p1) (fun i s => (i,s)) 0 p0.length (fun j s => s = jap (v_sq p0 p1 j)) (fun _ _ => jap (v_sq p0 p1 p0.length)) (by omega) (by omega) ?_ ?_ _ rfl
 ·rintro s rfl
  refine ⟨?_,?_⟩
  ·simp only [jhb,fM,decide_eq_false (Int.lt_irrefl (p0.length:Int))]
   exact ⟨fun h => (by cases h),fun h => (by cases h),fun h => (by cases h),fun h => (by cases h),fun p hp => (by cases hp)⟩
  ·unfold jev
   rw [decide_eq_false (Int.lt_irrefl (p0.length:Int)),cond_false]
 ·rintro k s _ hk rfl
  have hd:decide ((k:Int) < (p0.length:Int))=true := decide_eq_true (by omega)
  have ha := jiS hs hk hf
  have w0:IntKind.i64.wrap (p1.1 * (p0.getD k (0,0,0,0,0)).2.2.2.2)=p1.1 * (p0.getD k (0,0,0,0,0)).2.2.2.2 := jar (by omega) (by omega)
  obtain ⟨l1,l2⟩ := jDu hs hf hk (.inr (0,[]))
  refine ⟨?_,.inl ⟨jap (v_sq p0 p1 (k + 1)),?_,rfl,rfl⟩⟩
  ·simp only [jhb,fM,Int.toNat_natCast,w0]
   exact ⟨fun _ => hs,fun _ => (by omega),fun _ => (by omega),fun _ => l1,fun p hp => (by cases hp)⟩
  ·unfold jev
   rw [hd,cond_true]
   simp only [Int.toNat_natCast,w0]
   exact l2
abbrev t_Zb (p0:List tQB) (p1:Int×Int×Int×Int×Int×Int×Int×Int×Int):Int×List Int := jap (v_sq p0 p1 p0.length)
abbrev jnh (p0:List tQB) (p1:Int×Int×Int×Int×Int×Int×Int×Int×Int):List Prop := [v_smp p0,v_fok p1]
theorem jDv (p0:List tQB) (p1:Int×Int×Int×Int×Int×Int×Int×Int×Int) (hq:∀ p∈jnh p0 p1,p):∀ p∈jnf p0 p1,p := by
 obtain ⟨h1,h2,_⟩ := jah hq
 simp only [jnf,fM]
 exact ⟨by unfold jb3; omega,(jsR h1 h2 (0,[])).1,by simp⟩
theorem jDw (p0:List tQB) (p1:Int×Int×Int×Int×Int×Int×Int×Int×Int) (hq:∀ p∈jnh p0 p1,p):s_Zb p0 p1 = t_Zb p0 p1 := by
 obtain ⟨h1,h2,_⟩ := jah hq
 exact (jsR h1 h2 (0,[])).2

abbrev jsS:Con := ⟨P_Zb,R_Zb,fun x => jnh x.1 x.2,fun x => t_Zb x.1 x.2⟩
theorem jDx:jau Try.prog 14 jsS := okG k_Zb e_Zb jDs fun x hx => jaA (jDt x.1 x.2 _) (d_Zb x.1 x.2 _ (jDv x.1 x.2 hx) (jDw x.1 x.2 hx))
def jsT:Cons := [(67,[],jsB),(43,[],jm9)]
theorem jDy:jag Try.prog jsT := cC jCT <| cC jsI <| jag.nil
def jni (p0:gE) (p1:gE) (K:tQH→Prop):Prop := ((v_wok p1) ∧((v_wok p0) ∧((v_wok (jap (-(jaH p1)))) ∧(K (jap ((jaH p0) + (jaH (jap (-(jaH p1))))))))))
theorem jDz (p0:gE) (p1:gE) (K:tQH→Prop):tfn jpp jxb jsT jpq jpr (p0,p1) K = jni p0 p1 K := by kernel_rfl
def ji9 (p0:gE) (p1:gE):tQH := (jap ((jaH p0) + (jaH (jap (-(jaH p1))))))
abbrev jnj (p0:gE) (p1:gE):List Prop := [(v_wok p1),(v_wok p0),(v_wok (jap (-(jaH p1))))]
theorem jDA (p0:gE) (p1:gE) (K:tQH→Prop) (hp:∀ p∈jnj p0 p1,p) (h:K (ji9 p0 p1)):jni p0 p1 K := by
 unfold jni
 unfold ji9 at h
 obtain ⟨hp0,hp1,hp2,_⟩ := jah hp
 exact ⟨(hp0),(hp1),(hp2),h⟩
abbrev jnk (p0:Int×List Int) (p1:Int×List Int):Int×List Int := jap (jaH p0 - jaH p1)
abbrev jnl (p0:Int×List Int) (p1:Int×List Int):List Prop := [v_wok p0,v_wok p1]
theorem jDB (p0:Int×List Int) (p1:Int×List Int) (hq:∀ p∈jnl p0 p1,p):∀ p∈jnj p0 p1,p := by
 obtain ⟨h1,h2,_⟩ := jah hq
 obtain ⟨n,rfl,hn⟩ := h2.ex
 simp only [jnj,fM]
 exact ⟨h2,h1,by rw [jc5]; exact jg5 (by rw [jCP]; exact hn),by simp⟩
theorem jDC (p0:Int×List Int) (p1:Int×List Int) (hq:∀ p∈jnl p0 p1,p):ji9 p0 p1 = jnk p0 p1 := by
 obtain ⟨h1,h2,_⟩ := jah hq
 unfold ji9 jnk
 rw [jc5]; rfl

abbrev jsU:Con := ⟨jpq,jpr,fun x => jnl x.1 x.2,fun x => jnk x.1 x.2⟩
theorem jDD:jau Try.prog 41 jsU := okG jxd jxc jDy fun x hx => jaA (jDz x.1 x.2 _) (jDA x.1 x.2 _ (jDB x.1 x.2 hx) (jDC x.1 x.2 hx))
def jsV:Cons := [(41,[],jsU)]
theorem jDE:jag Try.prog jsV := cC jDD <| jag.nil
def jnm (p0:gE) (p1:gE) (K:Int→Prop):Prop := ((v_wok p0) ∧((v_wok p1) ∧(K (jap ((jaH p0) - (jaH p1))).1)))
theorem jDF (p0:gE) (p1:gE) (K:Int→Prop):tfn jo4 jwK jsV jo5 jo6 (p0,p1) K = jnm p0 p1 K := by kernel_rfl
def jja (p0:gE) (p1:gE):Int := (jap ((jaH p0) - (jaH p1))).1
abbrev jnn (p0:gE) (p1:gE):List Prop := [(v_wok p0),(v_wok p1)]
theorem jDG (p0:gE) (p1:gE) (K:Int→Prop) (hp:∀ p∈jnn p0 p1,p) (h:K (jja p0 p1)):jnm p0 p1 K := by
 unfold jnm
 unfold jja at h
 obtain ⟨hp0,hp1,_⟩ := jah hp
 exact ⟨(hp0),(hp1),h⟩
abbrev jno (p0:Int×List Int) (p1:Int×List Int):Int := jaF (jaH p0) (jaH p1)
abbrev jnp (p0:Int×List Int) (p1:Int×List Int):List Prop := [v_wok p0,v_wok p1]
theorem jDH (p0:Int×List Int) (p1:Int×List Int) (hq:∀ p∈jnp p0 p1,p):∀ p∈jnn p0 p1,p := by
 simpa only [jnn] using hq
theorem jDI (p0:Int×List Int) (p1:Int×List Int) (_hq:∀ p∈jnp p0 p1,p):jja p0 p1 = jno p0 p1 := by
 unfold jja jno
 exact jCQ _ _

abbrev jsW:Con := ⟨jo5,jo6,fun x => jnp x.1 x.2,fun x => jno x.1 x.2⟩
theorem jDJ:jau Try.prog 13 jsW := okG jwM jwL jDE fun x hx => jaA (jDF x.1 x.2 _) (jDG x.1 x.2 _ (jDH x.1 x.2 hx) (jDI x.1 x.2 hx))
def jsX:Cons := []
theorem jDK:jag Try.prog jsX := jag.nil
def jnq (p0:Int) (p1:Int) (K:tQG→Prop):Prop := ((p1 ≠ zz0) ∧((p1 ≠ zz0) ∧((((decide ((Int.tmod p0 p1) < 0))=true) →(((((IntKind.i64.wrap ((IntKind.i64.wrap ((IntKind.i64.wrap (Int.tdiv p0 p1)) - 1)) * p1)) != p0)=true) →(K ((IntKind.i64.wrap ((IntKind.i64.wrap (Int.tdiv p0 p1)) - 1)),(IntKind.i64.wrap ((IntKind.i64.wrap ((IntKind.i64.wrap (Int.tdiv p0 p1)) - 1)) + 1))))) ∧((((IntKind.i64.wrap ((IntKind.i64.wrap ((IntKind.i64.wrap (Int.tdiv p0 p1)) - 1)) * p1)) != p0)=false) →(K ((IntKind.i64.wrap ((IntKind.i64.wrap (Int.tdiv p0 p1)) - 1)),(IntKind.i64.wrap ((IntKind.i64.wrap (Int.tdiv p0 p1)) - 1))))))) ∧(((decide ((Int.tmod p0 p1) < 0))=false) →(((((IntKind.i64.wrap ((IntKind.i64.wrap (Int.tdiv p0 p1)) * p1)) != p0)=true) →(K ((IntKind.i64.wrap (Int.tdiv p0 p1)),(IntKind.i64.wrap ((IntKind.i64.wrap (Int.tdiv p0 p1)) + 1))))) ∧((((IntKind.i64.wrap ((IntKind.i64.wrap (Int.tdiv p0 p1)) * p1)) != p0)=false) →(K ((IntKind.i64.wrap (Int.tdiv p0 p1)),(IntKind.i64.wrap (Int.tdiv p0 p1))))))))))
theorem jDL (p0:Int) (p1:Int) (K:tQG→Prop):tfn jh3 jxh jsX jps jpt (p0,p1) K = jnq p0 p1 K := by kernel_rfl
def jjb (p0:Int) (p1:Int):tQG := (cond (decide ((Int.tmod p0 p1) < 0)) (cond ((IntKind.i64.wrap ((IntKind.i64.wrap ((IntKind.i64.wrap (Int.tdiv p0 p1)) - 1)) * p1)) != p0) ((IntKind.i64.wrap ((IntKind.i64.wrap (Int.tdiv p0 p1)) - 1)),(IntKind.i64.wrap ((IntKind.i64.wrap ((IntKind.i64.wrap (Int.tdiv p0 p1)) - 1)) + 1))) ((IntKind.i64.wrap ((IntKind.i64.wrap (Int.tdiv p0 p1)) - 1)),(IntKind.i64.wrap ((IntKind.i64.wrap (Int.tdiv p0 p1)) - 1)))) (cond ((IntKind.i64.wrap ((IntKind.i64.wrap (Int.tdiv p0 p1)) * p1)) != p0) ((IntKind.i64.wrap (Int.tdiv p0 p1)),(IntKind.i64.wrap ((IntKind.i64.wrap (Int.tdiv p0 p1)) + 1))) ((IntKind.i64.wrap (Int.tdiv p0 p1)),(IntKind.i64.wrap (Int.tdiv p0 p1)))))
abbrev jnr (_p0:Int) (p1:Int):List Prop := [(p1 ≠ (0:Int))]
theorem jDM (p0:Int) (p1:Int) (K:tQG→Prop) (hp:∀ p∈jnr p0 p1,p) (h:K (jjb p0 p1)):jnq p0 p1 K := by
 unfold jnq
 unfold jjb at h
 obtain ⟨hp0,_⟩ := jah hp
 exact ⟨(hp0),(hp0),(br' h (fun e0 h => (br' h (fun e1 h => h)
  (fun e1 h => h)))
  (fun e0 h => (br' h (fun e2 h => h)
  (fun e2 h => h))))⟩
abbrev jnt (p0:Int) (p1:Int):Int×Int := (p0 / p1,jdF p0 p1)
abbrev jnu (p0:Int) (p1:Int):List Prop := [-4611686018427387904≤p0∧p0≤4611686018427387904,0 < p1∧p1≤4611686018427387904]
theorem jDN (p0:Int) (p1:Int) (hq:∀ p∈jnu p0 p1,p):∀ p∈jnr p0 p1,p := by
 obtain ⟨h1,h2,_⟩ := jah hq
 simp only [jnr,fM]
 exact ⟨by omega,by simp⟩
theorem jDO (p0:Int) (p1:Int) (hq:∀ p∈jnu p0 p1,p):jjb p0 p1 = jnt p0 p1 := by
 obtain ⟨h1,h2,_⟩ := jah hq
 have hf := jFH (n := p0) (b := p1) ⟨by omega,by omega⟩ h2.1
 have m1 := Int.mul_ediv_add_emod p0 p1
 have m2 := Int.emod_nonneg p0 (show p1 ≠ 0 by omega)
 have m3 := Int.emod_lt_of_pos p0 h2.1
 have m4:p1 * (p0 / p1)=p0 / p1 * p1 := Int.mul_comm _ _
 have hd:(p0 / p1).natAbs≤p0.natAbs := Int.natAbs_ediv_le_natAbs _ _
 have w1:IntKind.i64.wrap (p0 / p1 * p1)=p0 / p1 * p1 := jar (by omega) (by omega)
 have w2:IntKind.i64.wrap (p0 / p1 + 1)=p0 / p1 + 1 := jar (by omega) (by omega)
 have hc:jdF p0 p1 = cond ((p0 / p1 * p1) != p0) (p0 / p1 + 1) (p0 / p1) := by
  unfold jdF
  by_cases e:p0 / p1 * p1 = p0
  ·rw [bne_eq_false_iff_eq.2 e,cond_false]
   have := ((Int.ediv_emod_unique (a := -p0) (b := p1) (q := -(p0 / p1)) (r := 0) h2.1).2 ⟨by rw [Int.mul_neg]; omega,by omega,h2.1⟩).1
   omega
  ·rw [bne_iff_ne.2 e,cond_true]
   have := ((Int.ediv_emod_unique (a := -p0) (b := p1) (q := -(p0 / p1) - 1) (r := p1 - p0 % p1) h2.1).2 ⟨by rw [Int.mul_sub,Int.mul_neg,Int.mul_one]; omega,by omega,by omega⟩).1
   omega
 unfold jjb jnt
 cases c:decide (p0.tmod p1 < 0) <;> rw [c] at hf <;> simp only [cond_true,cond_false] at hf ⊢ <;> rw [hf,w1,w2,hc] <;> cases (p0 / p1 * p1 != p0) <;> rfl

abbrev jsY:Con := ⟨jps,jpt,fun x => jnu x.1 x.2,fun x => jnt x.1 x.2⟩
theorem jDP:jau Try.prog 49 jsY := okG jxi jpu jDK fun x hx => jaA (jDL x.1 x.2 _) (jDM x.1 x.2 _ (jDN x.1 x.2 hx) (jDO x.1 x.2 hx))
structure v_ser (l:gF):Prop where
 ne:0 < l.length
 len:l.length≤40
 ok:∀ x∈l,-100000≤x∧x≤100000
def C_Zh:Cons := [(27,[],jiF),(36,[],jmu),(26,[],jgy),(40,[],jmx),(49,[],jsY)]
theorem jDQ:jag Try.prog C_Zh := cC jmc <| cC jr8 <| cC jim <| cC jsa <| cC jDP <| jag.nil
def w_Zh (p0:tQF) (p1:tQC) (p2:Int) (K:((List tQG)×Int)→Prop):Prop := ((jbA ((v_cs p0).2 :: ((jaI p1) :: ([]:List Int)))) ∧(((((jaG ((v_cs p0).2 :: ((jaI p1) :: ([]:List Int)))) != 0)=true) →(K (([]:List tQG),(jaG ((v_cs p0).2 :: ((jaI p1) :: ([]:List Int))))))) ∧((((jaG ((v_cs p0).2 :: ((jaI p1) :: ([]:List Int)))) != 0)=false) →(∃ n0,(jaX (fun (y1:(Int×(List tQG))) k2 => ((((decide (y1.1 < (p0.length:Int)))=true) →((v_smp p0) ∧((zz0≤y1.1) ∧((y1.1 < (p0.length:Int)) ∧(((zz0≤p2) ∧(p2≤1)) ∧((v_fok p1) ∧((((-4611686018427387904:Int)≤(jaD p0 y1.1.toNat p2.toNat p1)) ∧((jaD p0 y1.1.toNat p2.toNat p1)≤4611686018427387904)) ∧(((zz0 < p1.1) ∧(p1.1≤4611686018427387904)) ∧((((y1.2.length + (List.length ((((jaD p0 y1.1.toNat p2.toNat p1) / p1.1),(jdF (jaD p0 y1.1.toNat p2.toNat p1) p1.1)) :: ([]:List tQG)))) * 16)≤140737488355328) ∧(k2 ((IntKind.i64.wrap (y1.1 + 1)),(y1.2 ++ ((((jaD p0 y1.1.toNat p2.toNat p1) / p1.1),(jdF (jaD p0 y1.1.toNat p2.toNat p1) p1.1)) :: ([]:List tQG)))))))))))))) ∧(((decide (y1.1 < (p0.length:Int)))=false) →(K (y1.2,zz0))))) n0 (zz0,([]:List tQG)))))))
theorem jDR (p0:tQF) (p1:tQC) (p2:Int) (K:((List tQG)×Int)→Prop):tfn F_Zh A_Zh C_Zh P_Zh R_Zh (p0,p1,p2) K = w_Zh p0 p1 p2 K := by kernel_rfl
def jew (p0:tQF) (p1:tQC) (p2:Int) (y1:(Int×(List tQG))):(Int×(List tQG)) ⊕ ((List tQG)×Int) := (cond (decide (y1.1 < (p0.length:Int))) (Sum.inl ((IntKind.i64.wrap (y1.1 + 1)),(y1.2 ++ ((((jaD p0 y1.1.toNat p2.toNat p1) / p1.1),(jdF (jaD p0 y1.1.toNat p2.toNat p1) p1.1)) :: ([]:List tQG))))) (Sum.inr (y1.2,(0:Int))))
abbrev jhc (p0:tQF) (p1:tQC) (p2:Int) (y1:(Int×(List tQG))):List Prop := [(((decide (y1.1 < (p0.length:Int)))=true)→(v_smp p0)),(((decide (y1.1 < (p0.length:Int)))=true)→((0:Int)≤y1.1)),(((decide (y1.1 < (p0.length:Int)))=true)→(y1.1 < (p0.length:Int))),(((decide (y1.1 < (p0.length:Int)))=true)→(((0:Int)≤p2)∧(p2≤1))),(((decide (y1.1 < (p0.length:Int)))=true)→(v_fok p1)),(((decide (y1.1 < (p0.length:Int)))=true)→(((-4611686018427387904:Int)≤(jaD p0 y1.1.toNat p2.toNat p1))∧((jaD p0 y1.1.toNat p2.toNat p1)≤4611686018427387904))),(((decide (y1.1 < (p0.length:Int)))=true)→(((0:Int) < p1.1)∧(p1.1≤4611686018427387904))),(((decide (y1.1 < (p0.length:Int)))=true)→(((y1.2.length + (List.length ((((jaD p0 y1.1.toNat p2.toNat p1) / p1.1),(jdF (jaD p0 y1.1.toNat p2.toNat p1) p1.1)) :: ([]:List tQG)))) * 16)≤140737488355328))]
def s_Zh (p0:tQF) (p1:tQC) (p2:Int):((List tQG)×Int) := (cond ((jaG ((v_cs p0).2 :: ((jaI p1) :: ([]:List Int)))) != 0) (([]:List tQG),(jaG ((v_cs p0).2 :: ((jaI p1) :: ([]:List Int))))) (lpv ([],(0:Int)) (jew p0 p1 p2) ((0:Int),([]:List tQG))))
abbrev jnv (p0:tQF) (p1:tQC) (p2:Int):List Prop := [((((jaG ((v_cs p0).2 :: ((jaI p1) :: ([]:List Int)))) != 0)=false)→(OkL (jew p0 p1 p2) (jhc p0 p1 p2) ((0:Int),([]:List tQG))))]
theorem d_Zh (p0:tQF) (p1:tQC) (p2:Int) (K:((List tQG)×Int)→Prop) (hp:∀ p∈jnv p0 p1 p2,p) (h:K (s_Zh p0 p1 p2)):w_Zh p0 p1 p2 K := by
 unfold w_Zh
 unfold s_Zh at h
 obtain ⟨hp0,_⟩ := jah hp
 exact ⟨(jf5 2 rfl (by decide)),(br' h (fun e0 h => h)
  (fun e0 h => (ja5 (hp0 e0) h (fun y1 k1 hp h => by
 unfold jew at h; obtain ⟨hp0,hp1,hp2,hp3,hp4,hp5,hp6,hp7,_⟩ := jah hp
 exact (br' h (fun e2 h => ⟨(hp0 e2),(hp1 e2),(hp2 e2),(hp3 e2),(hp4 e2),(hp5 e2),(hp6 e2),(hp7 e2),h⟩)
  (fun e2 h => h))))))⟩
/-- What remains of a reading,of all; what is wrong. -/
def jhd (l:List tQB) (f:Int×Int×Int×Int×Int×Int×Int×Int×Int) (m j:Nat):Int×Int := (jaD l j m f / f.1,jdF (jaD l j m f) f.1)
def jdh (l:List tQB) (m:Nat) (f:Int×Int×Int×Int×Int×Int×Int×Int×Int):List tQG := (List.range' 0 l.length).map (jhd l f m)
def jex (l:List tQB) (f:Int×Int×Int×Int×Int×Int×Int×Int×Int):Int := jaG [(v_cs l).2,jaI f]
def jbc (l:List tQB) (f:Int×Int×Int×Int×Int×Int×Int×Int×Int) (m:Int):List tQG×Int := cond (jex l f != 0) ([],jex l f) (jdh l m.toNat f,0)
theorem jsZ (l:List tQB) (m:Nat) (f:Int×Int×Int×Int×Int×Int×Int×Int×Int):(jdh l m f).length = l.length := by unfold jdh; simp
theorem jDS {l:List tQB} {m k:Nat} {f:Int×Int×Int×Int×Int×Int×Int×Int×Int} (hk:k < l.length):(jdh l m f).getD k (0,0)=jhd l f m k := by
 unfold jdh
 rw [List.getD_eq_getElem?_getD,List.getElem?_map,List.getElem?_range' hk]; simp
theorem js0 {l:List tQB} {f:Int×Int×Int×Int×Int×Int×Int×Int×Int} (h:jex l f = 0):v_smp l∧v_fok f := by
 unfold jex at h
 obtain ⟨h1,h2⟩ := jfi h
 exact ⟨jed.1 h1,jgS (jfi h2).1⟩
theorem js1 (l:List tQB) (f:Int×Int×Int×Int×Int×Int×Int×Int×Int) (m:Nat) (hm:m≤1) (h:v_smp l) (hf:v_fok f):OkL (jew l f m) (jhc l f m) (0,[])∧lpv ([],0) (jew l f m) (0,[])=((jdh l m f),0) := by
 have hl := h.len
 have hd := hf.den
 refine @jFL tQG (Int×List tQG) (List tQG×Int) ([],0) (jew l f m) (jhc l f m) (fun i t => (i,t)) 0 l.length (jhd l f m) (fun t => (t,0)) (Nat.zero_le _) (by omega) ?_ ?_
 ·rintro t _
  simp only [jhc,jew,fM,decide_eq_false (Int.lt_irrefl (l.length:Int)),cond_false]
  refine ⟨?_,by first | rfl | trivial⟩
  and_intros
  all_goals first
   | (intro h; cases h; done)
   | (intro p hp; cases hp)
 ·rintro j t h0 hj h1
  have hw1:IntKind.i64.wrap ((j:Int) + 1)=((j + 1:Nat):Int) := jar (by omega) (by omega)
  have hdd:decide ((j:Int) < (l.length:Int))=true := decide_eq_true (by omega)
  have hb := jiT h hj hf (m := m) (by omega)
  simp only [jhc,jew,fM,Int.toNat_natCast,hw1,hdd,cond_true,show (0:Int).toNat = 0 from rfl,show (1:Int).toNat = 1 from rfl]
  refine ⟨?_,by first | rfl | trivial⟩
  and_intros
  all_goals first
   | (intro p hp; cases hp; done)
   | (intros; exact h)
   | (intros; exact hf)
   | (intros; simp only [List.length_cons,List.length_nil]; omega)
   | (intros; omega)
abbrev t_Zh (p0:List tQB) (p1:Int×Int×Int×Int×Int×Int×Int×Int×Int) (p2:Int):List tQG×Int := jbc p0 p1 p2
abbrev jnw (_p0:List tQB) (_p1:Int×Int×Int×Int×Int×Int×Int×Int×Int) (p2:Int):List Prop := [0≤p2∧p2≤1]
theorem jDT (p0:List tQB) (p1:Int×Int×Int×Int×Int×Int×Int×Int×Int) (p2:Int) (hq:∀ p∈jnw p0 p1 p2,p):∀ p∈jnv p0 p1 p2,p := by
 obtain ⟨h1,_⟩ := jah hq
 obtain ⟨m,rfl⟩ : ∃ m:Nat,p2 = m := ⟨p2.toNat,by omega⟩
 simp only [jnv,fM,show ∀ (x:List tQB) (y:Int×Int×Int×Int×Int×Int×Int×Int×Int),jaG [(v_cs x).2,jaI y]=jex x y from fun _ _ => rfl]
 refine ⟨fun e => ?_,by simp⟩
 obtain ⟨s1,s2⟩ := js0 (jf7 e)
 exact (js1 p0 p1 m (by omega) s1 s2).1
theorem jDU (p0:List tQB) (p1:Int×Int×Int×Int×Int×Int×Int×Int×Int) (p2:Int) (hq:∀ p∈jnw p0 p1 p2,p):s_Zh p0 p1 p2 = t_Zh p0 p1 p2 := by
 obtain ⟨h1,_⟩ := jah hq
 obtain ⟨m,rfl⟩ : ∃ m:Nat,p2 = m := ⟨p2.toNat,by omega⟩
 unfold s_Zh t_Zh jbc
 simp only [show ∀ (x:List tQB) (y:Int×Int×Int×Int×Int×Int×Int×Int×Int),jaG [(v_cs x).2,jaI y]=jex x y from fun _ _ => rfl]
 rcases int0 (jex p0 p1) with ⟨z,e,_⟩ | ⟨z,e,_⟩ <;> rw [e]
 ·obtain ⟨s1,s2⟩ := js0 z
  exact (js1 p0 p1 m (by omega) s1 s2).2
 ·rfl

abbrev js2:Con := ⟨P_Zh,R_Zh,fun x => jnw x.1 x.2.1 x.2.2,fun x => t_Zh x.1 x.2.1 x.2.2⟩
theorem jDV:jau Try.prog 45 js2 := okG k_Zh e_Zh jDQ fun x hx => jaA (jDR x.1 x.2.1 x.2.2 _) (d_Zh x.1 x.2.1 x.2.2 _ (jDT x.1 x.2.1 x.2.2 hx) (jDU x.1 x.2.1 x.2.2 hx))
def js3:Cons := [(45,[],js2)]
theorem jDW:jag Try.prog js3 := cC jDV <| jag.nil
def jnx (p0:tQF) (p1:tQC) (K:((List tQG)×Int)→Prop):Prop := (((zz0≤0) ∧(zz0≤1)) ∧(K (jbc p0 p1 zz0)))
theorem jDX (p0:tQF) (p1:tQC) (K:((List tQG)×Int)→Prop):tfn jo7 jwN js3 jo8 jo9 (p0,p1) K = jnx p0 p1 K := by kernel_rfl
def jny (p0:tQF) (p1:tQC):((List tQG)×Int) := (jbc p0 p1 (0:Int))
abbrev js4 (_p0:tQF) (_p1:tQC):List Prop := []
theorem jDY (p0:tQF) (p1:tQC) (K:((List tQG)×Int)→Prop) (_hp:∀ p∈js4 p0 p1,p) (h:K (jny p0 p1)):jnx p0 p1 K := by
 unfold jnx
 unfold jny at h
 exact ⟨(od rfl),h⟩
abbrev js5:Con := ⟨jo8,jo9,fun x => js4 x.1 x.2,fun x => jny x.1 x.2⟩
theorem jDZ:jau Try.prog 15 js5 := okG jwP jwO jDW fun x hx => jaA (jDX x.1 x.2 _) (jDY x.1 x.2 _ hx rfl)
def C_Z1:Cons := [(4,[],jqg),(5,[],jqj),(6,[],jqP),(8,jjY,jqS),(7,[],jrY),(9,[],jse),(10,[],jsg),(11,[],jeU),(12,[],jmH),(14,[],jsS),(13,[],jsW),(15,[],js5)]
theorem jD0:jag Try.prog C_Z1 := cC jx8 <| cC jyc <| cC jy4 <| jag.consO jy8 <| cC jBO <| cC jCg <| cC jCm <| cC jfH <| cC jsh <| cC jDx <| cC jDJ <| cC jDZ <| jag.nil
abbrev jaM (p0:tQF) := (([]:List tQA) ++ p0)
abbrev jds (p0:tQF) (p1:Int) (y4:tQM) := (!((y4.2.1.1 == (jai (jaM p0) p1).1.1) && ((y4.2.1.2.1 == (jai (jaM p0) p1).1.2.1) && ((y4.2.1.2.2.1 == (jai (jaM p0) p1).1.2.2.1) && ((y4.2.1.2.2.2.1 == (jai (jaM p0) p1).1.2.2.2.1) && ((y4.2.1.2.2.2.2.1 == (jai (jaM p0) p1).1.2.2.2.2.1) && ((y4.2.1.2.2.2.2.2.1 == (jai (jaM p0) p1).1.2.2.2.2.2.1) && ((y4.2.1.2.2.2.2.2.2.1 == (jai (jaM p0) p1).1.2.2.2.2.2.2.1) && ((y4.2.1.2.2.2.2.2.2.2.1 == (jai (jaM p0) p1).1.2.2.2.2.2.2.2.1) && ((y4.2.1.2.2.2.2.2.2.2.2 == (jai (jaM p0) p1).1.2.2.2.2.2.2.2.2) && true))))))))))
abbrev jbm (p1:Int) (y4:tQM) := (jbc y4.2.2 (jai (([]:List tQA) ++ y4.2.2) p1).1 zz0)
abbrev jjc (p2:tQJ) (y4:tQM) := (List.getD (p2.1 :: (p2.2.1 :: (p2.2.2.1 :: (p2.2.2.2.1 :: (p2.2.2.2.2.1 :: (p2.2.2.2.2.2.1 :: (p2.2.2.2.2.2.2.1 :: (p2.2.2.2.2.2.2.2 :: ([]:List Int))))))))) y4.1.toNat zz0)
abbrev jey (p2:tQJ) (y4:tQM) := ((List.getD (y4.2.1.2.1 :: (y4.2.1.2.2.1 :: (y4.2.1.2.2.2.1 :: (y4.2.1.2.2.2.2.1 :: (y4.2.1.2.2.2.2.2.1 :: (y4.2.1.2.2.2.2.2.2.1 :: (y4.2.1.2.2.2.2.2.2.2.1 :: (y4.2.1.2.2.2.2.2.2.2.2 :: ([]:List Int))))))))) y4.1.toNat zz0) + (jjc p2 y4))
abbrev jdt (p0:tQF) (p1:Int) := (cond ((ja6 (jaM p0) p1 (jai (jaM p0) p1).1).2 != zz0) true ((ja6 (jaM p0) p1 (jai (jaM p0) p1).1).1 != zz0))
abbrev jb2 (p1:Int) (y4:tQM) := ((jai (([]:List tQA) ++ y4.2.2) p1).2 != zz0)
abbrev jdu (p1:Int) (y4:tQM) := (((jbm p1 y4).2 != zz0)=((jbm p1 y4).2 != zz0))
abbrev jjd (p0:tQF) (p1:Int) (y4:tQM) := (cond ((jbm p1 y4).2 != zz0) true ((((jbm p1 y4).1.length:Nat):Int) != (p0.length:Int)))
abbrev jhe (p1:Int) (y4:tQM) := (((jam .i64 (jab .i64 p1 y4.1) zz1) == zz0)=((jam .i64 (jab .i64 p1 y4.1) zz1) == zz0))
abbrev jje (p1:Int) (y4:tQM) := (cond (jb2 p1 y4) true ((jaI (jai (([]:List tQA) ++ y4.2.2) p1).1) != zz0))
abbrev jjf (p0:tQF) := ((!(decide ((p0.length:Int)≤22)))=(!(decide ((p0.length:Int)≤22))))
abbrev jjg (p0:tQF) := ((((List.length ([]:List tQA)) + p0.length) * 40)≤140737488355328)
abbrev jhf (y7:(Int×tQF)) := (y7.2.getD y7.1.toNat (zz0,(zz0,(zz0,(zz0,zz0)))))
def w_Z1 (p0:tQF) (p1:Int) (p2:tQJ) (K:Bool→Prop):Prop := ((((!(jkO))=true) →(K false)) ∧(((!(jkO))=false) →((((!(decide ((p0.length:Int)≤22)))=false) →(jjf p0)) ∧((((!(decide ((p0.length:Int)≤22)))=false) →(jjf p0)) ∧((((!(decide ((p0.length:Int)≤22)))=false) →(jjf p0)) ∧((jjf p0) ∧((((cond (!(decide ((p0.length:Int)≤22))) true ((jcr p0 p1) != zz0))=true) →(K true)) ∧(((cond (!(decide ((p0.length:Int)≤22))) true ((jcr p0 p1) != zz0))=false) →((jjg p0) ∧(((((jai (jaM p0) p1).2 != zz0)=true) →(((((jai (jaM p0) p1).2 == 12)=false) →(((jai (jaM p0) p1).2 == 12)=((jai (jaM p0) p1).2 == 12))) ∧((((jai (jaM p0) p1).2 == 12)=((jai (jaM p0) p1).2 == 12)) ∧(K (cond ((jai (jaM p0) p1).2 == 12) true ((jai (jaM p0) p1).2 == 8)))))) ∧((((jai (jaM p0) p1).2 != zz0)=false) →((jjg p0) ∧(((((ja6 (jaM p0) p1 (jai (jaM p0) p1).1).2 != zz0)=false) →(((ja6 (jaM p0) p1 (jai (jaM p0) p1).1).2 != zz0)=((ja6 (jaM p0) p1 (jai (jaM p0) p1).1).2 != zz0))) ∧((((ja6 (jaM p0) p1 (jai (jaM p0) p1).1).2 != zz0)=((ja6 (jaM p0) p1 (jai (jaM p0) p1).1).2 != zz0)) ∧((((jdt p0 p1)=false) →((jdt p0 p1)=(jdt p0 p1))) ∧((((jdt p0 p1)=false) →((jdt p0 p1)=(jdt p0 p1))) ∧(((jdt p0 p1)=(jdt p0 p1)) ∧((((cond (jdt p0 p1) true ((jaI (jai (jaM p0) p1).1) != zz0))=true) →(K false)) ∧(((cond (jdt p0 p1) true ((jaI (jai (jaM p0) p1).1) != zz0))=false) →((jjg p0) ∧(∃ n0,(jaX (fun (y1:(Int×tQF)) k2 => ((((decide (y1.1 < (y1.2.length:Int)))=true) →((zz0≤y1.1) ∧((y1.1 < (y1.2.length:Int)) ∧(k2 ((wi (y1.1 + zz1)),(List.set y1.2 y1.1.toNat ((y1.2.getD y1.1.toNat (zz0,(zz0,(zz0,(zz0,zz0))))).1,((y1.2.getD y1.1.toNat (zz0,(zz0,(zz0,(zz0,zz0))))).2.1,((y1.2.getD y1.1.toNat (zz0,(zz0,(zz0,(zz0,zz0))))).2.2.1,((y1.2.getD y1.1.toNat (zz0,(zz0,(zz0,(zz0,zz0))))).2.2.2.1,zz0)))))))))) ∧(((decide (y1.1 < (y1.2.length:Int)))=false) →(∃ n3,(jaX (fun (y4:tQM) k5 => ((((decide (y4.1 < 8))=true) →((zz0≤y4.1) ∧(((((jam .i64 (jab .i64 p1 y4.1) zz1) == zz0)=false) →(jhe p1 y4)) ∧(((((jam .i64 (jab .i64 p1 y4.1) zz1) == zz0)=false) →(zz0≤y4.1)) ∧(((((jam .i64 (jab .i64 p1 y4.1) zz1) == zz0)=false) →(y4.1 < 8)) ∧(((((jam .i64 (jab .i64 p1 y4.1) zz1) == zz0)=false) →(jhe p1 y4)) ∧(((((jam .i64 (jab .i64 p1 y4.1) zz1) == zz0)=false) →(jhe p1 y4)) ∧(((((jam .i64 (jab .i64 p1 y4.1) zz1) == zz0)=false) →(jhe p1 y4)) ∧((jhe p1 y4) ∧((((cond ((jam .i64 (jab .i64 p1 y4.1) zz1) == zz0) true (!(s_Z5 (jjc p2 y4) (-20:Int) (20:Int))))=true) →(k5 ((wi (y4.1 + zz1)),y4.2))) ∧(((cond ((jam .i64 (jab .i64 p1 y4.1) zz1) == zz0) true (!(s_Z5 (jjc p2 y4) (-20:Int) (20:Int))))=false) →((zz0≤y4.1) ∧((y4.1 < 8) ∧((zz0≤y4.1) ∧((y4.1 < 8) ∧((zz0≤y4.1) ∧((y4.1 < 8) ∧(∃ n6,(jaX (fun (y7:(Int×tQF)) k8 => ((((decide (y7.1 < (y7.2.length:Int)))=true) →((zz0≤y7.1) ∧((y7.1 < (y7.2.length:Int)) ∧((zz0≤y4.1) ∧((y4.1 < 8) ∧((v_smp p0) ∧((zz0≤y7.1) ∧((y7.1 < (p0.length:Int)) ∧((zz0≤y4.1) ∧((y4.1 < 8) ∧((zz0≤y7.1) ∧((y7.1 < (y7.2.length:Int)) ∧(k8 ((wi (y7.1 + zz1)),(List.set y7.2 y7.1.toNat ((jhf y7).1,((jhf y7).2.1,((jhf y7).2.2.1,((jhf y7).2.2.2.1,(wi ((jhf y7).2.2.2.2 + (wi ((jjc p2 y4) * (List.getD ((jae p0 y7.1.toNat).1 :: ((jae p0 y7.1.toNat).2.1 :: ((jae p0 y7.1.toNat).2.2.1 :: ((jae p0 y7.1.toNat).2.2.2.1 :: ((jae p0 y7.1.toNat).2.2.2.2.1 :: ((jae p0 y7.1.toNat).2.2.2.2.2.1 :: ((jae p0 y7.1.toNat).2.2.2.2.2.2.1 :: ((jae p0 y7.1.toNat).2.2.2.2.2.2.2 :: ([]:List Int))))))))) y4.1.toNat zz0)))))))))))))))))))))))) ∧(((decide (y7.1 < (y7.2.length:Int)))=false) →(k5 ((wi (y4.1 + zz1)),((y4.2.1.1,((cond (decide (y4.1 = zz0)) (wi (jey p2 y4)) y4.2.1.2.1),((cond (decide (y4.1 = zz1)) (wi (jey p2 y4)) y4.2.1.2.2.1),((cond (decide (y4.1 = zz2)) (wi (jey p2 y4)) y4.2.1.2.2.2.1),((cond (decide (y4.1 = zz3)) (wi (jey p2 y4)) y4.2.1.2.2.2.2.1),((cond (decide (y4.1 = (4:Int))) (wi (jey p2 y4)) y4.2.1.2.2.2.2.2.1),((cond (decide (y4.1 = (5:Int))) (wi (jey p2 y4)) y4.2.1.2.2.2.2.2.2.1),((cond (decide (y4.1 = (6:Int))) (wi (jey p2 y4)) y4.2.1.2.2.2.2.2.2.2.1),(cond (decide (y4.1 = (7:Int))) (wi (jey p2 y4)) y4.2.1.2.2.2.2.2.2.2.2))))))))),y7.2)))))) n6 (zz0,y4.2.2)))))))))))))))))))) ∧(((decide (y4.1 < 8))=false) →((((jds p0 p1 y4)=true) →((jds p0 p1 y4)=(jds p0 p1 y4))) ∧((((jds p0 p1 y4)=true) →((jds p0 p1 y4)=(jds p0 p1 y4))) ∧(((jds p0 p1 y4)=(jds p0 p1 y4)) ∧((((cond (jds p0 p1 y4) ((jaI y4.2.1) == zz0) false)=true) →((jjg p0) ∧(((((ja6 (jaM p0) p1 y4.2.1).2 != zz3)=true) →(((ja6 (jaM p0) p1 y4.2.1).2 != zz3)=((ja6 (jaM p0) p1 y4.2.1).2 != zz3))) ∧((((ja6 (jaM p0) p1 y4.2.1).2 != zz3)=((ja6 (jaM p0) p1 y4.2.1).2 != zz3)) ∧((((cond ((ja6 (jaM p0) p1 y4.2.1).2 != zz3) ((ja6 (jaM p0) p1 y4.2.1).2 != 19) false)=true) →(K false)) ∧(((cond ((ja6 (jaM p0) p1 y4.2.1).2 != zz3) ((ja6 (jaM p0) p1 y4.2.1).2 != 19) false)=false) →((v_smp p0) ∧((v_fok (jai (jaM p0) p1).1) ∧((v_smp p0) ∧((v_fok y4.2.1) ∧((v_wok (jap (v_sq p0 (jai (jaM p0) p1).1 p0.length))) ∧((v_wok (jap (v_sq p0 y4.2.1 p0.length))) ∧((((decide ((jaF (jaH (jap (v_sq p0 (jai (jaM p0) p1).1 p0.length))) (jaH (jap (v_sq p0 y4.2.1 p0.length)))) > zz0))=true) →(K false)) ∧(((decide ((jaF (jaH (jap (v_sq p0 (jai (jaM p0) p1).1 p0.length))) (jaH (jap (v_sq p0 y4.2.1 p0.length)))) > zz0))=false) →(((((List.length ([]:List tQA)) + y4.2.2.length) * 40)≤140737488355328) ∧((((jb2 p1 y4)=false) →((jb2 p1 y4)=(jb2 p1 y4))) ∧((((jb2 p1 y4)=false) →((jb2 p1 y4)=(jb2 p1 y4))) ∧(((jb2 p1 y4)=(jb2 p1 y4)) ∧((((jje p1 y4)=true) →(K false)) ∧(((jje p1 y4)=false) →(((((jbm p1 y4).2 != zz0)=false) →(jdu p1 y4)) ∧(((((jbm p1 y4).2 != zz0)=false) →(jdu p1 y4)) ∧(((((jbm p1 y4).2 != zz0)=false) →(jdu p1 y4)) ∧(((((jbm p1 y4).2 != zz0)=false) →(jdu p1 y4)) ∧((jdu p1 y4) ∧((((jjd p0 p1 y4)=true) →(K false)) ∧(((jjd p0 p1 y4)=false) →(∃ n9,(jaX (fun (y10:Int) k11 => ((((decide (y10 < (((jbm p1 y4).1.length:Nat):Int)))=true) →((zz0≤y10) ∧((y10 < (((jbm p1 y4).1.length:Nat):Int)) ∧((((!(((List.getD (jbm p1 y4).1 y10.toNat (zz0,zz0)).1 == zz0) && (((List.getD (jbm p1 y4).1 y10.toNat (zz0,zz0)).2 == zz0) && true)))=true) →(K false)) ∧(((!(((List.getD (jbm p1 y4).1 y10.toNat (zz0,zz0)).1 == zz0) && (((List.getD (jbm p1 y4).1 y10.toNat (zz0,zz0)).2 == zz0) && true)))=false) →(k11 (wi (y10 + zz1)))))))) ∧(((decide (y10 < (((jbm p1 y4).1.length:Nat):Int)))=false) →(K true)))) n9 zz0))))))))))))))))))))))))))))) ∧(((cond (jds p0 p1 y4) ((jaI y4.2.1) == zz0) false)=false) →(((((List.length ([]:List tQA)) + y4.2.2.length) * 40)≤140737488355328) ∧((((jb2 p1 y4)=false) →((jb2 p1 y4)=(jb2 p1 y4))) ∧((((jb2 p1 y4)=false) →((jb2 p1 y4)=(jb2 p1 y4))) ∧(((jb2 p1 y4)=(jb2 p1 y4)) ∧((((jje p1 y4)=true) →(K false)) ∧(((jje p1 y4)=false) →(((((jbm p1 y4).2 != zz0)=false) →(jdu p1 y4)) ∧(((((jbm p1 y4).2 != zz0)=false) →(jdu p1 y4)) ∧(((((jbm p1 y4).2 != zz0)=false) →(jdu p1 y4)) ∧(((((jbm p1 y4).2 != zz0)=false) →(jdu p1 y4)) ∧((jdu p1 y4) ∧((((jjd p0 p1 y4)=true) →(K false)) ∧(((jjd p0 p1 y4)=false) →(∃ n12,(jaX (fun (y13:Int) k14 => ((((decide (y13 < (((jbm p1 y4).1.length:Nat):Int)))=true) →((zz0≤y13) ∧((y13 < (((jbm p1 y4).1.length:Nat):Int)) ∧((((!(((List.getD (jbm p1 y4).1 y13.toNat (zz0,zz0)).1 == zz0) && (((List.getD (jbm p1 y4).1 y13.toNat (zz0,zz0)).2 == zz0) && true)))=true) →(K false)) ∧(((!(((List.getD (jbm p1 y4).1 y13.toNat (zz0,zz0)).1 == zz0) && (((List.getD (jbm p1 y4).1 y13.toNat (zz0,zz0)).2 == zz0) && true)))=false) →(k14 (wi (y13 + zz1)))))))) ∧(((decide (y13 < (((jbm p1 y4).1.length:Nat):Int)))=false) →(K true)))) n12 zz0))))))))))))))))))))))) n3 (zz0,((jai (jaM p0) p1).1,y1.2))))))) n0 (zz0,(jaM p0))))))))))))))))))))))))
theorem jD1 (p0:tQF) (p1:Int) (p2:tQJ) (K:Bool→Prop):tfn F_Z1 A_Z1 C_Z1 P_Z1 R_Z1 (p0,p1,p2) K = w_Z1 p0 p1 p2 K := by kernel_rfl
abbrev jez (p2:tQJ) (y5:tQM) := (IntKind.i64.wrap ((List.getD (y5.2.1.2.1 :: (y5.2.1.2.2.1 :: (y5.2.1.2.2.2.1 :: (y5.2.1.2.2.2.2.1 :: (y5.2.1.2.2.2.2.2.1 :: (y5.2.1.2.2.2.2.2.2.1 :: (y5.2.1.2.2.2.2.2.2.2.1 :: (y5.2.1.2.2.2.2.2.2.2.2 :: ([]:List Int))))))))) y5.1.toNat (0:Int)) + (List.getD (p2.1 :: (p2.2.1 :: (p2.2.2.1 :: (p2.2.2.2.1 :: (p2.2.2.2.2.1 :: (p2.2.2.2.2.2.1 :: (p2.2.2.2.2.2.2.1 :: (p2.2.2.2.2.2.2.2 :: ([]:List Int))))))))) y5.1.toNat (0:Int))))
def jdv (p0:tQF) (_p1:Int) (p2:tQJ) (_y3:(Int×tQF)) (y5:tQM) (y8:(Int×tQF)):(Int×tQF) ⊕ (tQM ⊕ ((Int×tQF) ⊕ Bool)) := (cond (decide (y8.1 < (y8.2.length:Int))) (Sum.inl ((IntKind.i64.wrap (y8.1 + 1)),(List.set y8.2 y8.1.toNat ((y8.2.getD y8.1.toNat ((0:Int),((0:Int),((0:Int),(0,0))))).1,((y8.2.getD y8.1.toNat ((0:Int),((0:Int),((0:Int),(0,0))))).2.1,((y8.2.getD y8.1.toNat ((0:Int),((0:Int),((0:Int),(0,0))))).2.2.1,((y8.2.getD y8.1.toNat ((0:Int),((0:Int),((0:Int),(0,0))))).2.2.2.1,(IntKind.i64.wrap ((y8.2.getD y8.1.toNat ((0:Int),((0:Int),((0:Int),(0,0))))).2.2.2.2 + (IntKind.i64.wrap ((List.getD (p2.1 :: (p2.2.1 :: (p2.2.2.1 :: (p2.2.2.2.1 :: (p2.2.2.2.2.1 :: (p2.2.2.2.2.2.1 :: (p2.2.2.2.2.2.2.1 :: (p2.2.2.2.2.2.2.2 :: ([]:List Int))))))))) y5.1.toNat (0:Int)) * (List.getD ((jae p0 y8.1.toNat).1 :: ((jae p0 y8.1.toNat).2.1 :: ((jae p0 y8.1.toNat).2.2.1 :: ((jae p0 y8.1.toNat).2.2.2.1 :: ((jae p0 y8.1.toNat).2.2.2.2.1 :: ((jae p0 y8.1.toNat).2.2.2.2.2.1 :: ((jae p0 y8.1.toNat).2.2.2.2.2.2.1 :: ((jae p0 y8.1.toNat).2.2.2.2.2.2.2 :: ([]:List Int))))))))) y5.1.toNat (0:Int))))))))))))) (Sum.inr (Sum.inl ((IntKind.i64.wrap (y5.1 + 1)),((y5.2.1.1,((cond (decide (y5.1 = (0:Int))) (jez p2 y5) y5.2.1.2.1),((cond (decide (y5.1 = (1:Int))) (jez p2 y5) y5.2.1.2.2.1),((cond (decide (y5.1 = (2:Int))) (jez p2 y5) y5.2.1.2.2.2.1),((cond (decide (y5.1 = (3:Int))) (jez p2 y5) y5.2.1.2.2.2.2.1),((cond (decide (y5.1 = (4:Int))) (jez p2 y5) y5.2.1.2.2.2.2.2.1),((cond (decide (y5.1 = (5:Int))) (jez p2 y5) y5.2.1.2.2.2.2.2.2.1),((cond (decide (y5.1 = (6:Int))) (jez p2 y5) y5.2.1.2.2.2.2.2.2.2.1),(cond (decide (y5.1 = (7:Int))) (jez p2 y5) y5.2.1.2.2.2.2.2.2.2.2))))))))),y8.2)))))
abbrev jhg (p0:tQF) (_p1:Int) (_p2:tQJ) (_y3:(Int×tQF)) (y5:tQM) (y8:(Int×tQF)):List Prop := [(((decide (y8.1 < (y8.2.length:Int)))=true)→((0:Int)≤y8.1)),(((decide (y8.1 < (y8.2.length:Int)))=true)→(y8.1 < (y8.2.length:Int))),(((decide (y8.1 < (y8.2.length:Int)))=true)→((0:Int)≤y5.1)),(((decide (y8.1 < (y8.2.length:Int)))=true)→(y5.1 < 8)),(((decide (y8.1 < (y8.2.length:Int)))=true)→(v_smp p0)),(((decide (y8.1 < (y8.2.length:Int)))=true)→(y8.1 < (p0.length:Int)))]
def jdQ (_p0:tQF) (p1:Int) (_p2:tQJ) (_y3:(Int×tQF)) (y5:tQM) (y15:Int):Int ⊕ (tQM ⊕ ((Int×tQF) ⊕ Bool)) := (cond (decide (y15 < (((List.length (jbc y5.2.2 (jai (([]:List tQA) ++ y5.2.2) p1).1 (0:Int)).1):Nat):Int))) (cond (!(((List.getD (jbc y5.2.2 (jai (([]:List tQA) ++ y5.2.2) p1).1 (0:Int)).1 y15.toNat (0,0)).1 == 0) && (((List.getD (jbc y5.2.2 (jai (([]:List tQA) ++ y5.2.2) p1).1 (0:Int)).1 y15.toNat (0,0)).2 == 0) && true))) (Sum.inr (Sum.inr (Sum.inr false))) (Sum.inl (IntKind.i64.wrap (y15 + 1)))) (Sum.inr (Sum.inr (Sum.inr true))))
abbrev jhh (_p0:tQF) (p1:Int) (_p2:tQJ) (_y3:(Int×tQF)) (y5:tQM) (y15:Int):List Prop := [(((decide (y15 < (((List.length (jbc y5.2.2 (jai (([]:List tQA) ++ y5.2.2) p1).1 (0:Int)).1):Nat):Int)))=true)→((0:Int)≤y15)),(((decide (y15 < (((List.length (jbc y5.2.2 (jai (([]:List tQA) ++ y5.2.2) p1).1 (0:Int)).1):Nat):Int)))=true)→(y15 < (((List.length (jbc y5.2.2 (jai (([]:List tQA) ++ y5.2.2) p1).1 (0:Int)).1):Nat):Int)))]
def jfU (_p0:tQF) (p1:Int) (_p2:tQJ) (_y3:(Int×tQF)) (y5:tQM) (y20:Int):Int ⊕ (tQM ⊕ ((Int×tQF) ⊕ Bool)) := (cond (decide (y20 < (((List.length (jbc y5.2.2 (jai (([]:List tQA) ++ y5.2.2) p1).1 (0:Int)).1):Nat):Int))) (cond (!(((List.getD (jbc y5.2.2 (jai (([]:List tQA) ++ y5.2.2) p1).1 (0:Int)).1 y20.toNat (0,0)).1 == 0) && (((List.getD (jbc y5.2.2 (jai (([]:List tQA) ++ y5.2.2) p1).1 (0:Int)).1 y20.toNat (0,0)).2 == 0) && true))) (Sum.inr (Sum.inr (Sum.inr false))) (Sum.inl (IntKind.i64.wrap (y20 + 1)))) (Sum.inr (Sum.inr (Sum.inr true))))
abbrev js6 (_p0:tQF) (p1:Int) (_p2:tQJ) (_y3:(Int×tQF)) (y5:tQM) (y20:Int):List Prop := [(((decide (y20 < (((List.length (jbc y5.2.2 (jai (([]:List tQA) ++ y5.2.2) p1).1 (0:Int)).1):Nat):Int)))=true)→((0:Int)≤y20)),(((decide (y20 < (((List.length (jbc y5.2.2 (jai (([]:List tQA) ++ y5.2.2) p1).1 (0:Int)).1):Nat):Int)))=true)→(y20 < (((List.length (jbc y5.2.2 (jai (([]:List tQA) ++ y5.2.2) p1).1 (0:Int)).1):Nat):Int)))]
def jdR (p0:tQF) (p1:Int) (p2:tQJ) (y3:(Int×tQF)) (y5:tQM):tQM ⊕ ((Int×tQF) ⊕ Bool) := (cond (decide (y5.1 < 8)) (cond (cond ((jam .i64 (jab .i64 p1 y5.1) (1:Int)) == 0) true (!(s_Z5 (List.getD (p2.1 :: (p2.2.1 :: (p2.2.2.1 :: (p2.2.2.2.1 :: (p2.2.2.2.2.1 :: (p2.2.2.2.2.2.1 :: (p2.2.2.2.2.2.2.1 :: (p2.2.2.2.2.2.2.2 :: ([]:List Int))))))))) y5.1.toNat (0:Int)) (-20:Int) (20:Int)))) (Sum.inl ((IntKind.i64.wrap (y5.1 + 1)),y5.2)) (lpv (Sum.inr (Sum.inr false)) (jdv p0 p1 p2 y3 y5) ((0:Int),y5.2.2))) (cond (cond (!((y5.2.1.1 == (jai (([]:List tQA) ++ p0) p1).1.1) && ((y5.2.1.2.1 == (jai (([]:List tQA) ++ p0) p1).1.2.1) && ((y5.2.1.2.2.1 == (jai (([]:List tQA) ++ p0) p1).1.2.2.1) && ((y5.2.1.2.2.2.1 == (jai (([]:List tQA) ++ p0) p1).1.2.2.2.1) && ((y5.2.1.2.2.2.2.1 == (jai (([]:List tQA) ++ p0) p1).1.2.2.2.2.1) && ((y5.2.1.2.2.2.2.2.1 == (jai (([]:List tQA) ++ p0) p1).1.2.2.2.2.2.1) && ((y5.2.1.2.2.2.2.2.2.1 == (jai (([]:List tQA) ++ p0) p1).1.2.2.2.2.2.2.1) && ((y5.2.1.2.2.2.2.2.2.2.1 == (jai (([]:List tQA) ++ p0) p1).1.2.2.2.2.2.2.2.1) && ((y5.2.1.2.2.2.2.2.2.2.2 == (jai (([]:List tQA) ++ p0) p1).1.2.2.2.2.2.2.2.2) && true)))))))))) ((jaI y5.2.1) == 0) false) (cond (cond ((ja6 (([]:List tQA) ++ p0) p1 y5.2.1).2 != 3) ((ja6 (([]:List tQA) ++ p0) p1 y5.2.1).2 != 19) false) (Sum.inr (Sum.inr false)) (cond (decide ((jaF (jaH (jap (v_sq p0 (jai (([]:List tQA) ++ p0) p1).1 p0.length))) (jaH (jap (v_sq p0 y5.2.1 p0.length)))) > 0)) (Sum.inr (Sum.inr false)) (cond (cond ((jai (([]:List tQA) ++ y5.2.2) p1).2 != 0) true ((jaI (jai (([]:List tQA) ++ y5.2.2) p1).1) != 0)) (Sum.inr (Sum.inr false)) (cond (cond ((jbc y5.2.2 (jai (([]:List tQA) ++ y5.2.2) p1).1 (0:Int)).2 != 0) true ((((List.length (jbc y5.2.2 (jai (([]:List tQA) ++ y5.2.2) p1).1 (0:Int)).1):Nat):Int) != (p0.length:Int))) (Sum.inr (Sum.inr false)) (lpv (Sum.inr (Sum.inr false)) (jdQ p0 p1 p2 y3 y5) (0:Int)))))) (cond (cond ((jai (([]:List tQA) ++ y5.2.2) p1).2 != 0) true ((jaI (jai (([]:List tQA) ++ y5.2.2) p1).1) != 0)) (Sum.inr (Sum.inr false)) (cond (cond ((jbc y5.2.2 (jai (([]:List tQA) ++ y5.2.2) p1).1 (0:Int)).2 != 0) true ((((List.length (jbc y5.2.2 (jai (([]:List tQA) ++ y5.2.2) p1).1 (0:Int)).1):Nat):Int) != (p0.length:Int))) (Sum.inr (Sum.inr false)) (lpv (Sum.inr (Sum.inr false)) (jfU p0 p1 p2 y3 y5) (0:Int))))))
abbrev jdw (p0:tQF) (p1:Int) (y5:tQM) := (cond (!((y5.2.1.1 == (jai (([]:List tQA) ++ p0) p1).1.1) && ((y5.2.1.2.1 == (jai (([]:List tQA) ++ p0) p1).1.2.1) && ((y5.2.1.2.2.1 == (jai (([]:List tQA) ++ p0) p1).1.2.2.1) && ((y5.2.1.2.2.2.1 == (jai (([]:List tQA) ++ p0) p1).1.2.2.2.1) && ((y5.2.1.2.2.2.2.1 == (jai (([]:List tQA) ++ p0) p1).1.2.2.2.2.1) && ((y5.2.1.2.2.2.2.2.1 == (jai (([]:List tQA) ++ p0) p1).1.2.2.2.2.2.1) && ((y5.2.1.2.2.2.2.2.2.1 == (jai (([]:List tQA) ++ p0) p1).1.2.2.2.2.2.2.1) && ((y5.2.1.2.2.2.2.2.2.2.1 == (jai (([]:List tQA) ++ p0) p1).1.2.2.2.2.2.2.2.1) && ((y5.2.1.2.2.2.2.2.2.2.2 == (jai (([]:List tQA) ++ p0) p1).1.2.2.2.2.2.2.2.2) && true)))))))))) ((jaI y5.2.1) == 0) false)
abbrev jfd (p0:tQF) (p1:Int) (y5:tQM) := ((cond ((ja6 (([]:List tQA) ++ p0) p1 y5.2.1).2 != 3) ((ja6 (([]:List tQA) ++ p0) p1 y5.2.1).2 != 19) false)=false)
abbrev jfV (p0:tQF) (p1:Int) (p2:tQJ) (y3:(Int×tQF)) (y5:tQM):List Prop := [(((decide (y5.1 < 8))=true)→((0:Int)≤y5.1)),(((decide (y5.1 < 8))=true)→((((jam .i64 (jab .i64 p1 y5.1) (1:Int)) == 0)=false)→((0:Int)≤y5.1))),(((decide (y5.1 < 8))=true)→((((jam .i64 (jab .i64 p1 y5.1) (1:Int)) == 0)=false)→(y5.1 < 8))),(((decide (y5.1 < 8))=true)→(((cond ((jam .i64 (jab .i64 p1 y5.1) (1:Int)) == 0) true (!(s_Z5 (List.getD (p2.1 :: (p2.2.1 :: (p2.2.2.1 :: (p2.2.2.2.1 :: (p2.2.2.2.2.1 :: (p2.2.2.2.2.2.1 :: (p2.2.2.2.2.2.2.1 :: (p2.2.2.2.2.2.2.2 :: ([]:List Int))))))))) y5.1.toNat (0:Int)) (-20:Int) (20:Int))))=false)→((0:Int)≤y5.1))),(((decide (y5.1 < 8))=true)→(((cond ((jam .i64 (jab .i64 p1 y5.1) (1:Int)) == 0) true (!(s_Z5 (List.getD (p2.1 :: (p2.2.1 :: (p2.2.2.1 :: (p2.2.2.2.1 :: (p2.2.2.2.2.1 :: (p2.2.2.2.2.2.1 :: (p2.2.2.2.2.2.2.1 :: (p2.2.2.2.2.2.2.2 :: ([]:List Int))))))))) y5.1.toNat (0:Int)) (-20:Int) (20:Int))))=false)→(y5.1 < 8))),(((decide (y5.1 < 8))=true)→(((cond ((jam .i64 (jab .i64 p1 y5.1) (1:Int)) == 0) true (!(s_Z5 (List.getD (p2.1 :: (p2.2.1 :: (p2.2.2.1 :: (p2.2.2.2.1 :: (p2.2.2.2.2.1 :: (p2.2.2.2.2.2.1 :: (p2.2.2.2.2.2.2.1 :: (p2.2.2.2.2.2.2.2 :: ([]:List Int))))))))) y5.1.toNat (0:Int)) (-20:Int) (20:Int))))=false)→(OkL (jdv p0 p1 p2 y3 y5) (jhg p0 p1 p2 y3 y5) ((0:Int),y5.2.2)))),(((decide (y5.1 < 8))=false)→(((jdw p0 p1 y5)=true)→((((List.length ([]:List tQA)) + p0.length) * 40)≤140737488355328))),(((decide (y5.1 < 8))=false)→(((jdw p0 p1 y5)=true)→((jfd p0 p1 y5)→(v_smp p0)))),(((decide (y5.1 < 8))=false)→(((jdw p0 p1 y5)=true)→((jfd p0 p1 y5)→(v_fok (jai (([]:List tQA) ++ p0) p1).1)))),(((decide (y5.1 < 8))=false)→(((jdw p0 p1 y5)=true)→((jfd p0 p1 y5)→(v_fok y5.2.1)))),(((decide (y5.1 < 8))=false)→(((jdw p0 p1 y5)=true)→((jfd p0 p1 y5)→(v_wok (jap (v_sq p0 (jai (([]:List tQA) ++ p0) p1).1 p0.length)))))),(((decide (y5.1 < 8))=false)→(((jdw p0 p1 y5)=true)→((jfd p0 p1 y5)→(v_wok (jap (v_sq p0 y5.2.1 p0.length)))))),(((decide (y5.1 < 8))=false)→(((jdw p0 p1 y5)=true)→((jfd p0 p1 y5)→(((decide ((jaF (jaH (jap (v_sq p0 (jai (([]:List tQA) ++ p0) p1).1 p0.length))) (jaH (jap (v_sq p0 y5.2.1 p0.length)))) > 0))=false)→((((List.length ([]:List tQA)) + y5.2.2.length) * 40)≤140737488355328))))),(((decide (y5.1 < 8))=false)→(((jdw p0 p1 y5)=true)→((jfd p0 p1 y5)→(((decide ((jaF (jaH (jap (v_sq p0 (jai (([]:List tQA) ++ p0) p1).1 p0.length))) (jaH (jap (v_sq p0 y5.2.1 p0.length)))) > 0))=false)→(((cond ((jai (([]:List tQA) ++ y5.2.2) p1).2 != 0) true ((jaI (jai (([]:List tQA) ++ y5.2.2) p1).1) != 0))=false)→(((cond ((jbc y5.2.2 (jai (([]:List tQA) ++ y5.2.2) p1).1 (0:Int)).2 != 0) true ((((List.length (jbc y5.2.2 (jai (([]:List tQA) ++ y5.2.2) p1).1 (0:Int)).1):Nat):Int) != (p0.length:Int)))=false)→(OkL (jdQ p0 p1 p2 y3 y5) (jhh p0 p1 p2 y3 y5) (0:Int)))))))),(((decide (y5.1 < 8))=false)→(((jdw p0 p1 y5)=false)→((((List.length ([]:List tQA)) + y5.2.2.length) * 40)≤140737488355328))),(((decide (y5.1 < 8))=false)→(((jdw p0 p1 y5)=false)→(((cond ((jai (([]:List tQA) ++ y5.2.2) p1).2 != 0) true ((jaI (jai (([]:List tQA) ++ y5.2.2) p1).1) != 0))=false)→(((cond ((jbc y5.2.2 (jai (([]:List tQA) ++ y5.2.2) p1).1 (0:Int)).2 != 0) true ((((List.length (jbc y5.2.2 (jai (([]:List tQA) ++ y5.2.2) p1).1 (0:Int)).1):Nat):Int) != (p0.length:Int)))=false)→(OkL (jfU p0 p1 p2 y3 y5) (js6 p0 p1 p2 y3 y5) (0:Int))))))]
def jeA (p0:tQF) (p1:Int) (p2:tQJ) (y3:(Int×tQF)):(Int×tQF) ⊕ Bool := (cond (decide (y3.1 < (y3.2.length:Int))) (Sum.inl ((IntKind.i64.wrap (y3.1 + 1)),(List.set y3.2 y3.1.toNat ((y3.2.getD y3.1.toNat ((0:Int),((0:Int),((0:Int),(0,0))))).1,((y3.2.getD y3.1.toNat ((0:Int),((0:Int),((0:Int),(0,0))))).2.1,((y3.2.getD y3.1.toNat ((0:Int),((0:Int),((0:Int),(0,0))))).2.2.1,((y3.2.getD y3.1.toNat ((0:Int),((0:Int),((0:Int),(0,0))))).2.2.2.1,(0:Int)))))))) (lpv (Sum.inr false) (jdR p0 p1 p2 y3) ((0:Int),((jai (([]:List tQA) ++ p0) p1).1,y3.2))))
abbrev jhi (p0:tQF) (p1:Int) (p2:tQJ) (y3:(Int×tQF)):List Prop := [(((decide (y3.1 < (y3.2.length:Int)))=true)→((0:Int)≤y3.1)),(((decide (y3.1 < (y3.2.length:Int)))=true)→(y3.1 < (y3.2.length:Int))),(((decide (y3.1 < (y3.2.length:Int)))=false)→(OkL (jdR p0 p1 p2 y3) (jfV p0 p1 p2 y3) ((0:Int),((jai (([]:List tQA) ++ p0) p1).1,y3.2))))]
def s_Z1 (p0:tQF) (p1:Int) (p2:tQJ):Bool := (cond (cond (!(decide ((p0.length:Int)≤22))) true ((jcr p0 p1) != 0)) true (cond ((jai (([]:List tQA) ++ p0) p1).2 != 0) (cond ((jai (([]:List tQA) ++ p0) p1).2 == 12) true ((jai (([]:List tQA) ++ p0) p1).2 == 8)) (cond (cond (cond ((ja6 (([]:List tQA) ++ p0) p1 (jai (([]:List tQA) ++ p0) p1).1).2 != 0) true ((ja6 (([]:List tQA) ++ p0) p1 (jai (([]:List tQA) ++ p0) p1).1).1 != 0)) true ((jaI (jai (([]:List tQA) ++ p0) p1).1) != 0)) false (lpv false (jeA p0 p1 p2) ((0:Int),(([]:List tQA) ++ p0))))))
abbrev jjh (p0:tQF) (p1:Int) (p2:tQJ):List Prop := [(((cond (!(decide ((p0.length:Int)≤22))) true ((jcr p0 p1) != 0))=false)→((((List.length ([]:List tQA)) + p0.length) * 40)≤140737488355328)),(((cond (!(decide ((p0.length:Int)≤22))) true ((jcr p0 p1) != 0))=false)→((((jai (([]:List tQA) ++ p0) p1).2 != 0)=false)→((((List.length ([]:List tQA)) + p0.length) * 40)≤140737488355328))),(((cond (!(decide ((p0.length:Int)≤22))) true ((jcr p0 p1) != 0))=false)→((((jai (([]:List tQA) ++ p0) p1).2 != 0)=false)→(((cond (cond ((ja6 (([]:List tQA) ++ p0) p1 (jai (([]:List tQA) ++ p0) p1).1).2 != 0) true ((ja6 (([]:List tQA) ++ p0) p1 (jai (([]:List tQA) ++ p0) p1).1).1 != 0)) true ((jaI (jai (([]:List tQA) ++ p0) p1).1) != 0))=false)→((((List.length ([]:List tQA)) + p0.length) * 40)≤140737488355328)))),(((cond (!(decide ((p0.length:Int)≤22))) true ((jcr p0 p1) != 0))=false)→((((jai (([]:List tQA) ++ p0) p1).2 != 0)=false)→(((cond (cond ((ja6 (([]:List tQA) ++ p0) p1 (jai (([]:List tQA) ++ p0) p1).1).2 != 0) true ((ja6 (([]:List tQA) ++ p0) p1 (jai (([]:List tQA) ++ p0) p1).1).1 != 0)) true ((jaI (jai (([]:List tQA) ++ p0) p1).1) != 0))=false)→(OkL (jeA p0 p1 p2) (jhi p0 p1 p2) ((0:Int),(([]:List tQA) ++ p0))))))]
theorem d_Z1 (p0:tQF) (p1:Int) (p2:tQJ) (K:Bool→Prop) (hp:∀ p∈jjh p0 p1 p2,p) (h:K (s_Z1 p0 p1 p2)):w_Z1 p0 p1 p2 K := by
 unfold w_Z1
 unfold s_Z1 at h
 obtain ⟨hp0,hp1,hp2,hp3,_⟩ := jah hp
 exact ⟨nof,fun _ => ⟨rf,rf,rf,rfl,(br' h (fun e0 h => h)
  (fun e0 h => ⟨(hp0 e0),(br' h (fun e1 h => ⟨rf,rfl,h⟩)
  (fun e1 h => ⟨(hp1 e0 e1),rf,rfl,rf,rf,rfl,(br' h (fun e2 h => h)
  (fun e2 h => ⟨(hp2 e0 e1 e2),(ja5 (hp3 e0 e1 e2) h (fun y3 k3 hp h => by
 unfold jeA at h; obtain ⟨hp0,hp1,hp2,_⟩ := jah hp
 exact (br' h (fun e4 h => ⟨(hp0 e4),(hp1 e4),h⟩)
  (fun e4 h => (ja5 (hp2 e4) h (fun y5 k5 hp h => by
 unfold jdR at h; obtain ⟨hp0,hp1,hp2,hp3,hp4,hp5,hp6,hp7,hp8,hp9,hp10,hp11,hp12,hp13,hp14,hp15,_⟩ := jah hp
 exact (br' h (fun e6 h => ⟨(hp0 e6),rf,(hp1 e6),(hp2 e6),rf,rf,rf,rfl,(br' h (fun e7 h => h)
  (fun e7 h => ⟨(hp3 e6 e7),(hp4 e6 e7),(hp3 e6 e7),(hp4 e6 e7),(hp3 e6 e7),(hp4 e6 e7),(ja5 (hp5 e6 e7) h (fun y8 k8 hp h => by
 unfold jdv at h; obtain ⟨hp0,hp1,hp2,hp3,hp4,hp5,_⟩ := jah hp
 exact (br' h (fun e9 h => ⟨(hp0 e9),(hp1 e9),(hp2 e9),(hp3 e9),(hp4 e9),(hp0 e9),(hp5 e9),(hp2 e9),(hp3 e9),(hp0 e9),(hp1 e9),h⟩)
  (fun e9 h => h))))⟩))⟩)
  (fun e6 h => ⟨rf,rf,rfl,(br' h (fun e10 h => ⟨(hp6 e6 e10),rf,rfl,(br' h (fun e11 h => h)
  (fun e11 h => ⟨(hp7 e6 e10 e11),(hp8 e6 e10 e11),(hp7 e6 e10 e11),(hp9 e6 e10 e11),(hp10 e6 e10 e11),(hp11 e6 e10 e11),(br' h (fun e12 h => h)
  (fun e12 h => ⟨(hp12 e6 e10 e11 e12),rf,rf,rfl,(br' h (fun e13 h => h)
  (fun e13 h => ⟨rf,rf,rf,rf,rfl,(br' h (fun e14 h => h)
  (fun e14 h => (ja5 (hp13 e6 e10 e11 e12 e13 e14) h (fun y15 k15 hp h => by
 unfold jdQ at h; obtain ⟨hp0,hp1,_⟩ := jah hp
 exact (br' h (fun e16 h => ⟨(hp0 e16),(hp1 e16),(br' h (fun e17 h => h)
  (fun e17 h => h))⟩)
  (fun e16 h => h))))))⟩))⟩))⟩))⟩)
  (fun e10 h => ⟨(hp14 e6 e10),rf,rf,rfl,(br' h (fun e18 h => h)
  (fun e18 h => ⟨rf,rf,rf,rf,rfl,(br' h (fun e19 h => h)
  (fun e19 h => (ja5 (hp15 e6 e10 e18 e19) h (fun y20 k20 hp h => by
 unfold jfU at h; obtain ⟨hp0,hp1,_⟩ := jah hp
 exact (br' h (fun e21 h => ⟨(hp0 e21),(hp1 e21),(br' h (fun e22 h => h)
  (fun e22 h => h))⟩)
  (fun e21 h => h))))))⟩))⟩))⟩))))))))⟩))⟩))⟩))⟩⟩
abbrev jD2:Con := ⟨P_Z1,R_Z1,fun x => jjh x.1 x.2.1 x.2.2,fun x => s_Z1 x.1 x.2.1 x.2.2⟩
theorem jD3:jau Try.prog 3 jD2 := okG k_Z1 e_Z1 jD0 fun x hx => jaA (jD1 x.1 x.2.1 x.2.2 _) (d_Z1 x.1 x.2.1 x.2.2 _ hx rfl)
end Go.Proofs.Ytcdbaepeabefnaa
