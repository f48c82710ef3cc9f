/- What the functions that GroundExplained reaches compute: contracts, each function once. No condition. -/
import Derived.Test.YtehblgccaiiikaaGreatWalkGroundExplainedA
import Derived.KernelRfl
namespace Go.Proofs.YtehblgccaiiikaaGreat
open Go Go.Mx
set_option maxRecDepth 100000
set_option maxHeartbeats 4000000
def C_Z1y:Cons := [(138,[],con_Z1b)]
theorem hC_Z1y:ConsOk Tryz.prog C_Z1y := cC ok_Z1b <| ConsOk.nil
def w_Z1y (p0:gE) (K:(Int×(List Int))→Prop):Prop := ((((decide (p0.1 < 0))=true) →((v_wok p0) ∧(K (v_wide (-(v_wval p0)))))) ∧(((decide (p0.1 < 0))=false) →(K p0)))
theorem w_Z1y_eq (p0:gE) (K:(Int×(List Int))→Prop):tfn F_Z1y A_Z1y C_Z1y P_Z1y R_Z1y p0 K = w_Z1y p0 K := by kernel_rfl
def s_Z1y (p0:gE):(Int×(List Int)) := (cond (decide (p0.1 < 0)) (v_wide (-(v_wval p0))) p0)
abbrev pre_Z1y (p0:gE):List Prop := [(((decide (p0.1 < 0))=true)→(v_wok p0))]
theorem d_Z1y (p0:gE) (K:(Int×(List Int))→Prop) (hp:∀ p∈pre_Z1y p0,p) (h:K (s_Z1y p0)):w_Z1y p0 K := by
 unfold w_Z1y
 unfold s_Z1y at h
 obtain ⟨hp0,_⟩ := conj_of hp
 exact (br' h (fun e0 h => ⟨(hp0 e0),h⟩)
  (fun e0 h => h))
def v_abs (n:Int):Int := n.natAbs
abbrev t_Z1y (p0:Int×List Int):Int×List Int := v_wide (v_abs (v_wval p0))
abbrev qre_Z1y (p0:Int×List Int):List Prop := [v_wok p0]
theorem pp_Z1y (p0:Int×List Int) (hq:∀ p∈qre_Z1y p0,p):∀ p∈pre_Z1y p0,p := by
 obtain ⟨h,_⟩ := conj_of hq
 simp only [pre_Z1y,fM]
 exact ⟨fun _ => h,by simp⟩
theorem tt_Z1y (p0:Int×List Int) (hq:∀ p∈qre_Z1y p0,p):s_Z1y p0 = t_Z1y p0 := by
 obtain ⟨n,rfl,h⟩ := (conj_of hq).1.ex
 unfold s_Z1y t_Z1y v_abs
 rw [v_wval_wide,v_wide_1]
 rcases v_sign3 n with ⟨k,e,_⟩ | ⟨k,e,_⟩ | ⟨k,e,_⟩ <;> rw [e]
 ·show v_wide (-n)=_
  congr 1; omega
 ·subst k; rfl
 ·show v_wide n = _
  congr 1; omega

abbrev con_Z1y:Con := ⟨P_Z1y,R_Z1y,fun x => qre_Z1y x,fun x => t_Z1y x⟩
theorem ok_Z1y:ConOk Tryz.prog 146 con_Z1y := okG k_Z1y e_Z1y hC_Z1y fun x hx => tf_of (w_Z1y_eq x _) (d_Z1y x _ (pp_Z1y x hx) (tt_Z1y x hx))
def C_Z24:Cons := []
theorem hC_Z24:ConsOk Tryz.prog C_Z24 := ConsOk.nil
def w_Z24 (p0:gE) (K:Int→Prop):Prop := (K p0.1)
theorem w_Z24_eq (p0:gE) (K:Int→Prop):tfn F_Z24 A_Z24 C_Z24 P_Z24 R_Z24 p0 K = w_Z24 p0 K := by kernel_rfl
def s_Z24 (p0:gE):Int := p0.1
abbrev pre_Z24 (_p0:gE):List Prop := []
theorem d_Z24 (p0:gE) (K:Int→Prop) (_hp:∀ p∈pre_Z24 p0,p) (h:K (s_Z24 p0)):w_Z24 p0 K := by
 unfold w_Z24
 unfold s_Z24 at h
 exact h
abbrev con_Z24:Con := ⟨P_Z24,R_Z24,fun x => pre_Z24 x,fun x => s_Z24 x⟩
theorem ok_Z24:ConOk Tryz.prog 70 con_Z24 := okG k_Z24 e_Z24 hC_Z24 fun x hx => tf_of (w_Z24_eq x _) (d_Z24 x _ hx rfl)
def C_Zk:Cons := [(146,[],con_Z1y),(70,[],con_Z24),(142,[],con_Zg),(101,[],con_Zc),(123,[],con_Z1d)]
theorem hC_Zk:ConsOk Tryz.prog C_Zk := cC ok_Z1y <| cC ok_Z24 <| cC ok_Zg <| cC ok_Zc <| cC ok_Z1d <| ConsOk.nil
def w_Zk (p0:gE) (p1:gE) (K:(Int×(List Int))→Prop):Prop := ((v_wok p0) ∧((v_wok p1) ∧(∃ n0,(loopP (fun (y1:gD) k2 => ((((y1.2.1 != 0)=true) →((v_wok y1.1) ∧((v_wok y1.2) ∧((zz0 < (v_wval y1.2)) ∧((y1.2.2.length≤500000000000) ∧((v_wok (v_wide ((v_wval y1.1) / (v_wval y1.2)))) ∧((v_wok y1.2) ∧((v_wok y1.1) ∧((v_wok (v_wide ((v_wval (v_wide ((v_wval y1.1) / (v_wval y1.2)))) * (v_wval y1.2)))) ∧(k2 (y1.2,(v_wide ((v_wval y1.1) - (v_wval (v_wide ((v_wval (v_wide ((v_wval y1.1) / (v_wval y1.2)))) * (v_wval y1.2))))))))))))))))) ∧(((y1.2.1 != 0)=false) →(K y1.1)))) n0 ((v_wide (v_abs (v_wval p0))),(v_wide (v_abs (v_wval p1))))))))
theorem w_Zk_eq (p0:gE) (p1:gE) (K:(Int×(List Int))→Prop):tfn F_Zk A_Zk C_Zk P_Zk R_Zk (p0,p1) K = w_Zk p0 p1 K := by kernel_rfl
def st_Zk_0 (_p0:gE) (_p1:gE) (y0:gD):((Int×(List Int))×(Int×(List Int))) ⊕ (Int×(List Int)) := (cond (y0.2.1 != 0) (Sum.inl (y0.2,(v_wide ((v_wval y0.1) - (v_wval (v_wide ((v_wval (v_wide ((v_wval y0.1) / (v_wval y0.2)))) * (v_wval y0.2)))))))) (Sum.inr y0.1))
abbrev sp_Zk_0 (_p0:gE) (_p1:gE) (y0:gD):List Prop := [(((y0.2.1 != 0)=true)→(v_wok y0.1)),(((y0.2.1 != 0)=true)→(v_wok y0.2)),(((y0.2.1 != 0)=true)→((0:Int) < (v_wval y0.2))),(((y0.2.1 != 0)=true)→(y0.2.2.length≤500000000000)),(((y0.2.1 != 0)=true)→(v_wok (v_wide ((v_wval y0.1) / (v_wval y0.2))))),(((y0.2.1 != 0)=true)→(v_wok (v_wide ((v_wval (v_wide ((v_wval y0.1) / (v_wval y0.2)))) * (v_wval y0.2)))))]
def s_Zk (p0:gE) (p1:gE):(Int×(List Int)) := (lpv ((0:Int),[]) (st_Zk_0 p0 p1) ((v_wide (v_abs (v_wval p0))),(v_wide (v_abs (v_wval p1)))))
abbrev pre_Zk (p0:gE) (p1:gE):List Prop := [(v_wok p0),(v_wok p1),(OkL (st_Zk_0 p0 p1) (sp_Zk_0 p0 p1) ((v_wide (v_abs (v_wval p0))),(v_wide (v_abs (v_wval p1)))))]
theorem d_Zk (p0:gE) (p1:gE) (K:(Int×(List Int))→Prop) (hp:∀ p∈pre_Zk p0 p1,p) (h:K (s_Zk p0 p1)):w_Zk p0 p1 K := by
 unfold w_Zk
 unfold s_Zk at h
 obtain ⟨hp0,hp1,hp2,_⟩ := conj_of hp
 exact ⟨(hp0),(hp1),(loop_gen (hp2) h (fun y0 k0 hp h => by
 unfold st_Zk_0 at h; obtain ⟨hp0,hp1,hp2,hp3,hp4,hp5,_⟩ := conj_of hp
 exact (br' h (fun e1 h => ⟨(hp0 e1),(hp1 e1),(hp2 e1),(hp3 e1),(hp4 e1),(hp1 e1),(hp0 e1),(hp5 e1),h⟩)
  (fun e1 h => h))))⟩
theorem l_Zk_0 (p0 p1:Int×List Int) (h1:v_wok p0) (h2:v_wok p1) (l1:p0.2.length≤400000000000) (l2:p1.2.length≤400000000000):OkL (st_Zk_0 p0 p1) (sp_Zk_0 p0 p1) (v_wide (v_abs (v_wval p0)),v_wide (v_abs (v_wval p1)))∧lpv (0,[]) (st_Zk_0 p0 p1) (v_wide (v_abs (v_wval p0)),v_wide (v_abs (v_wval p1)))=v_wide (v_gcd (v_wval p0) (v_wval p1)) := by
 obtain ⟨a,ea,_⟩ := h1.ex
 obtain ⟨b,eb,_⟩ := h2.ex
 have da:v_dl a≤400000000000 := by rw [ea] at l1; exact l1
 have db:v_dl b≤400000000000 := by rw [eb] at l2; exact l2
 have wa:v_wval p0 = a := by rw [ea,v_wval_wide]
 have wb:v_wval p1 = b := by rw [eb,v_wval_wide]
 rw [wa,wb]
 -- as many rounds as the second number says: bounded by fuel no more,so the digits' number is the measure
 have key:∀ (k:Nat) (x y:Int),0≤x→0≤y→y < 2 ^ k→v_dl x≤400000000000→v_dl y≤400000000000→∀ f,2 * k + 2≤f→OkN (st_Zk_0 p0 p1) (sp_Zk_0 p0 p1) f (v_wide x,v_wide y)∧runL (0,[]) (st_Zk_0 p0 p1) f (v_wide x,v_wide y)=v_wide (v_gcd x y) := by
  have fin:∀ (x:Int),0≤x→∀ f,OkN (st_Zk_0 p0 p1) (sp_Zk_0 p0 p1) (f + 1) (v_wide x,v_wide 0)∧runL (0,[]) (st_Zk_0 p0 p1) (f + 1) (v_wide x,v_wide 0)=v_wide (v_gcd x 0) := by
   intro x hx f
   have e0:v_gcd x 0 = x := by unfold v_gcd; rw [Int.gcd_zero_right]; omega
   unfold OkN runL
   simp only [sp_Zk_0,st_Zk_0,fM,v_wide_1,show (Int.sign 0 != 0)=false from rfl,cond_false,e0]
   exact ⟨⟨⟨fun h => (by cases h),fun h => (by cases h),fun h => (by cases h),fun h => (by cases h),fun h => (by cases h),fun h => (by cases h),by simp⟩,trivial⟩,trivial⟩
  have round:∀ (x y:Int),0≤x→0 < y→v_dl x≤400000000000→v_dl y≤400000000000→(∀ p∈sp_Zk_0 p0 p1 (v_wide x,v_wide y),p)∧st_Zk_0 p0 p1 (v_wide x,v_wide y) = .inl (v_wide y,v_wide (x % y)) := by
   intro x y hx hy dx dy
   have q1 := Int.mul_ediv_add_emod x y
   have q2 := Int.emod_nonneg x (show y ≠ 0 by omega)
   have q3:0≤x / y := Int.ediv_nonneg hx (by omega)
   have q4:x / y≤x := Int.ediv_le_self _ hx
   have d1:v_dl (x / y)≤400000000000 := Nat.le_trans (v_dl_mono (by omega)) dx
   have d2:v_dl (x / y * y)≤400000000000 := Nat.le_trans (v_dl_mono (n := x) (by rw [Int.mul_comm]; have := Int.mul_nonneg (show 0≤y by omega) q3; omega)) dx
   have w1:v_wok (v_wide x) := v_wok_of (Nat.le_trans dx (by decide))
   have w2:v_wok (v_wide y) := v_wok_of (Nat.le_trans dy (by decide))
   have w3:v_wok (v_wide (x / y)) := v_wok_of (Nat.le_trans d1 (by decide))
   have w4:v_wok (v_wide (x / y * y)) := v_wok_of (Nat.le_trans d2 (by decide))
   have l2:(v_wide y).2.length≤500000000000 := Nat.le_trans dy (by decide)
   have hs:(y.sign != 0)=true := by rw [Int.sign_eq_one_of_pos hy]; rfl
   simp only [sp_Zk_0,st_Zk_0,fM,v_wide_1,hs,cond_true,v_wval_wide]
   refine ⟨⟨fun _ => w1,fun _ => w2,fun _ => hy,fun _ => l2,fun _ => w3,fun _ => w4,by simp⟩,?_⟩
   congr 3
   rw [Int.mul_comm]; omega
  have gs:∀ (x y:Int),0≤x→v_gcd y (x % y)=v_gcd x y := fun x y hx => by rw [← Int.tmod_eq_emod_of_nonneg hx]; exact v_gcd_step x y
  have one:∀ (x y:Int) (f:Nat),0≤x→0 < y→v_dl x≤400000000000→v_dl y≤400000000000→(OkN (st_Zk_0 p0 p1) (sp_Zk_0 p0 p1) f (v_wide y,v_wide (x % y))∧runL (0,[]) (st_Zk_0 p0 p1) f (v_wide y,v_wide (x % y))=v_wide (v_gcd y (x % y)))→OkN (st_Zk_0 p0 p1) (sp_Zk_0 p0 p1) (f + 1) (v_wide x,v_wide y)∧runL (0,[]) (st_Zk_0 p0 p1) (f + 1) (v_wide x,v_wide y)=v_wide (v_gcd x y) := by
   intro x y f hx hy dx dy ih
   obtain ⟨r1,r2⟩ := round x y hx hy dx dy
   unfold OkN runL
   rw [r2]
   exact ⟨⟨r1,ih.1⟩,ih.2.trans (by rw [gs x y hx])⟩
  have dmod:∀ (x y:Int),0 < y→v_dl y≤400000000000→v_dl (x % y)≤400000000000 := fun x y hy dy => by
   have q2 := Int.emod_nonneg x (show y ≠ 0 by omega)
   have q3 := Int.emod_lt_of_pos x hy
   exact Nat.le_trans (v_dl_mono (by omega)) dy
  intro k
  induction k with
  | zero =>
   intro x y hx hy hk dx dy f hf
   have:y = 0 := by simp at hk; omega
   subst this
   obtain ⟨f,rfl⟩ : ∃ g,f = g + 1 := ⟨f - 1,by omega⟩
   exact fin x hx f
  | succ k ih =>
   intro x y hx hy hk dx dy f hf
   rcases Int.lt_or_le 0 y with h0 | h0
   ·obtain ⟨f,rfl⟩ : ∃ g,f = g + 2 := ⟨f - 2,by omega⟩
    have q2 := Int.emod_nonneg x (show y ≠ 0 by omega)
    have q3 := Int.emod_lt_of_pos x h0
    refine one x y (f + 1) hx h0 dx dy ?_
    rcases Int.lt_or_le 0 (x % y) with h1 | h1
    ·have s2 := Int.emod_nonneg y (show x % y ≠ 0 by omega)
     have s3 := Int.emod_lt_of_pos y h1
     have hlt:y % (x % y) < 2 ^ k := by
      rw [Int.pow_succ] at hk
      rcases Int.lt_or_le (x % y) (2 ^ k) with c | c
      ·omega
      ·have:y % (x % y)≤y - x % y := by
        have e := Int.mul_ediv_add_emod y (x % y)
        have:1≤y / (x % y) := Int.le_ediv_of_mul_le h1 (by omega)
        have := Int.mul_le_mul_of_nonneg_left this (show 0≤x % y by omega)
        omega
       omega
     exact one y (x % y) f (by omega) h1 dy (dmod x y h0 dy) (ih _ _ q2 s2 hlt (dmod x y h0 dy) (dmod y _ h1 (dmod x y h0 dy)) f (by omega))
    ·have:x % y = 0 := by omega
     rw [this]
     exact fin y (by omega) f
   ·have:y = 0 := by omega
    subst this
    obtain ⟨f,rfl⟩ : ∃ g,f = g + 1 := ⟨f - 1,by omega⟩
    exact fin x hx f
 have hb:(v_abs b) < 2 ^ (30 * v_dl b) := by
  have h1 := v_digs_high b.natAbs
  have h2:∀ n:Nat,v_pow n≤2 ^ (30 * n) := by
   intro n
   induction n with
   | zero => exact Int.le_refl _
   | succ n ih =>
    rw [v_pow_s,Nat.mul_succ,Int.pow_add,show (2:Int) ^ 30 = 1073741824 from by decide]
    have := v_pow_pos n
    omega
  have h2 := h2 (v_digs b.natAbs).length
  unfold v_abs v_dl
  omega
 have ga:v_gcd (v_abs a) (v_abs b)=v_gcd a b := by unfold v_gcd v_abs Int.gcd; rw [Int.natAbs_natCast,Int.natAbs_natCast]
 have := key (30 * v_dl b) (v_abs a) (v_abs b) (by unfold v_abs; omega) (by unfold v_abs; omega) hb (by unfold v_dl v_abs at *; rw [Int.natAbs_natCast]; exact da) (by unfold v_dl v_abs at *; rw [Int.natAbs_natCast]; exact db) fuel (by unfold fuel; omega)
 rw [ga] at this
 exact this
abbrev t_Zk (p0:Int×List Int) (p1:Int×List Int):Int×List Int := v_wide (v_gcd (v_wval p0) (v_wval p1))
abbrev qre_Zk (p0:Int×List Int) (p1:Int×List Int):List Prop := [v_wok p0,v_wok p1,p0.2.length≤400000000000,p1.2.length≤400000000000]
theorem pp_Zk (p0:Int×List Int) (p1:Int×List Int) (hq:∀ p∈qre_Zk p0 p1,p):∀ p∈pre_Zk p0 p1,p := by
 obtain ⟨h1,h2,h3,h4,_⟩ := conj_of hq
 simp only [pre_Zk,fM]
 exact ⟨h1,h2,(l_Zk_0 p0 p1 h1 h2 h3 h4).1,by simp⟩
theorem tt_Zk (p0:Int×List Int) (p1:Int×List Int) (hq:∀ p∈qre_Zk p0 p1,p):s_Zk p0 p1 = t_Zk p0 p1 := by
 obtain ⟨h1,h2,h3,h4,_⟩ := conj_of hq
 have e := (l_Zk_0 p0 p1 h1 h2 h3 h4).2
 unfold s_Zk t_Zk
 rw [e]

abbrev con_Zk:Con := ⟨P_Zk,R_Zk,fun x => qre_Zk x.1 x.2,fun x => t_Zk x.1 x.2⟩
theorem ok_Zk:ConOk Tryz.prog 141 con_Zk := okG k_Zk e_Zk hC_Zk fun x hx => tf_of (w_Zk_eq x.1 x.2 _) (d_Zk x.1 x.2 _ (pp_Zk x.1 x.2 hx) (tt_Zk x.1 x.2 hx))
def C_Z1k:Cons := [(123,[],con_Z1d)]
theorem hC_Z1k:ConsOk Tryz.prog C_Z1k := cC ok_Z1d <| ConsOk.nil
def w_Z1k (p0:gE) (p1:gE) (K:Int→Prop):Prop := ((v_wok p0) ∧((v_wok p1) ∧(K (v_wide ((v_wval p0) - (v_wval p1))).1)))
theorem w_Z1k_eq (p0:gE) (p1:gE) (K:Int→Prop):tfn F_Z1k A_Z1k C_Z1k P_Z1k R_Z1k (p0,p1) K = w_Z1k p0 p1 K := by kernel_rfl
def s_Z1k (p0:gE) (p1:gE):Int := (v_wide ((v_wval p0) - (v_wval p1))).1
abbrev pre_Z1k (p0:gE) (p1:gE):List Prop := [(v_wok p0),(v_wok p1)]
theorem d_Z1k (p0:gE) (p1:gE) (K:Int→Prop) (hp:∀ p∈pre_Z1k p0 p1,p) (h:K (s_Z1k p0 p1)):w_Z1k p0 p1 K := by
 unfold w_Z1k
 unfold s_Z1k at h
 obtain ⟨hp0,hp1,_⟩ := conj_of hp
 exact ⟨(hp0),(hp1),h⟩
abbrev t_Z1k (p0:Int×List Int) (p1:Int×List Int):Int := v_cmp (v_wval p0) (v_wval p1)
abbrev qre_Z1k (p0:Int×List Int) (p1:Int×List Int):List Prop := [v_wok p0,v_wok p1]
theorem pp_Z1k (p0:Int×List Int) (p1:Int×List Int) (hq:∀ p∈qre_Z1k p0 p1,p):∀ p∈pre_Z1k p0 p1,p := by
 simpa only [pre_Z1k] using hq
theorem tt_Z1k (p0:Int×List Int) (p1:Int×List Int) (_hq:∀ p∈qre_Z1k p0 p1,p):s_Z1k p0 p1 = t_Z1k p0 p1 := by
 unfold s_Z1k t_Z1k
 exact v_cmp_sign _ _

abbrev con_Z1k:Con := ⟨P_Z1k,R_Z1k,fun x => qre_Z1k x.1 x.2,fun x => t_Z1k x.1 x.2⟩
theorem ok_Z1k:ConOk Tryz.prog 100 con_Z1k := okG k_Z1k e_Z1k hC_Z1k fun x hx => tf_of (w_Z1k_eq x.1 x.2 _) (d_Z1k x.1 x.2 _ (pp_Z1k x.1 x.2 hx) (tt_Z1k x.1 x.2 hx))
def C_Zx:Cons := [(70,[],con_Z24),(138,[],con_Z1b),(141,[],con_Zk),(116,[],con_Zr),(100,[],con_Z1k),(142,[],con_Zg)]
theorem hC_Zx:ConsOk Tryz.prog C_Zx := cC ok_Z24 <| cC ok_Z1b <| cC ok_Zk <| cC ok_Zr <| cC ok_Z1k <| cC ok_Zg <| ConsOk.nil
abbrev q0_Zx (p0:gE) (p1:gE) := (v_wide (v_gcd (v_wval (v_wide (-(v_wval p0)))) (v_wval (v_wide (-(v_wval p1))))))
def w_Zx (p0:gE) (p1:gE) (K:((Int×(List Int))×(Int×(List Int)))→Prop):Prop := ((((decide (p1.1 < zz0))=true) →((v_wok p0) ∧((v_wok p1) ∧((v_wok (v_wide (-(v_wval p0)))) ∧((v_wok (v_wide (-(v_wval p1)))) ∧(((List.length (v_wide (-(v_wval p0))).2)≤400000000000) ∧(((List.length (v_wide (-(v_wval p1))).2)≤400000000000) ∧((v_fit zz1) ∧((v_wok (q0_Zx p0 p1)) ∧((v_wok (v_wide zz1)) ∧(((((v_cmp (v_wval (q0_Zx p0 p1)) (v_wval (v_wide zz1))) == zz0)=true) →(K ((v_wide (-(v_wval p0))),(v_wide (-(v_wval p1)))))) ∧((((v_cmp (v_wval (q0_Zx p0 p1)) (v_wval (v_wide zz1))) == zz0)=false) →((v_wok (v_wide (-(v_wval p0)))) ∧((v_wok (q0_Zx p0 p1)) ∧((zz0 < (v_wval (q0_Zx p0 p1))) ∧(((List.length (q0_Zx p0 p1).2)≤500000000000) ∧((v_wok (v_wide (-(v_wval p1)))) ∧((v_wok (q0_Zx p0 p1)) ∧((zz0 < (v_wval (q0_Zx p0 p1))) ∧(((List.length (q0_Zx p0 p1).2)≤500000000000) ∧(K ((v_wide ((v_wval (v_wide (-(v_wval p0)))) / (v_wval (q0_Zx p0 p1)))),(v_wide ((v_wval (v_wide (-(v_wval p1)))) / (v_wval (q0_Zx p0 p1)))))))))))))))))))))))))) ∧(((decide (p1.1 < zz0))=false) →((v_wok p0) ∧((v_wok p1) ∧((p0.2.length≤400000000000) ∧((p1.2.length≤400000000000) ∧((v_fit zz1) ∧((v_wok (v_wide (v_gcd (v_wval p0) (v_wval p1)))) ∧((v_wok (v_wide zz1)) ∧(((((v_cmp (v_wval (v_wide (v_gcd (v_wval p0) (v_wval p1)))) (v_wval (v_wide zz1))) == zz0)=true) →(K (p0,p1))) ∧((((v_cmp (v_wval (v_wide (v_gcd (v_wval p0) (v_wval p1)))) (v_wval (v_wide zz1))) == zz0)=false) →((v_wok p0) ∧((v_wok (v_wide (v_gcd (v_wval p0) (v_wval p1)))) ∧((zz0 < (v_wval (v_wide (v_gcd (v_wval p0) (v_wval p1))))) ∧(((List.length (v_wide (v_gcd (v_wval p0) (v_wval p1))).2)≤500000000000) ∧((v_wok p1) ∧((v_wok (v_wide (v_gcd (v_wval p0) (v_wval p1)))) ∧((zz0 < (v_wval (v_wide (v_gcd (v_wval p0) (v_wval p1))))) ∧(((List.length (v_wide (v_gcd (v_wval p0) (v_wval p1))).2)≤500000000000) ∧(K ((v_wide ((v_wval p0) / (v_wval (v_wide (v_gcd (v_wval p0) (v_wval p1)))))),(v_wide ((v_wval p1) / (v_wval (v_wide (v_gcd (v_wval p0) (v_wval p1)))))))))))))))))))))))))))
theorem w_Zx_eq (p0:gE) (p1:gE) (K:((Int×(List Int))×(Int×(List Int)))→Prop):tfn F_Zx A_Zx C_Zx P_Zx R_Zx (p0,p1) K = w_Zx p0 p1 K := by kernel_rfl
def s_Zx (p0:gE) (p1:gE):((Int×(List Int))×(Int×(List Int))) := (cond (decide (p1.1 < 0)) (cond ((v_cmp (v_wval (v_wide (v_gcd (v_wval (v_wide (-(v_wval p0)))) (v_wval (v_wide (-(v_wval p1))))))) (v_wval (v_wide (1:Int)))) == 0) ((v_wide (-(v_wval p0))),(v_wide (-(v_wval p1)))) ((v_wide ((v_wval (v_wide (-(v_wval p0)))) / (v_wval (v_wide (v_gcd (v_wval (v_wide (-(v_wval p0)))) (v_wval (v_wide (-(v_wval p1))))))))),(v_wide ((v_wval (v_wide (-(v_wval p1)))) / (v_wval (v_wide (v_gcd (v_wval (v_wide (-(v_wval p0)))) (v_wval (v_wide (-(v_wval p1))))))))))) (cond ((v_cmp (v_wval (v_wide (v_gcd (v_wval p0) (v_wval p1)))) (v_wval (v_wide (1:Int)))) == 0) (p0,p1) ((v_wide ((v_wval p0) / (v_wval (v_wide (v_gcd (v_wval p0) (v_wval p1)))))),(v_wide ((v_wval p1) / (v_wval (v_wide (v_gcd (v_wval p0) (v_wval p1)))))))))
abbrev pre_Zx (p0:gE) (p1:gE):List Prop := [(((decide (p1.1 < 0))=true)→(v_wok p0)),(((decide (p1.1 < 0))=true)→(v_wok p1)),(((decide (p1.1 < 0))=true)→(v_wok (v_wide (-(v_wval p0))))),(((decide (p1.1 < 0))=true)→(v_wok (v_wide (-(v_wval p1))))),(((decide (p1.1 < 0))=true)→((List.length (v_wide (-(v_wval p0))).2)≤400000000000)),(((decide (p1.1 < 0))=true)→((List.length (v_wide (-(v_wval p1))).2)≤400000000000)),(((decide (p1.1 < 0))=true)→(v_fit (1:Int))),(((decide (p1.1 < 0))=true)→(v_wok (v_wide (v_gcd (v_wval (v_wide (-(v_wval p0)))) (v_wval (v_wide (-(v_wval p1)))))))),(((decide (p1.1 < 0))=true)→(v_wok (v_wide (1:Int)))),(((decide (p1.1 < 0))=true)→((((v_cmp (v_wval (v_wide (v_gcd (v_wval (v_wide (-(v_wval p0)))) (v_wval (v_wide (-(v_wval p1))))))) (v_wval (v_wide (1:Int)))) == 0)=false)→(v_wok (v_wide (-(v_wval p0)))))),(((decide (p1.1 < 0))=true)→((((v_cmp (v_wval (v_wide (v_gcd (v_wval (v_wide (-(v_wval p0)))) (v_wval (v_wide (-(v_wval p1))))))) (v_wval (v_wide (1:Int)))) == 0)=false)→(v_wok (v_wide (v_gcd (v_wval (v_wide (-(v_wval p0)))) (v_wval (v_wide (-(v_wval p1))))))))),(((decide (p1.1 < 0))=true)→((((v_cmp (v_wval (v_wide (v_gcd (v_wval (v_wide (-(v_wval p0)))) (v_wval (v_wide (-(v_wval p1))))))) (v_wval (v_wide (1:Int)))) == 0)=false)→((0:Int) < (v_wval (v_wide (v_gcd (v_wval (v_wide (-(v_wval p0)))) (v_wval (v_wide (-(v_wval p1)))))))))),(((decide (p1.1 < 0))=true)→((((v_cmp (v_wval (v_wide (v_gcd (v_wval (v_wide (-(v_wval p0)))) (v_wval (v_wide (-(v_wval p1))))))) (v_wval (v_wide (1:Int)))) == 0)=false)→((List.length (v_wide (v_gcd (v_wval (v_wide (-(v_wval p0)))) (v_wval (v_wide (-(v_wval p1)))))).2)≤500000000000))),(((decide (p1.1 < 0))=true)→((((v_cmp (v_wval (v_wide (v_gcd (v_wval (v_wide (-(v_wval p0)))) (v_wval (v_wide (-(v_wval p1))))))) (v_wval (v_wide (1:Int)))) == 0)=false)→(v_wok (v_wide (-(v_wval p1)))))),(((decide (p1.1 < 0))=false)→(v_wok p0)),(((decide (p1.1 < 0))=false)→(v_wok p1)),(((decide (p1.1 < 0))=false)→(p0.2.length≤400000000000)),(((decide (p1.1 < 0))=false)→(p1.2.length≤400000000000)),(((decide (p1.1 < 0))=false)→(v_fit (1:Int))),(((decide (p1.1 < 0))=false)→(v_wok (v_wide (v_gcd (v_wval p0) (v_wval p1))))),(((decide (p1.1 < 0))=false)→(v_wok (v_wide (1:Int)))),(((decide (p1.1 < 0))=false)→((((v_cmp (v_wval (v_wide (v_gcd (v_wval p0) (v_wval p1)))) (v_wval (v_wide (1:Int)))) == 0)=false)→(v_wok p0))),(((decide (p1.1 < 0))=false)→((((v_cmp (v_wval (v_wide (v_gcd (v_wval p0) (v_wval p1)))) (v_wval (v_wide (1:Int)))) == 0)=false)→(v_wok (v_wide (v_gcd (v_wval p0) (v_wval p1)))))),(((decide (p1.1 < 0))=false)→((((v_cmp (v_wval (v_wide (v_gcd (v_wval p0) (v_wval p1)))) (v_wval (v_wide (1:Int)))) == 0)=false)→((0:Int) < (v_wval (v_wide (v_gcd (v_wval p0) (v_wval p1))))))),(((decide (p1.1 < 0))=false)→((((v_cmp (v_wval (v_wide (v_gcd (v_wval p0) (v_wval p1)))) (v_wval (v_wide (1:Int)))) == 0)=false)→((List.length (v_wide (v_gcd (v_wval p0) (v_wval p1))).2)≤500000000000))),(((decide (p1.1 < 0))=false)→((((v_cmp (v_wval (v_wide (v_gcd (v_wval p0) (v_wval p1)))) (v_wval (v_wide (1:Int)))) == 0)=false)→(v_wok p1)))]
theorem d_Zx (p0:gE) (p1:gE) (K:((Int×(List Int))×(Int×(List Int)))→Prop) (hp:∀ p∈pre_Zx p0 p1,p) (h:K (s_Zx p0 p1)):w_Zx p0 p1 K := by
 unfold w_Zx
 unfold s_Zx at h
 obtain ⟨hp0,hp1,hp2,hp3,hp4,hp5,hp6,hp7,hp8,hp9,hp10,hp11,hp12,hp13,hp14,hp15,hp16,hp17,hp18,hp19,hp20,hp21,hp22,hp23,hp24,hp25,_⟩ := conj_of hp
 exact (br' h (fun e0 h => ⟨(hp0 e0),(hp1 e0),(hp2 e0),(hp3 e0),(hp4 e0),(hp5 e0),(hp6 e0),(hp7 e0),(hp8 e0),(br' h (fun e1 h => h)
  (fun e1 h => ⟨(hp9 e0 e1),(hp10 e0 e1),(hp11 e0 e1),(hp12 e0 e1),(hp13 e0 e1),(hp10 e0 e1),(hp11 e0 e1),(hp12 e0 e1),h⟩))⟩)
  (fun e0 h => ⟨(hp14 e0),(hp15 e0),(hp16 e0),(hp17 e0),(hp18 e0),(hp19 e0),(hp20 e0),(br' h (fun e2 h => h)
  (fun e2 h => ⟨(hp21 e0 e2),(hp22 e0 e2),(hp23 e0 e2),(hp24 e0 e2),(hp25 e0 e2),(hp22 e0 e2),(hp23 e0 e2),(hp24 e0 e2),h⟩))⟩))
/-- A rational number as the reference keeps it. -/
def v_rat (q:Rat):(Int×List Int)×(Int×List Int) := (v_wide q.num,v_wide (q.den:Int))
def v_rv (p:(Int×List Int)×(Int×List Int)):Rat := (v_wval p.1:Rat) / (v_wval p.2:Rat)
theorem v_rv_rat (q:Rat):v_rv (v_rat q)=q := by
 unfold v_rv v_rat
 rw [v_wval_wide,v_wval_wide,← Rat.divInt_eq_div,Rat.num_divInt_den]
structure v_rok (p:(Int×List Int)×(Int×List Int)):Prop where
 eq:p = v_rat (v_rv p)
 l1:p.1.2.length≤100000000000
 l2:p.2.2.length≤100000000000
theorem v_rok.ex {p:(Int×List Int)×(Int×List Int)} (h:v_rok p):∃ q:Rat,p = v_rat q∧v_dl q.num≤100000000000∧v_dl q.den≤100000000000 := ⟨_,h.eq,by have := h.l1; rw [h.eq] at this; exact this,by have := h.l2; rw [h.eq] at this; exact this⟩
theorem v_rok_of {q:Rat} (h1:v_dl q.num≤100000000000) (h2:v_dl q.den≤100000000000):v_rok (v_rat q) := ⟨by rw [v_rv_rat],h1,h2⟩
/-- Bounds of both parts. -/
structure v_rb (B:Int) (q:Rat):Prop where
 n:(q.num.natAbs:Int)≤B
 d:(q.den:Int)≤B
theorem v_rb.ok {B:Int} {q:Rat} (h:v_rb B q) (hB:B < v_pow 100):v_rok (v_rat q) :=
 v_rok_of (Nat.le_trans (v_digs_len (k := 100) (by have := h.n; omega)) (by decide)) (Nat.le_trans (v_digs_len (k := 100) (by have := h.d; omega)) (by decide))
/-- What a quotient of two whole numbers is at most. -/
theorem v_rdiv_le2 {n d:Int} (hd:d ≠ 0):((n:Rat) / (d:Rat)).num.natAbs≤n.natAbs∧((n:Rat) / (d:Rat)).den≤d.natAbs := by
 rw [← Rat.divInt_eq_div,Rat.num_divInt,Rat.den_divInt,if_neg hd]
 refine ⟨?_,Nat.div_le_self _ _⟩
 rw [Int.natAbs_ediv_of_dvd (by
  have:(d.gcd n:Int) ∣ n := Int.gcd_dvd_right d n
  exact Int.dvd_trans this (Int.dvd_mul_left _ _))]
 refine Nat.le_trans (Nat.div_le_self _ _) ?_
 rw [Int.natAbs_mul]
 have:d.sign.natAbs = 1 := Int.natAbs_sign_of_ne_zero hd
 rw [this,Nat.one_mul]
 exact Nat.le_refl _
theorem v_rb_div {B n d:Int} (hd:d ≠ 0) (h1:(n.natAbs:Int)≤B) (h2:(d.natAbs:Int)≤B):v_rb B ((n:Rat) / (d:Rat)) := by
 have := v_rdiv_le2 (n := n) hd
 exact ⟨by omega,by omega⟩
theorem v_rcast_ne {d:Int} (h:d ≠ 0):(d:Rat) ≠ 0 := fun e => h (Rat.intCast_eq_zero_iff.1 e)
/-- Sums,products and quotients,by their parts. -/
theorem v_qnum (q:Rat):(q.num:Rat)=q * ((q.den:Int):Rat) := by
 have hq := v_rcast_ne (d := (q.den:Int)) (by have := q.den_pos; omega)
 have e := Rat.num_divInt_den q
 rw [Rat.divInt_eq_div] at e
 have h := Rat.div_mul_cancel (a := (q.num:Rat)) hq
 rw [e] at h
 exact h.symm
theorem v_qadd (p q:Rat):p + q = ((p.num * q.den + q.num * p.den:Int):Rat) / ((p.den * q.den:Int):Rat) := by
 have hp := v_rcast_ne (d := (p.den:Int)) (by have := p.den_pos; omega)
 have hq := v_rcast_ne (d := (q.den:Int)) (by have := q.den_pos; omega)
 have ep := v_qnum p
 have eq := v_qnum q
 rw [Rat.intCast_add,Rat.intCast_mul,Rat.intCast_mul,Rat.intCast_mul,ep,eq]
 generalize ((p.den:Int):Rat)=a at *
 generalize ((q.den:Int):Rat)=b at *
 grind
theorem v_qmul (p q:Rat):p * q = ((p.num * q.num:Int):Rat) / ((p.den * q.den:Int):Rat) := by
 have hp := v_rcast_ne (d := (p.den:Int)) (by have := p.den_pos; omega)
 have hq := v_rcast_ne (d := (q.den:Int)) (by have := q.den_pos; omega)
 have ep := v_qnum p
 have eq := v_qnum q
 rw [Rat.intCast_mul,Rat.intCast_mul,ep,eq]
 generalize ((p.den:Int):Rat)=a at *
 generalize ((q.den:Int):Rat)=b at *
 grind
theorem v_qdiv (p q:Rat) (h:q.num ≠ 0):p / q = ((p.num * q.den:Int):Rat) / ((p.den * q.num:Int):Rat) := by
 have hp := v_rcast_ne (d := (p.den:Int)) (by have := p.den_pos; omega)
 have hq := v_rcast_ne (d := (q.den:Int)) (by have := q.den_pos; omega)
 have hn := v_rcast_ne h
 have ep := v_qnum p
 have eq := v_qnum q
 have hq0:q ≠ 0 := fun e => by rw [e] at h; exact h rfl
 rw [Rat.intCast_mul,Rat.intCast_mul,ep,eq]
 generalize ((p.den:Int):Rat)=a at *
 generalize ((q.den:Int):Rat)=b at *
 rw [Rat.div_def,Rat.div_def,Rat.inv_mul_rev,Rat.inv_mul_rev]
 have h1:a * a⁻¹ = 1 := Rat.mul_inv_cancel _ hp
 have h2:b * b⁻¹ = 1 := Rat.mul_inv_cancel _ hq
 grind
theorem v_natmul {a b A B:Int} (h1:(a.natAbs:Int)≤A) (h2:(b.natAbs:Int)≤B):((a * b).natAbs:Int)≤A * B := by
 rw [Int.natAbs_mul,Int.natCast_mul]
 exact (mul_in (by omega) h1 (by omega) h2).2
theorem v_rb_add {A B:Int} {p q:Rat} (hp:v_rb A p) (hq:v_rb B q):v_rb (2 * (A * B)) (p + q) := by
 rw [v_qadd]
 have h1 := v_natmul hp.n (b := (q.den:Int)) (B := B) (by have := hq.d; omega)
 have h2 := v_natmul hq.n (b := (p.den:Int)) (B := A) (by have := hp.d; omega)
 have h3 := v_natmul (a := (p.den:Int)) (A := A) (by have := hp.d; omega) (b := (q.den:Int)) (B := B) (by have := hq.d; omega)
 rw [Int.mul_comm B A] at h2
 have hd:(p.den:Int) * (q.den:Int) ≠ 0 := Int.mul_ne_zero (by have := p.den_pos; omega) (by have := q.den_pos; omega)
 exact v_rb_div hd (by omega) (by omega)
theorem v_rb_mul {A B:Int} {p q:Rat} (hp:v_rb A p) (hq:v_rb B q):v_rb (A * B) (p * q) := by
 rw [v_qmul]
 have h1 := v_natmul hp.n hq.n
 have h3 := v_natmul (a := (p.den:Int)) (A := A) (by have := hp.d; omega) (b := (q.den:Int)) (B := B) (by have := hq.d; omega)
 have hd:(p.den:Int) * (q.den:Int) ≠ 0 := Int.mul_ne_zero (by have := p.den_pos; omega) (by have := q.den_pos; omega)
 exact v_rb_div hd h1 h3
theorem v_rb_neg {A:Int} {p:Rat} (hp:v_rb A p):v_rb A (-p) := ⟨by rw [Rat.neg_num,Int.natAbs_neg]; exact hp.n,by rw [Rat.neg_den]; exact hp.d⟩
theorem v_rb_int {A n:Int} (h:(n.natAbs:Int)≤A) (h1:1≤A):v_rb A (n:Rat) := ⟨h,h1⟩
theorem v_rb_le {A B:Int} {p:Rat} (hp:v_rb A p) (h:A≤B):v_rb B p := ⟨Int.le_trans hp.n h,Int.le_trans hp.d h⟩
/-- Operations on such numbers. -/
def v_rmk (n d:Int):(Int×List Int)×(Int×List Int) := v_rat ((n:Rat) / (d:Rat))
def v_rint (n:Int):(Int×List Int)×(Int×List Int) := v_rat (n:Rat)
def v_rneg (p:(Int×List Int)×(Int×List Int)):(Int×List Int)×(Int×List Int) := v_rat (-(v_rv p))
def v_radd (p q:(Int×List Int)×(Int×List Int)):(Int×List Int)×(Int×List Int) := v_rat (v_rv p + v_rv q)
def v_rsub (p q:(Int×List Int)×(Int×List Int)):(Int×List Int)×(Int×List Int) := v_rat (v_rv p - v_rv q)
def v_rmul (p q:(Int×List Int)×(Int×List Int)):(Int×List Int)×(Int×List Int) := v_rat (v_rv p * v_rv q)
def v_rdiv (p q:(Int×List Int)×(Int×List Int)):(Int×List Int)×(Int×List Int) := v_rat (v_rv p / v_rv q)
def v_qcmp (p q:Rat):Int := v_cmp (p.num * q.den) (q.num * p.den)
def v_rcmp (p q:(Int×List Int)×(Int×List Int)):Int := v_qcmp (v_rv p) (v_rv q)
def v_rsgn (p:(Int×List Int)×(Int×List Int)):Int := (v_rv p).num.sign
theorem v_qcmp_lt {p q:Rat}:v_qcmp p q < 0 ↔ p < q := by rw [Rat.lt_iff]; exact v_cmp_lt
theorem v_qcmp_gt {p q:Rat}:0 < v_qcmp p q ↔ q < p := by rw [Rat.lt_iff]; exact v_cmp_gt
abbrev t_Zx (p0:Int×List Int) (p1:Int×List Int):(Int×List Int)×(Int×List Int) := v_rmk (v_wval p0) (v_wval p1)
abbrev qre_Zx (p0:Int×List Int) (p1:Int×List Int):List Prop := [v_wok p0,v_wok p1,p0.2.length≤400000000000,p1.2.length≤400000000000,v_wval p1 ≠ 0]
theorem pp_Zx (p0:Int×List Int) (p1:Int×List Int) (hq:∀ p∈qre_Zx p0 p1,p):∀ p∈pre_Zx p0 p1,p := by
 obtain ⟨h1,h2,h3,h4,h5,_⟩ := conj_of hq
 obtain ⟨n,rfl,hn⟩ := h1.ex
 obtain ⟨d,rfl,hd⟩ := h2.ex
 rw [v_wide_len] at h3 h4
 rw [v_wval_wide] at h5
 have g0 := v_gcd_pos (a := n) h5
 have g0' := v_gcd_pos (a := -n) (b := -d) (by omega)
 have gd:v_dl (v_gcd n d)≤400000000000 := Nat.le_trans (v_dl_mono (by have := Nat.le_of_dvd (by omega) (show n.gcd d ∣ d.natAbs from Nat.gcd_dvd_right _ _); unfold v_gcd; omega)) h4
 have gg:v_gcd (-n) (-d)=v_gcd n d := by unfold v_gcd; rw [Int.neg_gcd,Int.gcd_neg]
 have w1:v_wok (v_wide 1) := v_wok_of (Nat.le_trans (v_digs_len (k := 1) (by decide)) (by decide))
 have wg:v_wok (v_wide (v_gcd n d)) := v_wok_of (Nat.le_trans gd (by decide))
 have wn:v_wok (v_wide (-n)) := v_wok_of (by rw [v_dl_neg]; exact hn)
 have wd:v_wok (v_wide (-d)) := v_wok_of (by rw [v_dl_neg]; exact hd)
 have f1:v_fit 1 := by unfold v_fit; omega
 have lg:(v_wide (v_gcd n d)).2.length≤500000000000 := Nat.le_trans gd (by decide)
 have ln:(v_wide (-n)).2.length≤400000000000 := by rw [v_wide_len,v_dl_neg]; exact h3
 have ld:(v_wide (-d)).2.length≤400000000000 := by rw [v_wide_len,v_dl_neg]; exact h4
 simp only [pre_Zx,fM,v_wval_wide,gg]
 and_intros
 all_goals first
  | (intro p hp; cases hp; done)
  | exact f1
  | exact w1
  | (intros; first | exact h1 | exact h2 | exact wn | exact wd | exact wg | exact w1 | exact f1 | exact h3 | exact h4 | exact ln | exact ld | exact lg | exact g0)
theorem tt_Zx (p0:Int×List Int) (p1:Int×List Int) (hq:∀ p∈qre_Zx p0 p1,p):s_Zx p0 p1 = t_Zx p0 p1 := by
 obtain ⟨h1,h2,h3,h4,h5,_⟩ := conj_of hq
 obtain ⟨n,rfl,hn⟩ := h1.ex
 obtain ⟨d,rfl,hd⟩ := h2.ex
 rw [v_wval_wide] at h5
 unfold s_Zx t_Zx v_rmk v_rat
 have key:∀ n d:Int,0 < d→cond (v_cmp (v_gcd n d) 1 == 0) (v_wide n,v_wide d) (v_wide (n / v_gcd n d),v_wide (d / v_gcd n d))=(v_wide ((n:Rat) / (d:Rat)).num,v_wide (((n:Rat) / (d:Rat)).den:Int)) := by
  intro n d hd
  have e := v_low_frac (n := n) hd
  unfold v_low v_frac at e
  simp only [pJ] at e
  rw [← e.1,← e.2]
  have g := v_gcd_pos (a := n) (b := d) (by omega)
  rcases Decidable.em (v_gcd n d = 1) with k | k
  ·rw [k,Int.ediv_one,Int.ediv_one]; cases (v_cmp 1 1 == 0) <;> rfl
  ·have:(v_cmp (v_gcd n d) 1 == 0)=false := by
    unfold v_cmp
    rw [decide_eq_false (show ¬ v_gcd n d < 1 by omega),decide_eq_true (show v_gcd n d > 1 by omega)]; rfl
   rw [this]; rfl
 have gg:v_gcd (-n) (-d)=v_gcd n d := by unfold v_gcd; rw [Int.neg_gcd,Int.gcd_neg]
 simp only [v_wval_wide]
 rcases Int.lt_or_le d 0 with c | c
 ·have k := key (-n) (-d) (by omega)
  rw [Rat.intCast_neg,Rat.intCast_neg,show -(n:Rat) / -(d:Rat)=(n:Rat) / (d:Rat) from by rw [Rat.div_def,Rat.div_def,show (-(d:Rat))⁻¹ = -((d:Rat)⁻¹) from by have := v_rcast_ne h5; grind]; grind] at k
  have e1:decide ((v_wide d).1 < 0)=true := decide_eq_true (by rw [v_wide_1,Int.sign_eq_neg_one_of_neg c]; decide)
  rw [e1,← k]
  simp only [cond_true]
 ·have k := key n d (by omega)
  have e1:decide ((v_wide d).1 < 0)=false := decide_eq_false (by rw [v_wide_1,Int.sign_eq_one_of_pos (show 0 < d by omega)]; decide)
  rw [e1,← k]
  simp only [cond_false]

abbrev con_Zx:Con := ⟨P_Zx,R_Zx,fun x => qre_Zx x.1 x.2,fun x => t_Zx x.1 x.2⟩
theorem ok_Zx:ConOk Tryz.prog 136 con_Zx := okG k_Zx e_Zx hC_Zx fun x hx => tf_of (w_Zx_eq x.1 x.2 _) (d_Zx x.1 x.2 _ (pp_Zx x.1 x.2 hx) (tt_Zx x.1 x.2 hx))
def C_Z1t:Cons := [(116,[],con_Zr),(136,[],con_Zx)]
theorem hC_Z1t:ConsOk Tryz.prog C_Z1t := cC ok_Zr <| cC ok_Zx <| ConsOk.nil
def w_Z1t (p0:Int) (p1:Int) (K:((Int×(List Int))×(Int×(List Int)))→Prop):Prop := ((v_fit p0) ∧((v_fit p1) ∧((v_wok (v_wide p0)) ∧((v_wok (v_wide p1)) ∧(((List.length (v_wide p0).2)≤400000000000) ∧(((List.length (v_wide p1).2)≤400000000000) ∧(((v_wval (v_wide p1)) ≠ zz0) ∧(K (v_rmk (v_wval (v_wide p0)) (v_wval (v_wide p1)))))))))))
theorem w_Z1t_eq (p0:Int) (p1:Int) (K:((Int×(List Int))×(Int×(List Int)))→Prop):tfn F_Z1t A_Z1t C_Z1t P_Z1t R_Z1t (p0,p1) K = w_Z1t p0 p1 K := by kernel_rfl
def s_Z1t (p0:Int) (p1:Int):((Int×(List Int))×(Int×(List Int))) := (v_rmk (v_wval (v_wide p0)) (v_wval (v_wide p1)))
abbrev pre_Z1t (p0:Int) (p1:Int):List Prop := [(v_fit p0),(v_fit p1),(v_wok (v_wide p0)),(v_wok (v_wide p1)),((List.length (v_wide p0).2)≤400000000000),((List.length (v_wide p1).2)≤400000000000),((v_wval (v_wide p1)) ≠ (0:Int))]
theorem d_Z1t (p0:Int) (p1:Int) (K:((Int×(List Int))×(Int×(List Int)))→Prop) (hp:∀ p∈pre_Z1t p0 p1,p) (h:K (s_Z1t p0 p1)):w_Z1t p0 p1 K := by
 unfold w_Z1t
 unfold s_Z1t at h
 obtain ⟨hp0,hp1,hp2,hp3,hp4,hp5,hp6,_⟩ := conj_of hp
 exact ⟨(hp0),(hp1),(hp2),(hp3),(hp4),(hp5),(hp6),h⟩
theorem v_rat_1 (q:Rat):(v_rat q).1 = v_wide q.num := rfl
theorem v_rat_2 (q:Rat):(v_rat q).2 = v_wide (q.den:Int) := rfl
theorem v_dl_fit {n:Int} (h:v_fit n):v_dl n≤12 := v_digs_len (k := 12) (by unfold v_fit at h; rw [show (v_pow 12:Int)=1000000000000000000000000000000000000000000000000000000000000000000000000000000000000000000000000000000000000 by decide]; omega)
theorem v_den_ne (q:Rat):(q.den:Int) ≠ 0 := by have := q.den_pos; omega
abbrev t_Z1t (p0:Int) (p1:Int):(Int×List Int)×(Int×List Int) := v_rmk p0 p1
abbrev qre_Z1t (p0:Int) (p1:Int):List Prop := [v_fit p0,v_fit p1,p1 ≠ 0]
theorem pp_Z1t (p0:Int) (p1:Int) (hq:∀ p∈qre_Z1t p0 p1,p):∀ p∈pre_Z1t p0 p1,p := by
 obtain ⟨h1,h2,h3,_⟩ := conj_of hq
 have d1 := v_dl_fit h1
 have d2 := v_dl_fit h2
 simp only [pre_Z1t,fM]
 and_intros
 all_goals first
  | (intro p hp; cases hp; done)
  | (intros; assumption)
  | (intros; rw [v_wval_wide]; assumption)
  | (intros; apply v_wok_of; omega)
  | (intros; rw [v_wide_len]; omega)
  | omega
  | (unfold v_fit at *; omega)
theorem tt_Z1t (p0:Int) (p1:Int) (_hq:∀ p∈qre_Z1t p0 p1,p):s_Z1t p0 p1 = t_Z1t p0 p1 := by
 unfold s_Z1t t_Z1t
 rw [v_wval_wide,v_wval_wide]

abbrev con_Z1t:Con := ⟨P_Z1t,R_Z1t,fun x => qre_Z1t x.1 x.2,fun x => t_Z1t x.1 x.2⟩
theorem ok_Z1t:ConOk Tryz.prog 119 con_Z1t := okG k_Z1t e_Z1t hC_Z1t fun x hx => tf_of (w_Z1t_eq x.1 x.2 _) (d_Z1t x.1 x.2 _ (pp_Z1t x.1 x.2 hx) (tt_Z1t x.1 x.2 hx))
def C_Z19:Cons := [(116,[],con_Zr)]
theorem hC_Z19:ConsOk Tryz.prog C_Z19 := cC ok_Zr <| ConsOk.nil
def w_Z19 (p0:Int) (K:((Int×(List Int))×(Int×(List Int)))→Prop):Prop := ((v_fit p0) ∧((v_fit zz1) ∧(K ((v_wide p0),(v_wide zz1)))))
theorem w_Z19_eq (p0:Int) (K:((Int×(List Int))×(Int×(List Int)))→Prop):tfn F_Z19 A_Z19 C_Z19 P_Z19 R_Z19 p0 K = w_Z19 p0 K := by kernel_rfl
def s_Z19 (p0:Int):((Int×(List Int))×(Int×(List Int))) := ((v_wide p0),(v_wide (1:Int)))
abbrev pre_Z19 (p0:Int):List Prop := [(v_fit p0),(v_fit (1:Int))]
theorem d_Z19 (p0:Int) (K:((Int×(List Int))×(Int×(List Int)))→Prop) (hp:∀ p∈pre_Z19 p0,p) (h:K (s_Z19 p0)):w_Z19 p0 K := by
 unfold w_Z19
 unfold s_Z19 at h
 obtain ⟨hp0,hp1,_⟩ := conj_of hp
 exact ⟨(hp0),(hp1),h⟩
abbrev t_Z19 (p0:Int):(Int×List Int)×(Int×List Int) := v_rint p0
abbrev qre_Z19 (p0:Int):List Prop := [v_fit p0]
theorem pp_Z19 (p0:Int) (hq:∀ p∈qre_Z19 p0,p):∀ p∈pre_Z19 p0,p := by
 obtain ⟨h1,_⟩ := conj_of hq
 simp only [pre_Z19,fM]
 and_intros
 all_goals first
  | (intro p hp; cases hp; done)
  | (intros; assumption)
  | (intros; rw [v_wval_wide]; assumption)
  | (intros; apply v_wok_of; omega)
  | (intros; rw [v_wide_len]; omega)
  | omega
  | (unfold v_fit at *; omega)
theorem tt_Z19 (p0:Int) (_hq:∀ p∈qre_Z19 p0,p):s_Z19 p0 = t_Z19 p0 := by
 unfold s_Z19 t_Z19
 rfl

abbrev con_Z19:Con := ⟨P_Z19,R_Z19,fun x => qre_Z19 x,fun x => t_Z19 x⟩
theorem ok_Z19:ConOk Tryz.prog 97 con_Z19 := okG k_Z19 e_Z19 hC_Z19 fun x hx => tf_of (w_Z19_eq x _) (d_Z19 x _ (pp_Z19 x hx) (tt_Z19 x hx))
def C_Z1l:Cons := [(101,[],con_Zc),(136,[],con_Zx)]
theorem hC_Z1l:ConsOk Tryz.prog C_Z1l := cC ok_Zc <| cC ok_Zx <| ConsOk.nil
def w_Z1l (p0:gD) (p1:gD) (K:((Int×(List Int))×(Int×(List Int)))→Prop):Prop := ((v_wok p0.1) ∧((v_wok p1.1) ∧((v_wok p0.2) ∧((v_wok p1.2) ∧((v_wok (v_wide ((v_wval p0.1) * (v_wval p1.1)))) ∧((v_wok (v_wide ((v_wval p0.2) * (v_wval p1.2)))) ∧(((List.length (v_wide ((v_wval p0.1) * (v_wval p1.1))).2)≤400000000000) ∧(((List.length (v_wide ((v_wval p0.2) * (v_wval p1.2))).2)≤400000000000) ∧(((v_wval (v_wide ((v_wval p0.2) * (v_wval p1.2)))) ≠ zz0) ∧(K (v_rmk (v_wval (v_wide ((v_wval p0.1) * (v_wval p1.1)))) (v_wval (v_wide ((v_wval p0.2) * (v_wval p1.2)))))))))))))))
theorem w_Z1l_eq (p0:gD) (p1:gD) (K:((Int×(List Int))×(Int×(List Int)))→Prop):tfn F_Z1l A_Z1l C_Z1l P_Z1l R_Z1l (p0,p1) K = w_Z1l p0 p1 K := by kernel_rfl
def s_Z1l (p0:gD) (p1:gD):((Int×(List Int))×(Int×(List Int))) := (v_rmk (v_wval (v_wide ((v_wval p0.1) * (v_wval p1.1)))) (v_wval (v_wide ((v_wval p0.2) * (v_wval p1.2)))))
abbrev pre_Z1l (p0:gD) (p1:gD):List Prop := [(v_wok p0.1),(v_wok p1.1),(v_wok p0.2),(v_wok p1.2),(v_wok (v_wide ((v_wval p0.1) * (v_wval p1.1)))),(v_wok (v_wide ((v_wval p0.2) * (v_wval p1.2)))),((List.length (v_wide ((v_wval p0.1) * (v_wval p1.1))).2)≤400000000000),((List.length (v_wide ((v_wval p0.2) * (v_wval p1.2))).2)≤400000000000),((v_wval (v_wide ((v_wval p0.2) * (v_wval p1.2)))) ≠ (0:Int))]
theorem d_Z1l (p0:gD) (p1:gD) (K:((Int×(List Int))×(Int×(List Int)))→Prop) (hp:∀ p∈pre_Z1l p0 p1,p) (h:K (s_Z1l p0 p1)):w_Z1l p0 p1 K := by
 unfold w_Z1l
 unfold s_Z1l at h
 obtain ⟨hp0,hp1,hp2,hp3,hp4,hp5,hp6,hp7,hp8,_⟩ := conj_of hp
 exact ⟨(hp0),(hp1),(hp2),(hp3),(hp4),(hp5),(hp6),(hp7),(hp8),h⟩
abbrev t_Z1l (p0:(Int×List Int)×(Int×List Int)) (p1:(Int×List Int)×(Int×List Int)):(Int×List Int)×(Int×List Int) := v_rmul p0 p1
abbrev qre_Z1l (p0:(Int×List Int)×(Int×List Int)) (p1:(Int×List Int)×(Int×List Int)):List Prop := [v_rok p0,v_rok p1]
theorem pp_Z1l (p0:(Int×List Int)×(Int×List Int)) (p1:(Int×List Int)×(Int×List Int)) (hq:∀ p∈qre_Z1l p0 p1,p):∀ p∈pre_Z1l p0 p1,p := by
 obtain ⟨h1,h2,_⟩ := conj_of hq
 obtain ⟨p,rfl,a1,a2⟩ := h1.ex
 obtain ⟨q,rfl,b1,b2⟩ := h2.ex
 have m3 := v_dl_mul p.num q.num
 have m4 := v_dl_mul p.den q.den
 have hne:(p.den:Int) * (q.den:Int) ≠ 0 := Int.mul_ne_zero (v_den_ne p) (v_den_ne q)
 simp only [pre_Z1l,fM,v_rat_1,v_rat_2,v_wval_wide]
 and_intros
 all_goals first
  | (intro p hp; cases hp; done)
  | (intros; assumption)
  | (intros; rw [v_wval_wide]; assumption)
  | (intros; apply v_wok_of; omega)
  | (intros; rw [v_wide_len]; omega)
  | omega
  | (unfold v_fit at *; omega)
theorem tt_Z1l (p0:(Int×List Int)×(Int×List Int)) (p1:(Int×List Int)×(Int×List Int)) (hq:∀ p∈qre_Z1l p0 p1,p):s_Z1l p0 p1 = t_Z1l p0 p1 := by
 obtain ⟨h1,h2,_⟩ := conj_of hq
 obtain ⟨p,rfl,a1,a2⟩ := h1.ex
 obtain ⟨q,rfl,b1,b2⟩ := h2.ex
 unfold s_Z1l t_Z1l v_rmul v_rmk
 simp only [v_rat_1,v_rat_2,v_rv_rat,v_wval_wide]
 rw [v_qmul]

abbrev con_Z1l:Con := ⟨P_Z1l,R_Z1l,fun x => qre_Z1l x.1 x.2,fun x => t_Z1l x.1 x.2⟩
theorem ok_Z1l:ConOk Tryz.prog 120 con_Z1l := okG k_Z1l e_Z1l hC_Z1l fun x hx => tf_of (w_Z1l_eq x.1 x.2 _) (d_Z1l x.1 x.2 _ (pp_Z1l x.1 x.2 hx) (tt_Z1l x.1 x.2 hx))
def C_Z1m:Cons := [(101,[],con_Zc),(137,[],con_Z1n),(136,[],con_Zx)]
theorem hC_Z1m:ConsOk Tryz.prog C_Z1m := cC ok_Zc <| cC ok_Z1n <| cC ok_Zx <| ConsOk.nil
def w_Z1m (p0:gD) (p1:gD) (K:((Int×(List Int))×(Int×(List Int)))→Prop):Prop := ((v_wok p0.1) ∧((v_wok p1.2) ∧((v_wok p1.1) ∧((v_wok p0.2) ∧((v_wok (v_wide ((v_wval p0.1) * (v_wval p1.2)))) ∧((v_wok (v_wide ((v_wval p1.1) * (v_wval p0.2)))) ∧((v_wok p0.2) ∧((v_wok p1.2) ∧((v_wok (v_wide ((v_wval (v_wide ((v_wval p0.1) * (v_wval p1.2)))) + (v_wval (v_wide ((v_wval p1.1) * (v_wval p0.2))))))) ∧((v_wok (v_wide ((v_wval p0.2) * (v_wval p1.2)))) ∧(((List.length (v_wide ((v_wval (v_wide ((v_wval p0.1) * (v_wval p1.2)))) + (v_wval (v_wide ((v_wval p1.1) * (v_wval p0.2)))))).2)≤400000000000) ∧(((List.length (v_wide ((v_wval p0.2) * (v_wval p1.2))).2)≤400000000000) ∧(((v_wval (v_wide ((v_wval p0.2) * (v_wval p1.2)))) ≠ zz0) ∧(K (v_rmk (v_wval (v_wide ((v_wval (v_wide ((v_wval p0.1) * (v_wval p1.2)))) + (v_wval (v_wide ((v_wval p1.1) * (v_wval p0.2))))))) (v_wval (v_wide ((v_wval p0.2) * (v_wval p1.2)))))))))))))))))))
theorem w_Z1m_eq (p0:gD) (p1:gD) (K:((Int×(List Int))×(Int×(List Int)))→Prop):tfn F_Z1m A_Z1m C_Z1m P_Z1m R_Z1m (p0,p1) K = w_Z1m p0 p1 K := by kernel_rfl
def s_Z1m (p0:gD) (p1:gD):((Int×(List Int))×(Int×(List Int))) := (v_rmk (v_wval (v_wide ((v_wval (v_wide ((v_wval p0.1) * (v_wval p1.2)))) + (v_wval (v_wide ((v_wval p1.1) * (v_wval p0.2))))))) (v_wval (v_wide ((v_wval p0.2) * (v_wval p1.2)))))
abbrev pre_Z1m (p0:gD) (p1:gD):List Prop := [(v_wok p0.1),(v_wok p1.2),(v_wok p1.1),(v_wok p0.2),(v_wok (v_wide ((v_wval p0.1) * (v_wval p1.2)))),(v_wok (v_wide ((v_wval p1.1) * (v_wval p0.2)))),(v_wok (v_wide ((v_wval (v_wide ((v_wval p0.1) * (v_wval p1.2)))) + (v_wval (v_wide ((v_wval p1.1) * (v_wval p0.2))))))),(v_wok (v_wide ((v_wval p0.2) * (v_wval p1.2)))),((List.length (v_wide ((v_wval (v_wide ((v_wval p0.1) * (v_wval p1.2)))) + (v_wval (v_wide ((v_wval p1.1) * (v_wval p0.2)))))).2)≤400000000000),((List.length (v_wide ((v_wval p0.2) * (v_wval p1.2))).2)≤400000000000),((v_wval (v_wide ((v_wval p0.2) * (v_wval p1.2)))) ≠ (0:Int))]
theorem d_Z1m (p0:gD) (p1:gD) (K:((Int×(List Int))×(Int×(List Int)))→Prop) (hp:∀ p∈pre_Z1m p0 p1,p) (h:K (s_Z1m p0 p1)):w_Z1m p0 p1 K := by
 unfold w_Z1m
 unfold s_Z1m at h
 obtain ⟨hp0,hp1,hp2,hp3,hp4,hp5,hp6,hp7,hp8,hp9,hp10,_⟩ := conj_of hp
 exact ⟨(hp0),(hp1),(hp2),(hp3),(hp4),(hp5),(hp3),(hp1),(hp6),(hp7),(hp8),(hp9),(hp10),h⟩
abbrev t_Z1m (p0:(Int×List Int)×(Int×List Int)) (p1:(Int×List Int)×(Int×List Int)):(Int×List Int)×(Int×List Int) := v_radd p0 p1
abbrev qre_Z1m (p0:(Int×List Int)×(Int×List Int)) (p1:(Int×List Int)×(Int×List Int)):List Prop := [v_rok p0,v_rok p1]
theorem pp_Z1m (p0:(Int×List Int)×(Int×List Int)) (p1:(Int×List Int)×(Int×List Int)) (hq:∀ p∈qre_Z1m p0 p1,p):∀ p∈pre_Z1m p0 p1,p := by
 obtain ⟨h1,h2,_⟩ := conj_of hq
 obtain ⟨p,rfl,a1,a2⟩ := h1.ex
 obtain ⟨q,rfl,b1,b2⟩ := h2.ex
 have m1 := v_dl_mul p.num q.den
 have m2 := v_dl_mul q.num p.den
 have m3 := v_dl_add (p.num * q.den) (q.num * p.den)
 have m4 := v_dl_mul p.den q.den
 have hne:(p.den:Int) * (q.den:Int) ≠ 0 := Int.mul_ne_zero (v_den_ne p) (v_den_ne q)
 simp only [pre_Z1m,fM,v_rat_1,v_rat_2,v_wval_wide]
 and_intros
 all_goals first
  | (intro p hp; cases hp; done)
  | (intros; assumption)
  | (intros; rw [v_wval_wide]; assumption)
  | (intros; apply v_wok_of; omega)
  | (intros; rw [v_wide_len]; omega)
  | omega
  | (unfold v_fit at *; omega)
theorem tt_Z1m (p0:(Int×List Int)×(Int×List Int)) (p1:(Int×List Int)×(Int×List Int)) (hq:∀ p∈qre_Z1m p0 p1,p):s_Z1m p0 p1 = t_Z1m p0 p1 := by
 obtain ⟨h1,h2,_⟩ := conj_of hq
 obtain ⟨p,rfl,a1,a2⟩ := h1.ex
 obtain ⟨q,rfl,b1,b2⟩ := h2.ex
 unfold s_Z1m t_Z1m v_radd v_rmk
 simp only [v_rat_1,v_rat_2,v_rv_rat,v_wval_wide]
 rw [v_qadd]

abbrev con_Z1m:Con := ⟨P_Z1m,R_Z1m,fun x => qre_Z1m x.1 x.2,fun x => t_Z1m x.1 x.2⟩
theorem ok_Z1m:ConOk Tryz.prog 121 con_Z1m := okG k_Z1m e_Z1m hC_Z1m fun x hx => tf_of (w_Z1m_eq x.1 x.2 _) (d_Z1m x.1 x.2 _ (pp_Z1m x.1 x.2 hx) (tt_Z1m x.1 x.2 hx))
def C_Z1u:Cons := [(101,[],con_Zc),(136,[],con_Zx)]
theorem hC_Z1u:ConsOk Tryz.prog C_Z1u := cC ok_Zc <| cC ok_Zx <| ConsOk.nil
def w_Z1u (p0:gD) (p1:gD) (K:((Int×(List Int))×(Int×(List Int)))→Prop):Prop := ((v_wok p0.1) ∧((v_wok p1.2) ∧((v_wok p0.2) ∧((v_wok p1.1) ∧((v_wok (v_wide ((v_wval p0.1) * (v_wval p1.2)))) ∧((v_wok (v_wide ((v_wval p0.2) * (v_wval p1.1)))) ∧(((List.length (v_wide ((v_wval p0.1) * (v_wval p1.2))).2)≤400000000000) ∧(((List.length (v_wide ((v_wval p0.2) * (v_wval p1.1))).2)≤400000000000) ∧(((v_wval (v_wide ((v_wval p0.2) * (v_wval p1.1)))) ≠ zz0) ∧(K (v_rmk (v_wval (v_wide ((v_wval p0.1) * (v_wval p1.2)))) (v_wval (v_wide ((v_wval p0.2) * (v_wval p1.1)))))))))))))))
theorem w_Z1u_eq (p0:gD) (p1:gD) (K:((Int×(List Int))×(Int×(List Int)))→Prop):tfn F_Z1u A_Z1u C_Z1u P_Z1u R_Z1u (p0,p1) K = w_Z1u p0 p1 K := by kernel_rfl
def s_Z1u (p0:gD) (p1:gD):((Int×(List Int))×(Int×(List Int))) := (v_rmk (v_wval (v_wide ((v_wval p0.1) * (v_wval p1.2)))) (v_wval (v_wide ((v_wval p0.2) * (v_wval p1.1)))))
abbrev pre_Z1u (p0:gD) (p1:gD):List Prop := [(v_wok p0.1),(v_wok p1.2),(v_wok p0.2),(v_wok p1.1),(v_wok (v_wide ((v_wval p0.1) * (v_wval p1.2)))),(v_wok (v_wide ((v_wval p0.2) * (v_wval p1.1)))),((List.length (v_wide ((v_wval p0.1) * (v_wval p1.2))).2)≤400000000000),((List.length (v_wide ((v_wval p0.2) * (v_wval p1.1))).2)≤400000000000),((v_wval (v_wide ((v_wval p0.2) * (v_wval p1.1)))) ≠ (0:Int))]
theorem d_Z1u (p0:gD) (p1:gD) (K:((Int×(List Int))×(Int×(List Int)))→Prop) (hp:∀ p∈pre_Z1u p0 p1,p) (h:K (s_Z1u p0 p1)):w_Z1u p0 p1 K := by
 unfold w_Z1u
 unfold s_Z1u at h
 obtain ⟨hp0,hp1,hp2,hp3,hp4,hp5,hp6,hp7,hp8,_⟩ := conj_of hp
 exact ⟨(hp0),(hp1),(hp2),(hp3),(hp4),(hp5),(hp6),(hp7),(hp8),h⟩
abbrev t_Z1u (p0:(Int×List Int)×(Int×List Int)) (p1:(Int×List Int)×(Int×List Int)):(Int×List Int)×(Int×List Int) := v_rdiv p0 p1
abbrev qre_Z1u (p0:(Int×List Int)×(Int×List Int)) (p1:(Int×List Int)×(Int×List Int)):List Prop := [v_rok p0,v_rok p1,v_rv p1 ≠ 0]
theorem pp_Z1u (p0:(Int×List Int)×(Int×List Int)) (p1:(Int×List Int)×(Int×List Int)) (hq:∀ p∈qre_Z1u p0 p1,p):∀ p∈pre_Z1u p0 p1,p := by
 obtain ⟨h1,h2,h3,_⟩ := conj_of hq
 obtain ⟨p,rfl,a1,a2⟩ := h1.ex
 obtain ⟨q,rfl,b1,b2⟩ := h2.ex
 rw [v_rv_rat] at h3
 have hn:q.num ≠ 0 := fun e => h3 (Rat.num_eq_zero.1 e)
 have m3 := v_dl_mul p.num q.den
 have m4 := v_dl_mul p.den q.num
 have hne:(p.den:Int) * q.num ≠ 0 := Int.mul_ne_zero (v_den_ne p) hn
 simp only [pre_Z1u,fM,v_rat_1,v_rat_2,v_wval_wide]
 and_intros
 all_goals first
  | (intro p hp; cases hp; done)
  | (intros; assumption)
  | (intros; rw [v_wval_wide]; assumption)
  | (intros; apply v_wok_of; omega)
  | (intros; rw [v_wide_len]; omega)
  | omega
  | (unfold v_fit at *; omega)
theorem tt_Z1u (p0:(Int×List Int)×(Int×List Int)) (p1:(Int×List Int)×(Int×List Int)) (hq:∀ p∈qre_Z1u p0 p1,p):s_Z1u p0 p1 = t_Z1u p0 p1 := by
 obtain ⟨h1,h2,h3,_⟩ := conj_of hq
 obtain ⟨p,rfl,a1,a2⟩ := h1.ex
 obtain ⟨q,rfl,b1,b2⟩ := h2.ex
 rw [v_rv_rat] at h3
 have hn:q.num ≠ 0 := fun e => h3 (Rat.num_eq_zero.1 e)
 unfold s_Z1u t_Z1u v_rdiv v_rmk
 simp only [v_rat_1,v_rat_2,v_rv_rat,v_wval_wide]
 rw [v_qdiv p q hn]

abbrev con_Z1u:Con := ⟨P_Z1u,R_Z1u,fun x => qre_Z1u x.1 x.2,fun x => t_Z1u x.1 x.2⟩
theorem ok_Z1u:ConOk Tryz.prog 122 con_Z1u := okG k_Z1u e_Z1u hC_Z1u fun x hx => tf_of (w_Z1u_eq x.1 x.2 _) (d_Z1u x.1 x.2 _ (pp_Z1u x.1 x.2 hx) (tt_Z1u x.1 x.2 hx))
def C_Z5:Cons := [(97,[],con_Z19),(119,[],con_Z1t),(120,[],con_Z1l),(121,[],con_Z1m),(122,[],con_Z1u)]
theorem hC_Z5:ConsOk Tryz.prog C_Z5 := cC ok_Z19 <| cC ok_Z1t <| cC ok_Z1l <| cC ok_Z1m <| cC ok_Z1u <| ConsOk.nil
abbrev q0_Z5 (p0:gC) (y1:(Int×(Int×((List Int)×(Int×(List Int)))))) := (p0.getD y1.1.toNat (zz0,zz0))
def w_Z5 (p0:gC) (p1:Int) (K:((Int×(List Int))×(Int×(List Int)))→Prop):Prop := ((zz0≤(wi ((p0.length:Int) - zz1))) ∧(((wi ((p0.length:Int) - zz1)) < (p0.length:Int)) ∧((v_fit (p0.getD (Int.toNat (wi ((p0.length:Int) - zz1))) (zz0,zz0)).1) ∧(∃ n0,(loopP (fun (y1:(Int×(Int×((List Int)×(Int×(List Int)))))) k2 => ((((decide (y1.1 ≥ zz0))=true) →((zz0≤y1.1) ∧((y1.1 < (p0.length:Int)) ∧((v_fit (q0_Z5 p0 y1).1) ∧((v_fit (q0_Z5 p0 y1).2) ∧((v_fit (wi ((q0_Z5 p0 y1).2 + p1))) ∧(((wi ((q0_Z5 p0 y1).2 + p1)) ≠ zz0) ∧((v_rok (v_rint (q0_Z5 p0 y1).1)) ∧((v_rok (v_rmk (q0_Z5 p0 y1).2 (wi ((q0_Z5 p0 y1).2 + p1)))) ∧((v_rok ((y1.2.1,y1.2.2.1),y1.2.2.2)) ∧((v_rok (v_rmul (v_rint (q0_Z5 p0 y1).1) (v_rmk (q0_Z5 p0 y1).2 (wi ((q0_Z5 p0 y1).2 + p1))))) ∧((v_rok (v_rint (q0_Z5 p0 y1).1)) ∧((v_rok (v_radd ((y1.2.1,y1.2.2.1),y1.2.2.2) (v_rmul (v_rint (q0_Z5 p0 y1).1) (v_rmk (q0_Z5 p0 y1).2 (wi ((q0_Z5 p0 y1).2 + p1)))))) ∧((v_rok ((y1.2.1,y1.2.2.1),y1.2.2.2)) ∧((v_rok (v_rmk (q0_Z5 p0 y1).2 (wi ((q0_Z5 p0 y1).2 + p1)))) ∧((v_rok (v_rint (q0_Z5 p0 y1).1)) ∧((v_rok (v_rmul ((y1.2.1,y1.2.2.1),y1.2.2.2) (v_rmk (q0_Z5 p0 y1).2 (wi ((q0_Z5 p0 y1).2 + p1))))) ∧((v_rok (v_rmul (v_rint (q0_Z5 p0 y1).1) (v_radd ((y1.2.1,y1.2.2.1),y1.2.2.2) (v_rmul (v_rint (q0_Z5 p0 y1).1) (v_rmk (q0_Z5 p0 y1).2 (wi ((q0_Z5 p0 y1).2 + p1))))))) ∧((v_rok (v_radd (v_rint (q0_Z5 p0 y1).1) (v_rmul ((y1.2.1,y1.2.2.1),y1.2.2.2) (v_rmk (q0_Z5 p0 y1).2 (wi ((q0_Z5 p0 y1).2 + p1)))))) ∧(((v_rv (v_radd (v_rint (q0_Z5 p0 y1).1) (v_rmul ((y1.2.1,y1.2.2.1),y1.2.2.2) (v_rmk (q0_Z5 p0 y1).2 (wi ((q0_Z5 p0 y1).2 + p1)))))) ≠ 0) ∧(k2 ((wi (y1.1 - zz1)),((v_rdiv (v_rmul (v_rint (q0_Z5 p0 y1).1) (v_radd ((y1.2.1,y1.2.2.1),y1.2.2.2) (v_rmul (v_rint (q0_Z5 p0 y1).1) (v_rmk (q0_Z5 p0 y1).2 (wi ((q0_Z5 p0 y1).2 + p1)))))) (v_radd (v_rint (q0_Z5 p0 y1).1) (v_rmul ((y1.2.1,y1.2.2.1),y1.2.2.2) (v_rmk (q0_Z5 p0 y1).2 (wi ((q0_Z5 p0 y1).2 + p1)))))).1.1,((v_rdiv (v_rmul (v_rint (q0_Z5 p0 y1).1) (v_radd ((y1.2.1,y1.2.2.1),y1.2.2.2) (v_rmul (v_rint (q0_Z5 p0 y1).1) (v_rmk (q0_Z5 p0 y1).2 (wi ((q0_Z5 p0 y1).2 + p1)))))) (v_radd (v_rint (q0_Z5 p0 y1).1) (v_rmul ((y1.2.1,y1.2.2.1),y1.2.2.2) (v_rmk (q0_Z5 p0 y1).2 (wi ((q0_Z5 p0 y1).2 + p1)))))).1.2,(v_rdiv (v_rmul (v_rint (q0_Z5 p0 y1).1) (v_radd ((y1.2.1,y1.2.2.1),y1.2.2.2) (v_rmul (v_rint (q0_Z5 p0 y1).1) (v_rmk (q0_Z5 p0 y1).2 (wi ((q0_Z5 p0 y1).2 + p1)))))) (v_radd (v_rint (q0_Z5 p0 y1).1) (v_rmul ((y1.2.1,y1.2.2.1),y1.2.2.2) (v_rmk (q0_Z5 p0 y1).2 (wi ((q0_Z5 p0 y1).2 + p1)))))).2)))))))))))))))))))))))) ∧(((decide (y1.1 ≥ zz0))=false) →(K ((y1.2.1,y1.2.2.1),y1.2.2.2))))) n0 ((wi ((p0.length:Int) - zz2)),((v_rint (p0.getD (Int.toNat (wi ((p0.length:Int) - zz1))) (zz0,zz0)).1).1.1,((v_rint (p0.getD (Int.toNat (wi ((p0.length:Int) - zz1))) (zz0,zz0)).1).1.2,(v_rint (p0.getD (Int.toNat (wi ((p0.length:Int) - zz1))) (zz0,zz0)).1).2))))))))
theorem w_Z5_eq (p0:gC) (p1:Int) (K:((Int×(List Int))×(Int×(List Int)))→Prop):tfn F_Z5 A_Z5 C_Z5 P_Z5 R_Z5 (p0,p1) K = w_Z5 p0 p1 K := by kernel_rfl
def st_Z5_0 (p0:gC) (p1:Int) (y0:(Int×(Int×((List Int)×(Int×(List Int)))))):(Int×(Int×((List Int)×(Int×(List Int))))) ⊕ ((Int×(List Int))×(Int×(List Int))) := (cond (decide (y0.1 ≥ 0)) (Sum.inl ((IntKind.i64.wrap (y0.1 - 1)),((v_rdiv (v_rmul (v_rint (p0.getD y0.1.toNat (0,0)).1) (v_radd ((y0.2.1,y0.2.2.1),y0.2.2.2) (v_rmul (v_rint (p0.getD y0.1.toNat (0,0)).1) (v_rmk (p0.getD y0.1.toNat (0,0)).2 (IntKind.i64.wrap ((p0.getD y0.1.toNat (0,0)).2 + p1)))))) (v_radd (v_rint (p0.getD y0.1.toNat (0,0)).1) (v_rmul ((y0.2.1,y0.2.2.1),y0.2.2.2) (v_rmk (p0.getD y0.1.toNat (0,0)).2 (IntKind.i64.wrap ((p0.getD y0.1.toNat (0,0)).2 + p1)))))).1.1,((v_rdiv (v_rmul (v_rint (p0.getD y0.1.toNat (0,0)).1) (v_radd ((y0.2.1,y0.2.2.1),y0.2.2.2) (v_rmul (v_rint (p0.getD y0.1.toNat (0,0)).1) (v_rmk (p0.getD y0.1.toNat (0,0)).2 (IntKind.i64.wrap ((p0.getD y0.1.toNat (0,0)).2 + p1)))))) (v_radd (v_rint (p0.getD y0.1.toNat (0,0)).1) (v_rmul ((y0.2.1,y0.2.2.1),y0.2.2.2) (v_rmk (p0.getD y0.1.toNat (0,0)).2 (IntKind.i64.wrap ((p0.getD y0.1.toNat (0,0)).2 + p1)))))).1.2,(v_rdiv (v_rmul (v_rint (p0.getD y0.1.toNat (0,0)).1) (v_radd ((y0.2.1,y0.2.2.1),y0.2.2.2) (v_rmul (v_rint (p0.getD y0.1.toNat (0,0)).1) (v_rmk (p0.getD y0.1.toNat (0,0)).2 (IntKind.i64.wrap ((p0.getD y0.1.toNat (0,0)).2 + p1)))))) (v_radd (v_rint (p0.getD y0.1.toNat (0,0)).1) (v_rmul ((y0.2.1,y0.2.2.1),y0.2.2.2) (v_rmk (p0.getD y0.1.toNat (0,0)).2 (IntKind.i64.wrap ((p0.getD y0.1.toNat (0,0)).2 + p1)))))).2)))) (Sum.inr ((y0.2.1,y0.2.2.1),y0.2.2.2)))
abbrev sp_Z5_0 (p0:gC) (p1:Int) (y0:(Int×(Int×((List Int)×(Int×(List Int)))))):List Prop := [(((decide (y0.1 ≥ 0))=true)→((0:Int)≤y0.1)),(((decide (y0.1 ≥ 0))=true)→(y0.1 < (p0.length:Int))),(((decide (y0.1 ≥ 0))=true)→(v_fit (p0.getD y0.1.toNat (0,0)).1)),(((decide (y0.1 ≥ 0))=true)→(v_fit (p0.getD y0.1.toNat (0,0)).2)),(((decide (y0.1 ≥ 0))=true)→(v_fit (IntKind.i64.wrap ((p0.getD y0.1.toNat (0,0)).2 + p1)))),(((decide (y0.1 ≥ 0))=true)→((IntKind.i64.wrap ((p0.getD y0.1.toNat (0,0)).2 + p1)) ≠ (0:Int))),(((decide (y0.1 ≥ 0))=true)→(v_rok (v_rint (p0.getD y0.1.toNat (0,0)).1))),(((decide (y0.1 ≥ 0))=true)→(v_rok (v_rmk (p0.getD y0.1.toNat (0,0)).2 (IntKind.i64.wrap ((p0.getD y0.1.toNat (0,0)).2 + p1))))),(((decide (y0.1 ≥ 0))=true)→(v_rok ((y0.2.1,y0.2.2.1),y0.2.2.2))),(((decide (y0.1 ≥ 0))=true)→(v_rok (v_rmul (v_rint (p0.getD y0.1.toNat (0,0)).1) (v_rmk (p0.getD y0.1.toNat (0,0)).2 (IntKind.i64.wrap ((p0.getD y0.1.toNat (0,0)).2 + p1)))))),(((decide (y0.1 ≥ 0))=true)→(v_rok (v_radd ((y0.2.1,y0.2.2.1),y0.2.2.2) (v_rmul (v_rint (p0.getD y0.1.toNat (0,0)).1) (v_rmk (p0.getD y0.1.toNat (0,0)).2 (IntKind.i64.wrap ((p0.getD y0.1.toNat (0,0)).2 + p1))))))),(((decide (y0.1 ≥ 0))=true)→(v_rok (v_rmul ((y0.2.1,y0.2.2.1),y0.2.2.2) (v_rmk (p0.getD y0.1.toNat (0,0)).2 (IntKind.i64.wrap ((p0.getD y0.1.toNat (0,0)).2 + p1)))))),(((decide (y0.1 ≥ 0))=true)→(v_rok (v_rmul (v_rint (p0.getD y0.1.toNat (0,0)).1) (v_radd ((y0.2.1,y0.2.2.1),y0.2.2.2) (v_rmul (v_rint (p0.getD y0.1.toNat (0,0)).1) (v_rmk (p0.getD y0.1.toNat (0,0)).2 (IntKind.i64.wrap ((p0.getD y0.1.toNat (0,0)).2 + p1)))))))),(((decide (y0.1 ≥ 0))=true)→(v_rok (v_radd (v_rint (p0.getD y0.1.toNat (0,0)).1) (v_rmul ((y0.2.1,y0.2.2.1),y0.2.2.2) (v_rmk (p0.getD y0.1.toNat (0,0)).2 (IntKind.i64.wrap ((p0.getD y0.1.toNat (0,0)).2 + p1))))))),(((decide (y0.1 ≥ 0))=true)→((v_rv (v_radd (v_rint (p0.getD y0.1.toNat (0,0)).1) (v_rmul ((y0.2.1,y0.2.2.1),y0.2.2.2) (v_rmk (p0.getD y0.1.toNat (0,0)).2 (IntKind.i64.wrap ((p0.getD y0.1.toNat (0,0)).2 + p1)))))) ≠ 0))]
def s_Z5 (p0:gC) (p1:Int):((Int×(List Int))×(Int×(List Int))) := (lpv (((0:Int),[]),((0:Int),[])) (st_Z5_0 p0 p1) ((IntKind.i64.wrap ((p0.length:Int) - 2)),((v_rint (p0.getD (Int.toNat (IntKind.i64.wrap ((p0.length:Int) - 1))) (0,0)).1).1.1,((v_rint (p0.getD (Int.toNat (IntKind.i64.wrap ((p0.length:Int) - 1))) (0,0)).1).1.2,(v_rint (p0.getD (Int.toNat (IntKind.i64.wrap ((p0.length:Int) - 1))) (0,0)).1).2))))
abbrev pre_Z5 (p0:gC) (p1:Int):List Prop := [((0:Int)≤(IntKind.i64.wrap ((p0.length:Int) - 1))),((IntKind.i64.wrap ((p0.length:Int) - 1)) < (p0.length:Int)),(v_fit (p0.getD (Int.toNat (IntKind.i64.wrap ((p0.length:Int) - 1))) (0,0)).1),(OkL (st_Z5_0 p0 p1) (sp_Z5_0 p0 p1) ((IntKind.i64.wrap ((p0.length:Int) - 2)),((v_rint (p0.getD (Int.toNat (IntKind.i64.wrap ((p0.length:Int) - 1))) (0,0)).1).1.1,((v_rint (p0.getD (Int.toNat (IntKind.i64.wrap ((p0.length:Int) - 1))) (0,0)).1).1.2,(v_rint (p0.getD (Int.toNat (IntKind.i64.wrap ((p0.length:Int) - 1))) (0,0)).1).2))))]
theorem d_Z5 (p0:gC) (p1:Int) (K:((Int×(List Int))×(Int×(List Int)))→Prop) (hp:∀ p∈pre_Z5 p0 p1,p) (h:K (s_Z5 p0 p1)):w_Z5 p0 p1 K := by
 unfold w_Z5
 unfold s_Z5 at h
 obtain ⟨hp0,hp1,hp2,hp3,_⟩ := conj_of hp
 exact ⟨(hp0),(hp1),(hp2),(loop_gen (hp3) h (fun y0 k0 hp h => by
 unfold st_Z5_0 at h; obtain ⟨hp0,hp1,hp2,hp3,hp4,hp5,hp6,hp7,hp8,hp9,hp10,hp11,hp12,hp13,hp14,_⟩ := conj_of hp
 exact (br' h (fun e1 h => ⟨(hp0 e1),(hp1 e1),(hp2 e1),(hp3 e1),(hp4 e1),(hp5 e1),(hp6 e1),(hp7 e1),(hp8 e1),(hp9 e1),(hp6 e1),(hp10 e1),(hp8 e1),(hp7 e1),(hp6 e1),(hp11 e1),(hp12 e1),(hp13 e1),(hp14 e1),h⟩)
  (fun e1 h => h))))⟩
theorem v_step_d {c r t u:Rat} (hu:u ≠ 0) (hd:c * u + r * t ≠ 0):c + r * (t / u) ≠ 0 := by
 intro h
 apply hd
 have h1:t / u * u = t := Rat.div_mul_cancel hu
 generalize t / u = w at *
 grind
theorem v_step_e {c r t u:Rat} (hu:u ≠ 0) (hd:c * u + r * t ≠ 0):(c * (r + c * (t / u))) / (c + r * (t / u))=c * (r * u + c * t) / (c * u + r * t) := by
 have hy := v_step_d hu hd
 have h1:t / u * u = t := Rat.div_mul_cancel hu
 generalize t / u = w at *
 have h2:(c * (r + c * w)) / (c + r * w) * (c + r * w)=c * (r + c * w) := Rat.div_mul_cancel hy
 have h3:c * (r * u + c * t) / (c * u + r * t) * (c * u + r * t)=c * (r * u + c * t) := Rat.div_mul_cancel hd
 generalize (c * (r + c * w)) / (c + r * w)=a at *
 generalize c * (r * u + c * t) / (c * u + r * t)=b at *
 have h4:a * (c * u + r * t)=b * (c * u + r * t) := by rw [h3,← h1]; grind
 have h5:(a - b) * (c * u + r * t)=0 := by grind
 rcases Rat.mul_eq_zero.1 h5 with h | h
 ·grind
 ·exact (hd h).elim
theorem v_getD_mem {α:Type} {l:List α} {d:α} {n:Nat} (h:n < l.length):l.getD n d∈l := by
 rw [List.getD_eq_getElem?_getD,List.getElem?_eq_getElem h]; exact List.getElem_mem h
/-- A round of the reference. -/
theorem v_rstep {c t s:Int} {r:Rat} (hs:1≤s∧s≤20) (hc:1≤c∧c≤20) (ht:0≤t∧t≤10) (h1:1≤r) (hb:v_rb 12800000 r) :
  v_rok (v_rint c)∧v_rok (v_rmk t (t + s))∧v_rok (v_rat r)∧v_rok (v_rmul (v_rint c) (v_rmk t (t + s)))∧v_rok (v_radd (v_rat r) (v_rmul (v_rint c) (v_rmk t (t + s))))∧v_rok (v_rmul (v_rat r) (v_rmk t (t + s)))∧v_rok (v_rmul (v_rint c) (v_radd (v_rat r) (v_rmul (v_rint c) (v_rmk t (t + s)))))∧v_rok (v_radd (v_rint c) (v_rmul (v_rat r) (v_rmk t (t + s))))∧v_rv (v_radd (v_rint c) (v_rmul (v_rat r) (v_rmk t (t + s)))) ≠ 0 ∧
  v_rdiv (v_rmul (v_rint c) (v_radd (v_rat r) (v_rmul (v_rint c) (v_rmk t (t + s))))) (v_radd (v_rint c) (v_rmul (v_rat r) (v_rmk t (t + s))))=v_rat (v_step s (c,t) r) := by
 have bc:v_rb 20 (c:Rat) := v_rb_int (by omega) (by omega)
 have bt:v_rb 40 ((t:Rat) / ((t + s:Int):Rat)) := v_rb_div (by omega) (by omega) (by omega)
 have b1 := v_rb_mul bc bt
 have b2 := v_rb_add hb b1
 have b3 := v_rb_mul hb bt
 have b4 := v_rb_mul bc b2
 have b5 := v_rb_add bc b3
 have hu:((t + s:Int):Rat) ≠ 0 := v_rcast_ne (by omega)
 have hd := v_step_den (s := s) (x := (c,t)) (r := r) (by omega) (show 0 < c by omega) ht.1 (by grind)
 have hd' : (c:Rat) * ((t + s:Int):Rat) + r * (t:Rat) ≠ 0 := fun e => by rw [e] at hd; exact absurd hd (by decide)
 unfold v_rdiv v_rmul v_radd v_rint v_rmk
 simp only [v_rv_rat]
 refine ⟨bc.ok (by decide),bt.ok (by decide),hb.ok (by decide),b1.ok (by decide),b2.ok (by decide),b3.ok (by decide),b4.ok (by decide),b5.ok (by decide),v_step_d hu hd',?_⟩
 rw [v_step_e hu hd']
 rfl
theorem v_resp_rb {s:Int} (hs:v_sok s) {l:List (Int×Int)} (hne:l ≠ []) (hk:∀ x∈l,v_lok x) (hl:l.length≤3):v_rb 12800000 (v_resp s l) := by
 have h2 := v_resp_le20 (s := s) (by omega) hne hk
 have h1 := v_resp_1le (s := s) (by omega) hne hk
 have h3 := v_resp_parts hs hne hk
 have h4:(v_frac (v_resp s l)).2≤640000 := by
  have:(800:Int) ^ (l.length - 1)≤640000 := by
   match l.length - 1,(show l.length - 1≤2 by omega) with
   | 0,_ | 1,_ | 2,_ => decide
  omega
 have hp := v_frac_pos (v_resp s l)
 have h5 := v_rle_frac.1 h2
 have h6 := v_rle_frac.1 h1
 have e4:v_frac 20 = (20,1) := rfl
 have e5:v_frac 1 = (1,1) := rfl
 rw [e4] at h5
 rw [e5] at h6
 simp only at h5 h6
 unfold v_frac at *
 simp only at *
 exact ⟨by omega,by omega⟩
def v_fl (q:Rat):Int×(List Int×(Int×List Int)) := ((v_rat q).1.1,(v_rat q).1.2,(v_rat q).2)
theorem l_Z5_0 (p0:gC) (p1:Int) (hm:v_mok p0) (hs:v_sok p1):OkL (st_Z5_0 p0 p1) (sp_Z5_0 p0 p1) (IntKind.i64.wrap ((p0.length:Int) - 2),((v_rint (p0.getD (IntKind.i64.wrap ((p0.length:Int) - 1)).toNat (0,0)).1).1.1,((v_rint (p0.getD (IntKind.i64.wrap ((p0.length:Int) - 1)).toNat (0,0)).1).1.2,(v_rint (p0.getD (IntKind.i64.wrap ((p0.length:Int) - 1)).toNat (0,0)).1).2))) ∧
  lpv ((0,[]),(0,[])) (st_Z5_0 p0 p1) (IntKind.i64.wrap ((p0.length:Int) - 2),((v_rint (p0.getD (IntKind.i64.wrap ((p0.length:Int) - 1)).toNat (0,0)).1).1.1,((v_rint (p0.getD (IntKind.i64.wrap ((p0.length:Int) - 1)).toNat (0,0)).1).1.2,(v_rint (p0.getD (IntKind.i64.wrap ((p0.length:Int) - 1)).toNat (0,0)).1).2)))=v_rat (v_resp p1 p0) := by
 have hl := hm.len
 have hne := hm.ne
 have h0:0 < p0.length := List.length_pos_iff.2 hne
 rw [show IntKind.i64.wrap ((p0.length:Int) - 1)=((p0.length - 1:Nat):Int) by rw [wrap_id (by omega) (by omega)]; omega,
  show IntKind.i64.wrap ((p0.length:Int) - 2)=((p0.length - 1:Nat):Int) - 1 by rw [wrap_id (by omega) (by omega)]; omega,Int.toNat_natCast]
 have main := @down_is (Int×(List Int×(Int×List Int))) (Int×(Int×(List Int×(Int×List Int)))) ((Int×List Int)×(Int×List Int)) ((0,[]),(0,[])) (st_Z5_0 p0 p1) (sp_Z5_0 p0 p1) (fun i t => (i,t)) (p0.length - 1)
  (fun j t => t = v_fl (v_resp p1 (p0.drop j))) (fun _ _ => v_rat (v_resp p1 p0)) (by omega) ?_ ?_ (v_fl (((p0.getD (p0.length - 1) (0,0)).1:Int):Rat)) ?_
 ·exact main
 ·rintro t rfl
  simp only [sp_Z5_0,st_Z5_0,fM,show decide ((-1:Int) ≥ 0)=false from rfl,cond_false,List.drop_zero]
  refine ⟨?_,rfl⟩
  and_intros
  all_goals first
   | (intro h; cases h; done)
   | (intro p hp; cases hp)
 ·rintro j t hj rfl
  have hd:decide ((j:Int) ≥ 0)=true := decide_eq_true (by omega)
  have hw:IntKind.i64.wrap ((j:Int) - 1)=(j:Int) - 1 := wrap_id (by omega) (by omega)
  have hx:v_lok (p0.getD j (0,0)) := hm.ok _ (v_getD_mem (by omega))
  have hc := hx.c
  have ht := hx.t
  have hw2:IntKind.i64.wrap ((p0.getD j (0,0)).2 + p1)=(p0.getD j (0,0)).2 + p1 := wrap_id (by omega) (by omega)
  have hk:∀ x∈p0.drop (j + 1),v_lok x := fun x hx => hm.ok x (List.mem_of_mem_drop hx)
  have hn2:p0.drop (j + 1) ≠ [] := fun e => by have := congrArg List.length e; simp at this; omega
  have hb := v_resp_rb hs hn2 hk (by simp; omega)
  have h1 := v_resp_1le (s := p1) (by omega) hn2 hk
  have hdr:p0.drop j = p0.getD j (0,0) :: p0.drop (j + 1) := drop_getD (0,0) (by omega)
  obtain ⟨k1,k2,k3,k4,k5,k6,k7,k8,k9,e⟩ := v_rstep hs hc ht h1 hb
  simp only [sp_Z5_0,st_Z5_0,fM,hd,cond_true,Int.toNat_natCast,hw,hw2]
  have ef:((v_fl (v_resp p1 (p0.drop (j + 1)))).1,(v_fl (v_resp p1 (p0.drop (j + 1)))).2.1,(v_fl (v_resp p1 (p0.drop (j + 1)))).2.2)=v_fl (v_resp p1 (p0.drop (j + 1))) := rfl
  have eg:(((v_fl (v_resp p1 (p0.drop (j + 1)))).1,(v_fl (v_resp p1 (p0.drop (j + 1)))).2.1),(v_fl (v_resp p1 (p0.drop (j + 1)))).2.2)=v_rat (v_resp p1 (p0.drop (j + 1))) := rfl
  rw [eg]
  refine ⟨?_,.inl ⟨v_fl (v_resp p1 (p0.drop j)),?_,rfl,trivial⟩⟩
  ·and_intros
   all_goals first
    | (intro p hp; cases hp; done)
    | (intros; assumption)
    | (intros; unfold v_fit; omega)
    | (intros; omega)
  ·rw [e,hdr,v_resp_c p1 _ hn2]; rfl
 ·rw [show p0.drop (p0.length - 1)=[p0.getD (p0.length - 1) (0,0)] by
   rw [drop_getD (0,0) (show p0.length - 1 < p0.length by omega),List.drop_of_length_le (by omega)]]
  rfl
abbrev t_Z5 (p0:gC) (p1:Int):(Int×List Int)×(Int×List Int) := v_rat (v_resp p1 p0)
abbrev qre_Z5 (p0:gC) (p1:Int):List Prop := [v_mok p0,v_sok p1]
theorem pp_Z5 (p0:gC) (p1:Int) (hq:∀ p∈qre_Z5 p0 p1,p):∀ p∈pre_Z5 p0 p1,p := by
 obtain ⟨hm,hs,_⟩ := conj_of hq
 have hl := hm.len
 have hne := hm.ne
 have h0:0 < p0.length := List.length_pos_iff.2 hne
 have hw:IntKind.i64.wrap ((p0.length:Int) - 1)=((p0.length - 1:Nat):Int) := by rw [wrap_id (by omega) (by omega)]; omega
 have hx:v_lok (p0.getD (p0.length - 1) (0,0)) := hm.ok _ (v_getD_mem (by omega))
 simp only [pre_Z5,fM,hw,Int.toNat_natCast]
 exact ⟨by omega,by omega,by have := hx.c; unfold v_fit; omega,(by have h := (l_Z5_0 p0 p1 hm hs).1; simp only [hw,Int.toNat_natCast] at h; exact h),(by intro p hp; cases hp)⟩
theorem tt_Z5 (p0:gC) (p1:Int) (hq:∀ p∈qre_Z5 p0 p1,p):s_Z5 p0 p1 = t_Z5 p0 p1 := by
 obtain ⟨hm,hs,_⟩ := conj_of hq
 unfold s_Z5 t_Z5
 exact (l_Z5_0 p0 p1 hm hs).2

abbrev con_Z5:Con := ⟨P_Z5,R_Z5,fun x => qre_Z5 x.1 x.2,fun x => t_Z5 x.1 x.2⟩
theorem ok_Z5:ConOk Tryz.prog 99 con_Z5 := okG k_Z5 e_Z5 hC_Z5 fun x hx => tf_of (w_Z5_eq x.1 x.2 _) (d_Z5 x.1 x.2 _ (pp_Z5 x.1 x.2 hx) (tt_Z5 x.1 x.2 hx))
def C_Z7:Cons := [(52,[],con_Z4),(53,[],con_Zm),(129,[126],con_Z11),(129,[127],con_Z18),(130,[],con_Zu)]
theorem hC_Z7:ConsOk Tryz.prog C_Z7 := cC ok_Z4 <| cC ok_Zm <| cC ok_Z11 <| cC ok_Z18 <| cC ok_Zu <| ConsOk.nil
abbrev q1_Z7 (p0:gA) (y1:gG) := (p0.getD y1.1.toNat (([]:List Int),([]:List Int)))
abbrev q0_Z7 (p0:gA) (y1:gG) := (decide ((((q1_Z7 p0 y1).1.length:Nat):Int) > zz0))
abbrev q2_Z7 (p0:gA) := ((s_Z4 (decide ((p0.length:Int) > zz0)) (10:Int)) :: ((s_Z4 (decide ((p0.length:Int)≤4)) (8:Int)) :: ([]:List Int)))
abbrev q3_Z7 (p0:gA) (y1:gG) := (s_Z4 (cond (q0_Z7 p0 y1) (decide ((((q1_Z7 p0 y1).2.length:Nat):Int) > zz0)) false) (10:Int))
def w_Z7 (p0:gA) (K:(Int×Int)→Prop):Prop := ((lenOk (q2_Z7 p0)) ∧(((((v_first (q2_Z7 p0)) != zz0)=true) →(K (zz0,(v_first (q2_Z7 p0))))) ∧((((v_first (q2_Z7 p0)) != zz0)=false) →(∃ n0,(loopP (fun (y1:gG) k2 => ((((decide (y1.1 < (p0.length:Int)))=true) →((zz0≤y1.1) ∧((y1.1 < (p0.length:Int)) ∧((((q0_Z7 p0 y1)=true) →((q0_Z7 p0 y1)=(q0_Z7 p0 y1))) ∧((((q0_Z7 p0 y1)=true) →((q0_Z7 p0 y1)=(q0_Z7 p0 y1))) ∧((((q0_Z7 p0 y1)=true) →((q0_Z7 p0 y1)=(q0_Z7 p0 y1))) ∧(((q0_Z7 p0 y1)=(q0_Z7 p0 y1)) ∧((lenOk (q1_Z7 p0 y1).1) ∧((lenOk (q1_Z7 p0 y1).2) ∧((((!(y1.1 == (wi ((p0.length:Int) - zz1))))=false) →((!(y1.1 == (wi ((p0.length:Int) - zz1))))=(!(y1.1 == (wi ((p0.length:Int) - zz1)))))) ∧((((!(y1.1 == (wi ((p0.length:Int) - zz1))))=false) →((!(y1.1 == (wi ((p0.length:Int) - zz1))))=(!(y1.1 == (wi ((p0.length:Int) - zz1)))))) ∧((((!(y1.1 == (wi ((p0.length:Int) - zz1))))=false) →((!(y1.1 == (wi ((p0.length:Int) - zz1))))=(!(y1.1 == (wi ((p0.length:Int) - zz1)))))) ∧((((!(y1.1 == (wi ((p0.length:Int) - zz1))))=false) →(lenOk (q1_Z7 p0 y1).2)) ∧(((!(y1.1 == (wi ((p0.length:Int) - zz1))))=(!(y1.1 == (wi ((p0.length:Int) - zz1))))) ∧((lenOk ((q3_Z7 p0 y1) :: ((v_ls zz1 (20:Int) (q1_Z7 p0 y1).1) :: ((v_ls zz0 (10:Int) (q1_Z7 p0 y1).2) :: ((s_Z4 (cond (!(y1.1 == (wi ((p0.length:Int) - zz1)))) true (decide ((q1_Z7 p0 y1).2 = (zz0 :: ([]:List Int))))) zz3) :: ([]:List Int)))))) ∧(((((v_first ((q3_Z7 p0 y1) :: ((v_ls zz1 (20:Int) (q1_Z7 p0 y1).1) :: ((v_ls zz0 (10:Int) (q1_Z7 p0 y1).2) :: ((s_Z4 (cond (!(y1.1 == (wi ((p0.length:Int) - zz1)))) true (decide ((q1_Z7 p0 y1).2 = (zz0 :: ([]:List Int))))) zz3) :: ([]:List Int)))))) != zz0)=true) →(K (y1.1,(v_first ((q3_Z7 p0 y1) :: ((v_ls zz1 (20:Int) (q1_Z7 p0 y1).1) :: ((v_ls zz0 (10:Int) (q1_Z7 p0 y1).2) :: ((s_Z4 (cond (!(y1.1 == (wi ((p0.length:Int) - zz1)))) true (decide ((q1_Z7 p0 y1).2 = (zz0 :: ([]:List Int))))) zz3) :: ([]:List Int))))))))) ∧((((v_first ((q3_Z7 p0 y1) :: ((v_ls zz1 (20:Int) (q1_Z7 p0 y1).1) :: ((v_ls zz0 (10:Int) (q1_Z7 p0 y1).2) :: ((s_Z4 (cond (!(y1.1 == (wi ((p0.length:Int) - zz1)))) true (decide ((q1_Z7 p0 y1).2 = (zz0 :: ([]:List Int))))) zz3) :: ([]:List Int)))))) != zz0)=false) →(k2 ((wi (y1.1 + zz1)),(wi (y1.2 * (wi ((((q1_Z7 p0 y1).1.length:Nat):Int) * (((q1_Z7 p0 y1).2.length:Nat):Int)))))))))))))))))))))))) ∧(((decide (y1.1 < (p0.length:Int)))=false) →(K (zz0,(s_Z4 (decide (y1.2≤300)) (16:Int))))))) n0 (zz0,zz1))))))
theorem w_Z7_eq (p0:gA) (K:(Int×Int)→Prop):tfn F_Z7 A_Z7 C_Z7 P_Z7 R_Z7 p0 K = w_Z7 p0 K := by kernel_rfl
def st_Z7_0 (p0:gA) (y1:gG):(Int×Int) ⊕ (Int×Int) := (cond (decide (y1.1 < (p0.length:Int))) (cond ((v_first ((s_Z4 (cond (decide ((((List.length (p0.getD y1.1.toNat (([]:List Int),([]:List Int))).1):Nat):Int) > 0)) (decide ((((List.length (p0.getD y1.1.toNat (([]:List Int),([]:List Int))).2):Nat):Int) > 0)) false) (10:Int)) :: ((v_ls (1:Int) (20:Int) (p0.getD y1.1.toNat (([]:List Int),([]:List Int))).1) :: ((v_ls (0:Int) (10:Int) (p0.getD y1.1.toNat (([]:List Int),([]:List Int))).2) :: ((s_Z4 (cond (!(y1.1 == (IntKind.i64.wrap ((p0.length:Int) - 1)))) true (decide ((p0.getD y1.1.toNat (([]:List Int),([]:List Int))).2 = ((0:Int) :: ([]:List Int))))) (3:Int)) :: ([]:List Int)))))) != 0) (Sum.inr (y1.1,(v_first ((s_Z4 (cond (decide ((((List.length (p0.getD y1.1.toNat (([]:List Int),([]:List Int))).1):Nat):Int) > 0)) (decide ((((List.length (p0.getD y1.1.toNat (([]:List Int),([]:List Int))).2):Nat):Int) > 0)) false) (10:Int)) :: ((v_ls (1:Int) (20:Int) (p0.getD y1.1.toNat (([]:List Int),([]:List Int))).1) :: ((v_ls (0:Int) (10:Int) (p0.getD y1.1.toNat (([]:List Int),([]:List Int))).2) :: ((s_Z4 (cond (!(y1.1 == (IntKind.i64.wrap ((p0.length:Int) - 1)))) true (decide ((p0.getD y1.1.toNat (([]:List Int),([]:List Int))).2 = ((0:Int) :: ([]:List Int))))) (3:Int)) :: ([]:List Int)))))))) (Sum.inl ((IntKind.i64.wrap (y1.1 + 1)),(IntKind.i64.wrap (y1.2 * (IntKind.i64.wrap ((((List.length (p0.getD y1.1.toNat (([]:List Int),([]:List Int))).1):Nat):Int) * (((List.length (p0.getD y1.1.toNat (([]:List Int),([]:List Int))).2):Nat):Int)))))))) (Sum.inr ((0:Int),(s_Z4 (decide (y1.2≤300)) (16:Int)))))
abbrev sp_Z7_0 (p0:gA) (y1:gG):List Prop := [(((decide (y1.1 < (p0.length:Int)))=true)→((0:Int)≤y1.1)),(((decide (y1.1 < (p0.length:Int)))=true)→(y1.1 < (p0.length:Int))),(((decide (y1.1 < (p0.length:Int)))=true)→(lenOk (p0.getD y1.1.toNat (([]:List Int),([]:List Int))).1)),(((decide (y1.1 < (p0.length:Int)))=true)→(lenOk (p0.getD y1.1.toNat (([]:List Int),([]:List Int))).2)),(((decide (y1.1 < (p0.length:Int)))=true)→(((!(y1.1 == (IntKind.i64.wrap ((p0.length:Int) - 1))))=false)→(lenOk (p0.getD y1.1.toNat (([]:List Int),([]:List Int))).2)))]
def s_Z7 (p0:gA):(Int×Int) := (cond ((v_first ((s_Z4 (decide ((p0.length:Int) > 0)) (10:Int)) :: ((s_Z4 (decide ((p0.length:Int)≤4)) (8:Int)) :: ([]:List Int)))) != 0) ((0:Int),(v_first ((s_Z4 (decide ((p0.length:Int) > 0)) (10:Int)) :: ((s_Z4 (decide ((p0.length:Int)≤4)) (8:Int)) :: ([]:List Int))))) (lpv (0,0) (st_Z7_0 p0) ((0:Int),(1:Int))))
abbrev pre_Z7 (p0:gA):List Prop := [((((v_first ((s_Z4 (decide ((p0.length:Int) > 0)) (10:Int)) :: ((s_Z4 (decide ((p0.length:Int)≤4)) (8:Int)) :: ([]:List Int)))) != 0)=false)→(OkL (st_Z7_0 p0) (sp_Z7_0 p0) ((0:Int),(1:Int))))]
theorem d_Z7 (p0:gA) (K:(Int×Int)→Prop) (hp:∀ p∈pre_Z7 p0,p) (h:K (s_Z7 p0)):w_Z7 p0 K := by
 unfold w_Z7
 unfold s_Z7 at h
 obtain ⟨hp0,_⟩ := conj_of hp
 exact ⟨(lenOk_of 2 rfl (by decide)),(br' h (fun e0 h => h)
  (fun e0 h => (loop_gen (hp0 e0) h (fun y1 k1 hp h => by
 unfold st_Z7_0 at h; obtain ⟨hp0,hp1,hp2,hp3,hp4,_⟩ := conj_of hp
 exact (br' h (fun e2 h => ⟨(hp0 e2),(hp1 e2),rf,rf,rf,rfl,(hp2 e2),(hp3 e2),rf,rf,rf,(hp4 e2),rfl,(lenOk_of 4 rfl (by decide)),(br' h (fun e3 h => h)
  (fun e3 h => h))⟩)
  (fun e2 h => h))))))⟩
/-- Classes: lists of at most 22 numbers. -/
structure v_few (l:gA):Prop where
 len:∀ x∈l,x.1.length≤22∧x.2.length≤22
/-- What is wrong with a layer of a class,and with a class. -/
def v_cle (n:Nat) (i:Int) (x:List Int×List Int):Int := cond (cond (decide ((x.1.length:Int) > 0)) (decide ((x.2.length:Int) > 0)) false) (cond (v_ls 1 20 x.1 != 0) (v_ls 1 20 x.1) (cond (v_ls 0 10 x.2 != 0) (v_ls 0 10 x.2) (cond (cond (!(i == (n:Int) - 1)) true (decide (x.2 = [0]))) 0 3))) 10
def v_ccs (n:Nat):Int→Int→List (List Int×List Int)→Int×Int
 | _,t,[] => (0,cond (decide (t≤300)) 0 16)
 | i,t,x :: r => cond (v_cle n i x != 0) (i,v_cle n i x) (v_ccs n (i + 1) (t * ((x.1.length:Int) * (x.2.length:Int))) r)
def v_cc (l:gA):Int×Int := cond ((l.length:Int) == 0) (0,10) (cond (decide ((l.length:Int) > 4)) (0,8) (v_ccs l.length 0 1 l))
theorem v_cb {j:Nat} (hj:j < 4) {t a b:Int} (ht:0≤t∧t≤484 ^ j) (ha:0≤a∧a≤22) (hb:0≤b∧b≤22):(0≤a * b∧a * b≤484)∧(0≤t * a∧t * a≤60000000000)∧(0≤t * (a * b)∧t * (a * b)≤60000000000)∧(t * (a * b)≤484 ^ (j + 1))∧t * a * b = t * (a * b) := by
 have m1 := mul_in (x := a) (y := b) ha.1 ha.2 hb.1 hb.2
 have hp:(484:Int) ^ j≤113379904 := by
  match j,hj with
  | 0,_ | 1,_ | 2,_ | 3,_ => decide
 have m2 := mul_in (x := t) (y := a * b) ht.1 ht.2 m1.1 (show a * b≤484 by omega)
 have m3 := mul_in (x := t) (y := a) ht.1 (show t≤113379904 by omega) ha.1 ha.2
 have m4 := mul_in (x := t) (y := a * b) ht.1 (show t≤113379904 by omega) m1.1 (show a * b≤484 by omega)
 refine ⟨by omega,by omega,by omega,?_,Int.mul_assoc _ _ _⟩
 rw [Int.pow_succ]; exact m2.2
theorem v_first_4 {a b:Bool} {x y:Int}:v_first [s_Z4 a 10,x,y,s_Z4 b 3]=cond a (cond (x != 0) x (cond (y != 0) y (cond b 0 3))) 10 := by
 rw [v_first_c,v_first_c,v_first_c,v_first_1,tx_unless,tx_unless]
 cases a <;> rfl
theorem l_Z7_0 (p0:gA) (hl:p0.length≤4) (hf:v_few p0):OkL (st_Z7_0 p0) (sp_Z7_0 p0) (0,1)∧lpv (0,0) (st_Z7_0 p0) (0,1)=v_ccs p0.length 0 1 p0 := by
 refine @for_is Int (Int×Int) (Int×Int) (0,0) (st_Z7_0 p0) (sp_Z7_0 p0) (fun i t => (i,t)) 0 p0.length (fun j t => 0≤t∧t≤484 ^ j) (fun j t => v_ccs p0.length j t (p0.drop j)) (by omega) (by omega) ?_ ?_ 1 ⟨by decide,by decide⟩
 ·intro t _
  simp only [sp_Z7_0,st_Z7_0,fM,show decide ((p0.length:Int) < (p0.length:Int))=false from decide_eq_false (by omega),cond_false,List.drop_length,v_ccs]
  refine ⟨?_,?_⟩
  ·and_intros
   all_goals first
    | (intro h; cases h; done)
    | (intro p hp; cases hp)
  ·rw [tx_unless]
 ·intro j t _ hj ht
  have hd1:decide ((j:Int) < (p0.length:Int))=true := decide_eq_true (by omega)
  have hw1:IntKind.i64.wrap ((j:Int) + 1)=((j + 1:Nat):Int) := wrap_id (by omega) (by omega)
  have hw2:IntKind.i64.wrap ((p0.length:Int) - 1)=(p0.length:Int) - 1 := wrap_id (by omega) (by omega)
  rw [drop_getD ([],[]) hj]
  have hx := hf.len _ (v_getD_mem (d := ([],[])) hj)
  simp only [sp_Z7_0,st_Z7_0,fM,hd1,cond_true,cond_false,Int.toNat_natCast,hw1,hw2]
  obtain ⟨b1,b2,b3,b4,b5⟩ := v_cb (j := j) (by omega) ht (a := ((p0.getD j ([],[])).1.length:Int)) (b := ((p0.getD j ([],[])).2.length:Int)) (by omega) (by omega)
  have w1:IntKind.i64.wrap (((p0.getD j ([],[])).1.length:Int) * ((p0.getD j ([],[])).2.length:Int))=((p0.getD j ([],[])).1.length:Int) * ((p0.getD j ([],[])).2.length:Int) := wrap_id (by omega) (by omega)
  have w2:IntKind.i64.wrap (t * (((p0.getD j ([],[])).1.length:Int) * ((p0.getD j ([],[])).2.length:Int)))=t * (((p0.getD j ([],[])).1.length:Int) * ((p0.getD j ([],[])).2.length:Int)) := wrap_id (by omega) (by omega)
  have w3:IntKind.i64.wrap (t * ((p0.getD j ([],[])).1.length:Int))=t * ((p0.getD j ([],[])).1.length:Int) := wrap_id (by omega) (by omega)
  have k1:lenOk (p0.getD j ([],[])).1 := lenOk_le hx.1 (by decide)
  have k2:lenOk (p0.getD j ([],[])).2 := lenOk_le hx.2 (by decide)
  refine ⟨?_,?_⟩
  ·and_intros
   all_goals first
    | (intro p hp; cases hp; done)
    | (intros; assumption)
    | (intros; omega)
  ·rw [v_first_4]
   have he:cond (cond (decide (((p0.getD j ([],[])).1.length:Int) > 0)) (decide (((p0.getD j ([],[])).2.length:Int) > 0)) false) (cond (v_ls 1 20 (p0.getD j ([],[])).1 != 0) (v_ls 1 20 (p0.getD j ([],[])).1) (cond (v_ls 0 10 (p0.getD j ([],[])).2 != 0) (v_ls 0 10 (p0.getD j ([],[])).2) (cond (cond (!((j:Int) == (p0.length:Int) - 1)) true (decide ((p0.getD j ([],[])).2 = [0]))) 0 3))) 10 = v_cle p0.length j (p0.getD j ([],[])) := rfl
   rw [he]
   show _ ∨ _ = Sum.inr (cond (v_cle p0.length j (p0.getD j ([],[])) != 0) (↑j,v_cle p0.length j (p0.getD j ([],[]))) (v_ccs p0.length ((j:Int) + 1) (t * (((p0.getD j ([],[])).1.length:Int) * ((p0.getD j ([],[])).2.length:Int))) (p0.drop (j + 1))))
   rw [show v_ccs p0.length j t ((p0.getD j ([],[])) :: p0.drop (j + 1))=cond (v_cle p0.length j (p0.getD j ([],[])) != 0) (↑j,v_cle p0.length j (p0.getD j ([],[]))) (v_ccs p0.length ((j:Int) + 1) (t * (((p0.getD j ([],[])).1.length:Int) * ((p0.getD j ([],[])).2.length:Int))) (p0.drop (j + 1))) from rfl]
   cases v_cle p0.length j (p0.getD j ([],[])) != 0
   ·left
    rw [cond_false,cond_false,w1,w2]
    exact ⟨_,rfl,⟨b3.1,b4⟩,by rw [show ((j + 1:Nat):Int)=(j:Int) + 1 by omega]⟩
   ·right
    rfl
abbrev t_Z7 (p0:gA):Int×Int := v_cc p0
abbrev qre_Z7 (p0:gA):List Prop := [v_few p0]
theorem pp_Z7 (p0:gA) (hq:∀ p∈qre_Z7 p0,p):∀ p∈pre_Z7 p0,p := by
 obtain ⟨h1,_⟩ := conj_of hq
 simp only [pre_Z7,fM]
 refine ⟨fun h => ?_,by intro p hp; cases hp⟩
 have h2 := tx_unless0 (by decide) (tx_first1 h).2
 exact (l_Z7_0 p0 (by have := of_decide_eq_true h2; omega) h1).1
theorem tt_Z7 (p0:gA) (hq:∀ p∈qre_Z7 p0,p):s_Z7 p0 = t_Z7 p0 := by
 obtain ⟨h1,_⟩ := conj_of hq
 unfold s_Z7 t_Z7 v_cc
 rw [tx_first2,tx_unless,tx_unless]
 rcases int0 (p0.length:Int) with ⟨h0,_,e0⟩ | ⟨h0,_,e0⟩ <;> rw [e0]
 ·rw [decide_eq_false (show ¬ (p0.length:Int) > 0 by omega)]; rfl
 ·rw [decide_eq_true (show (p0.length:Int) > 0 by omega)]
  rcases Decidable.em ((p0.length:Int)≤4) with c | c
  ·rw [decide_eq_true c,decide_eq_false (show ¬ (p0.length:Int) > 4 by omega),(l_Z7_0 p0 (by omega) h1).2]; rfl
  ·rw [decide_eq_false c,decide_eq_true (show (p0.length:Int) > 4 by omega)]; rfl

abbrev con_Z7:Con := ⟨P_Z7,R_Z7,fun x => qre_Z7 x,fun x => t_Z7 x⟩
theorem ok_Z7:ConOk Tryz.prog 106 con_Z7 := okG k_Z7 e_Z7 hC_Z7 fun x hx => tf_of (w_Z7_eq x _) (d_Z7 x _ (pp_Z7 x hx) (tt_Z7 x hx))
def C_Zd:Cons := []
theorem hC_Zd:ConsOk Tryz.prog C_Zd := ConsOk.nil
abbrev q0_Zd (p0:gA) (y1:Int) := (decide ((((List.length (p0.getD y1.toNat (([]:List Int),([]:List Int))).1):Nat):Int) > 22))
def w_Zd (p0:gA) (K:Bool→Prop):Prop := ((((decide ((p0.length:Int) > 6))=true) →(K false)) ∧(((decide ((p0.length:Int) > 6))=false) →(∃ n0,(loopP (fun (y1:Int) k2 => ((((decide (y1 < (p0.length:Int)))=true) →((zz0≤y1) ∧((y1 < (p0.length:Int)) ∧((((q0_Zd p0 y1)=false) →((q0_Zd p0 y1)=(q0_Zd p0 y1))) ∧((((q0_Zd p0 y1)=false) →((q0_Zd p0 y1)=(q0_Zd p0 y1))) ∧((((q0_Zd p0 y1)=false) →((q0_Zd p0 y1)=(q0_Zd p0 y1))) ∧((((q0_Zd p0 y1)=false) →(zz0≤y1)) ∧((((q0_Zd p0 y1)=false) →(y1 < (p0.length:Int))) ∧((((q0_Zd p0 y1)=false) →((q0_Zd p0 y1)=(q0_Zd p0 y1))) ∧((((q0_Zd p0 y1)=false) →((q0_Zd p0 y1)=(q0_Zd p0 y1))) ∧((((q0_Zd p0 y1)=false) →((q0_Zd p0 y1)=(q0_Zd p0 y1))) ∧((((q0_Zd p0 y1)=false) →((q0_Zd p0 y1)=(q0_Zd p0 y1))) ∧(((q0_Zd p0 y1)=(q0_Zd p0 y1)) ∧((((cond (q0_Zd p0 y1) true (decide ((((List.length (p0.getD y1.toNat (([]:List Int),([]:List Int))).2):Nat):Int) > 22)))=true) →(K false)) ∧(((cond (q0_Zd p0 y1) true (decide ((((List.length (p0.getD y1.toNat (([]:List Int),([]:List Int))).2):Nat):Int) > 22)))=false) →(k2 (wi (y1 + zz1)))))))))))))))))) ∧(((decide (y1 < (p0.length:Int)))=false) →(K true)))) n0 zz0))))
theorem w_Zd_eq (p0:gA) (K:Bool→Prop):tfn F_Zd A_Zd C_Zd P_Zd R_Zd p0 K = w_Zd p0 K := by kernel_rfl
def st_Zd_0 (p0:gA) (y1:Int):Int ⊕ Bool := (cond (decide (y1 < (p0.length:Int))) (cond (cond (decide ((((List.length (p0.getD y1.toNat (([]:List Int),([]:List Int))).1):Nat):Int) > 22)) true (decide ((((List.length (p0.getD y1.toNat (([]:List Int),([]:List Int))).2):Nat):Int) > 22))) (Sum.inr false) (Sum.inl (IntKind.i64.wrap (y1 + 1)))) (Sum.inr true))
abbrev sp_Zd_0 (p0:gA) (y1:Int):List Prop := [(((decide (y1 < (p0.length:Int)))=true)→((0:Int)≤y1)),(((decide (y1 < (p0.length:Int)))=true)→(y1 < (p0.length:Int))),(((decide (y1 < (p0.length:Int)))=true)→(((decide ((((List.length (p0.getD y1.toNat (([]:List Int),([]:List Int))).1):Nat):Int) > 22))=false)→((0:Int)≤y1))),(((decide (y1 < (p0.length:Int)))=true)→(((decide ((((List.length (p0.getD y1.toNat (([]:List Int),([]:List Int))).1):Nat):Int) > 22))=false)→(y1 < (p0.length:Int))))]
def s_Zd (p0:gA):Bool := (cond (decide ((p0.length:Int) > 6)) false (lpv false (st_Zd_0 p0) (0:Int)))
abbrev pre_Zd (p0:gA):List Prop := [(((decide ((p0.length:Int) > 6))=false)→(OkL (st_Zd_0 p0) (sp_Zd_0 p0) (0:Int)))]
theorem d_Zd (p0:gA) (K:Bool→Prop) (hp:∀ p∈pre_Zd p0,p) (h:K (s_Zd p0)):w_Zd p0 K := by
 unfold w_Zd
 unfold s_Zd at h
 obtain ⟨hp0,_⟩ := conj_of hp
 exact (br' h (fun e0 h => h)
  (fun e0 h => (loop_gen (hp0 e0) h (fun y1 k1 hp h => by
 unfold st_Zd_0 at h; obtain ⟨hp0,hp1,hp2,hp3,_⟩ := conj_of hp
 exact (br' h (fun e2 h => ⟨(hp0 e2),(hp1 e2),rf,rf,rf,(hp2 e2),(hp3 e2),rf,rf,rf,rf,rfl,(br' h (fun e3 h => h)
  (fun e3 h => h))⟩)
  (fun e2 h => h))))))
def v_few1 (_:Int) (x:List Int×List Int):Option Bool := cond (cond (decide ((x.1.length:Int) > 22)) true (decide ((x.2.length:Int) > 22))) (some false) none
def v_fewb (l:gA):Bool := cond (decide ((l.length:Int) > 6)) false (v_scan v_few1 true 0 l)
theorem l_Zd_0 (p0:gA) (hl:lenOk p0):OkL (st_Zd_0 p0) (sp_Zd_0 p0) 0∧lpv (false:Bool) (st_Zd_0 p0) 0 = v_scan v_few1 (true:Bool) 0 p0 := by
 refine scan_is p0 ([],[]) v_few1 (true:Bool) hl ?_ ?_
 ·refine ⟨by simp only [sp_Zd_0,fM,decide_eq_true_eq]; simp,by simp [st_Zd_0]⟩
 ·intro j hj
  have hj' : (j:Int) < p0.length := by omega
  have hw := wrap_nat (show (j:Int)≤9223372036854775806 by unfold lenOk at hl; omega)
  refine ⟨by simp only [sp_Zd_0,fM,decide_eq_true_eq,Int.toNat_natCast]; and_intros <;> first | (intro p hp; cases hp; done) | (intros; omega),?_⟩
  simp only [st_Zd_0,hj',decide_true,Int.toNat_natCast,cond_true,hw]
  unfold v_few1
  generalize (cond (decide (((p0.getD j ([],[])).1.length:Int) > 22)) true (decide (((p0.getD j ([],[])).2.length:Int) > 22)))=b
  cases b <;> rfl
theorem tx_few {l:List (List Int×List Int)} (h:v_fewb l = true):l.length≤6∧v_few l := by
 unfold v_fewb at h
 rcases Decidable.em ((l.length:Int) > 6) with c | c
 ·rw [decide_eq_true c] at h; cases h
 rw [decide_eq_false c] at h
 refine ⟨by omega,⟨fun x hx => ?_⟩⟩
 have key := v_scan_end (f := v_few1) (e := true) (P := fun (r:Bool) => r = true) l 0 h (fun j x v _ hv hv0 => by
  unfold v_few1 at hv
  cases c1:cond (decide ((x.1.length:Int) > 22)) true (decide ((x.2.length:Int) > 22)) <;> rw [c1] at hv
  ·cases hv
  ·simp only [cond_true,sJ] at hv; subst hv; cases hv0)
 obtain ⟨k,hk,rfl⟩ := List.getElem_of_mem hx
 have h := key k hk
 unfold v_few1 at h
 rcases Decidable.em ((l[k].1.length:Int) > 22) with g | g
 ·rw [decide_eq_true g] at h; cases h
 rcases Decidable.em ((l[k].2.length:Int) > 22) with g2 | g2
 ·rw [decide_eq_false g,decide_eq_true g2] at h; cases h
 omega
abbrev t_Zd (p0:gA):Bool := v_fewb p0
abbrev qre_Zd (_p0:gA):List Prop := []
theorem pp_Zd (p0:gA) (_hq:∀ p∈qre_Zd p0,p):∀ p∈pre_Zd p0,p := by
 simp only [pre_Zd,fM]
 exact ⟨fun h => (l_Zd_0 p0 (lenOk_le (n := 6) (by have := of_decide_eq_false h; omega) (by decide))).1,(by intro p hp; cases hp)⟩
theorem tt_Zd (p0:gA) (_hq:∀ p∈qre_Zd p0,p):s_Zd p0 = t_Zd p0 := by
 unfold s_Zd t_Zd v_fewb
 rcases Decidable.em ((p0.length:Int) > 6) with c | c
 ·rw [decide_eq_true c]; rfl
 ·rw [decide_eq_false c,(l_Zd_0 p0 (lenOk_le (n := 6) (by omega) (by decide))).2]

abbrev con_Zd:Con := ⟨P_Zd,R_Zd,fun x => qre_Zd x,fun x => t_Zd x⟩
theorem ok_Zd:ConOk Tryz.prog 7 con_Zd := okG k_Zd e_Zd hC_Zd fun x hx => tf_of (w_Zd_eq x _) (d_Zd x _ (pp_Zd x hx) (tt_Zd x hx))
def C_Z28:Cons := [(106,[],con_Z7)]
theorem hC_Z28:ConsOk Tryz.prog C_Z28 := cC ok_Z7 <| ConsOk.nil
def w_Z28 (p0:gA) (K:((List ((List Int)×(List Int)))×Int)→Prop):Prop := ((v_few p0) ∧(K (p0,(v_cc p0).2)))
theorem w_Z28_eq (p0:gA) (K:((List ((List Int)×(List Int)))×Int)→Prop):tfn F_Z28 A_Z28 C_Z28 P_Z28 R_Z28 p0 K = w_Z28 p0 K := by kernel_rfl
def s_Z28 (p0:gA):((List ((List Int)×(List Int)))×Int) := (p0,(v_cc p0).2)
abbrev pre_Z28 (p0:gA):List Prop := [(v_few p0)]
theorem d_Z28 (p0:gA) (K:((List ((List Int)×(List Int)))×Int)→Prop) (hp:∀ p∈pre_Z28 p0,p) (h:K (s_Z28 p0)):w_Z28 p0 K := by
 unfold w_Z28
 unfold s_Z28 at h
 obtain ⟨hp0,_⟩ := conj_of hp
 exact ⟨(hp0),h⟩
abbrev con_Z28:Con := ⟨P_Z28,R_Z28,fun x => pre_Z28 x,fun x => s_Z28 x⟩
theorem ok_Z28:ConOk Tryz.prog 83 con_Z28 := okG k_Z28 e_Z28 hC_Z28 fun x hx => tf_of (w_Z28_eq x _) (d_Z28 x _ hx rfl)
def C_Zw:Cons := []
theorem hC_Zw:ConsOk Tryz.prog C_Zw := ConsOk.nil
def w_Zw (p0:gA) (K:Int→Prop):Prop := (∃ n0,(loopP (fun (y1:gG) k2 => ((((decide (y1.1 < (p0.length:Int)))=true) →((zz0≤y1.1) ∧((y1.1 < (p0.length:Int)) ∧(k2 ((IntKind.i64.wrap (y1.1 + 1)),(IntKind.i64.wrap (y1.2 * (IntKind.i64.wrap ((((List.length (p0.getD y1.1.toNat (([]:List Int),([]:List Int))).1):Nat):Int) * (((List.length (p0.getD y1.1.toNat (([]:List Int),([]:List Int))).2):Nat):Int)))))))))) ∧(((decide (y1.1 < (p0.length:Int)))=false) →(K y1.2)))) n0 (zz0,zz1)))
theorem w_Zw_eq (p0:gA) (K:Int→Prop):tfn F_Zw A_Zw C_Zw P_Zw R_Zw p0 K = w_Zw p0 K := by kernel_rfl
def st_Zw_0 (p0:gA) (y0:gG):(Int×Int) ⊕ Int := (cond (decide (y0.1 < (p0.length:Int))) (Sum.inl ((IntKind.i64.wrap (y0.1 + 1)),(IntKind.i64.wrap (y0.2 * (IntKind.i64.wrap ((((List.length (p0.getD y0.1.toNat (([]:List Int),([]:List Int))).1):Nat):Int) * (((List.length (p0.getD y0.1.toNat (([]:List Int),([]:List Int))).2):Nat):Int))))))) (Sum.inr y0.2))
abbrev sp_Zw_0 (p0:gA) (y0:gG):List Prop := [(((decide (y0.1 < (p0.length:Int)))=true)→((0:Int)≤y0.1)),(((decide (y0.1 < (p0.length:Int)))=true)→(y0.1 < (p0.length:Int)))]
def s_Zw (p0:gA):Int := (lpv (0:Int) (st_Zw_0 p0) ((0:Int),(1:Int)))
abbrev pre_Zw (p0:gA):List Prop := [(OkL (st_Zw_0 p0) (sp_Zw_0 p0) ((0:Int),(1:Int)))]
theorem d_Zw (p0:gA) (K:Int→Prop) (hp:∀ p∈pre_Zw p0,p) (h:K (s_Zw p0)):w_Zw p0 K := by
 unfold w_Zw
 unfold s_Zw at h
 obtain ⟨hp0,_⟩ := conj_of hp
 exact (loop_gen (hp0) h (fun y0 k0 hp h => by
 unfold st_Zw_0 at h; obtain ⟨hp0,hp1,_⟩ := conj_of hp
 exact (br' h (fun e1 h => ⟨(hp0 e1),(hp1 e1),h⟩)
  (fun e1 h => h))))
/-- The number of models of a class. -/
def v_cnt:Int→List (List Int×List Int)→Int
 | t,[] => t
 | t,x :: r => v_cnt (t * ((x.1.length:Int) * (x.2.length:Int))) r
def v_count (l:gA):Int := v_cnt 1 l
theorem l_Zw_0 (p0:gA) (hl:p0.length≤4) (hf:v_few p0):OkL (st_Zw_0 p0) (sp_Zw_0 p0) (0,1)∧lpv 0 (st_Zw_0 p0) (0,1)=v_count p0 := by
 refine @for_is Int (Int×Int) Int 0 (st_Zw_0 p0) (sp_Zw_0 p0) (fun i t => (i,t)) 0 p0.length (fun j t => 0≤t∧t≤484 ^ j) (fun j t => v_cnt t (p0.drop j)) (by omega) (by omega) ?_ ?_ 1 ⟨by decide,by decide⟩
 ·intro t _
  simp only [sp_Zw_0,st_Zw_0,fM,show decide ((p0.length:Int) < (p0.length:Int))=false from decide_eq_false (by omega),cond_false,List.drop_length,v_cnt]
  refine ⟨?_,trivial⟩
  and_intros
  all_goals first
   | (intro h; cases h; done)
   | (intro p hp; cases hp)
 ·intro j t _ hj ht
  have hd1:decide ((j:Int) < (p0.length:Int))=true := decide_eq_true (by omega)
  have hw1:IntKind.i64.wrap ((j:Int) + 1)=((j + 1:Nat):Int) := wrap_id (by omega) (by omega)
  rw [drop_getD ([],[]) hj]
  have hx := hf.len _ (v_getD_mem (d := ([],[])) hj)
  simp only [sp_Zw_0,st_Zw_0,fM,hd1,cond_true,cond_false,Int.toNat_natCast,hw1]
  obtain ⟨b1,b2,b3,b4,b5⟩ := v_cb (j := j) (by omega) ht (a := ((p0.getD j ([],[])).1.length:Int)) (b := ((p0.getD j ([],[])).2.length:Int)) (by omega) (by omega)
  have w1:IntKind.i64.wrap (((p0.getD j ([],[])).1.length:Int) * ((p0.getD j ([],[])).2.length:Int))=((p0.getD j ([],[])).1.length:Int) * ((p0.getD j ([],[])).2.length:Int) := wrap_id (by omega) (by omega)
  have w2:IntKind.i64.wrap (t * (((p0.getD j ([],[])).1.length:Int) * ((p0.getD j ([],[])).2.length:Int)))=t * (((p0.getD j ([],[])).1.length:Int) * ((p0.getD j ([],[])).2.length:Int)) := wrap_id (by omega) (by omega)
  have w3:IntKind.i64.wrap (t * ((p0.getD j ([],[])).1.length:Int))=t * ((p0.getD j ([],[])).1.length:Int) := wrap_id (by omega) (by omega)
  refine ⟨?_,.inl ⟨t * (((p0.getD j ([],[])).1.length:Int) * ((p0.getD j ([],[])).2.length:Int)),?_,⟨b3.1,b4⟩,rfl⟩⟩
  ·and_intros
   all_goals first
    | (intro p hp; cases hp; done)
    | (intros; omega)
  ·rw [w1,w2]
abbrev t_Zw (p0:gA):Int := v_count p0
abbrev qre_Zw (p0:gA):List Prop := [v_few p0,p0.length≤4]
theorem pp_Zw (p0:gA) (hq:∀ p∈qre_Zw p0,p):∀ p∈pre_Zw p0,p := by
 obtain ⟨h1,h2,_⟩ := conj_of hq
 simp only [pre_Zw,fM]
 exact ⟨(l_Zw_0 p0 h2 h1).1,by intro p hp; cases hp⟩
theorem tt_Zw (p0:gA) (hq:∀ p∈qre_Zw p0,p):s_Zw p0 = t_Zw p0 := by
 obtain ⟨h1,h2,_⟩ := conj_of hq
 exact (l_Zw_0 p0 h2 h1).2

abbrev con_Zw:Con := ⟨P_Zw,R_Zw,fun x => qre_Zw x,fun x => t_Zw x⟩
theorem ok_Zw:ConOk Tryz.prog 77 con_Zw := okG k_Zw e_Zw hC_Zw fun x hx => tf_of (w_Zw_eq x _) (d_Zw x _ (pp_Zw x hx) (tt_Zw x hx))
def C_Z2a:Cons := []
theorem hC_Z2a:ConsOk Tryz.prog C_Z2a := ConsOk.nil
def w_Z2a (p0:gA) (K:((List ((List Int)×(List Int)))×PUnit)→Prop):Prop := (K (p0,()))
theorem w_Z2a_eq (p0:gA) (K:((List ((List Int)×(List Int)))×PUnit)→Prop):tfn F_Z2a A_Z2a C_Z2a P_Z2a R_Z2a p0 K = w_Z2a p0 K := by kernel_rfl
def s_Z2a (p0:gA):((List ((List Int)×(List Int)))×PUnit) := (p0,())
abbrev pre_Z2a (_p0:gA):List Prop := []
theorem d_Z2a (p0:gA) (K:((List ((List Int)×(List Int)))×PUnit)→Prop) (_hp:∀ p∈pre_Z2a p0,p) (h:K (s_Z2a p0)):w_Z2a p0 K := by
 unfold w_Z2a
 unfold s_Z2a at h
 exact h
abbrev con_Z2a:Con := ⟨P_Z2a,R_Z2a,fun x => pre_Z2a x,fun x => s_Z2a x⟩
theorem ok_Z2a:ConOk Tryz.prog 88 con_Z2a := okG k_Z2a e_Z2a hC_Z2a fun x hx => tf_of (w_Z2a_eq x _) (d_Z2a x _ hx rfl)
abbrev con_Z2m:Con := ⟨.fn 111 [.sl (.pr (.sl (.int .i64)) (.sl (.int .i64)))] :: .one (.int .i64) :: [.agg (.pr (.sl (.int .i64)) (.sl (.int .i64)))],[.one (.sl (tyPs (.one (.int .i64) :: [.agg (.pr (.sl (.int .i64)) (.sl (.int .i64)))])))],fun x => [x.1.1.length≤1000000],fun x => v_bwd 0 x.1.1⟩
theorem ok_Z2m:ConIOk Tryz.prog 111 con_Z2m := by
 refine ⟨rfl,k_Z2m,rfl,fun x hx => ?_⟩
 obtain ⟨h1,_⟩ := conj_of hx
 exact it_bwd (c := 2) (Ty.enc (.pr (.sl (.int .i64)) (.sl (.int .i64)))) e_Z2m (fun _ => rfl) x.1 false (Nat.le_trans h1 (by decide))
def C_Z15:Cons := []
theorem hC_Z15:ConsOk Tryz.prog C_Z15 := ConsOk.nil
def w_Z15 (p0:gF) (p1:Int) (K:(Int×Int)→Prop):Prop := (((p0.length:Int) ≠ zz0) ∧((zz0≤(Int.tmod p1 (p0.length:Int))) ∧(((Int.tmod p1 (p0.length:Int)) < (p0.length:Int)) ∧(((p0.length:Int) ≠ zz0) ∧(K ((p0.getD (Int.toNat (Int.tmod p1 (p0.length:Int))) zz0),(IntKind.i64.wrap (Int.tdiv p1 (p0.length:Int)))))))))
theorem w_Z15_eq (p0:gF) (p1:Int) (K:(Int×Int)→Prop):tfnM2 F_Z15 A_Z15 C_Z15 U_Z15 T_Z15 V_Z15 p0 p1 K = w_Z15 p0 p1 K := by kernel_rfl
def s_Z15 (p0:gF) (p1:Int):(Int×Int) := ((p0.getD (Int.toNat (Int.tmod p1 (p0.length:Int))) (0:Int)),(IntKind.i64.wrap (Int.tdiv p1 (p0.length:Int))))
abbrev pre_Z15 (p0:gF) (p1:Int):List Prop := [((p0.length:Int) ≠ (0:Int)),((0:Int)≤(Int.tmod p1 (p0.length:Int))),((Int.tmod p1 (p0.length:Int)) < (p0.length:Int))]
theorem d_Z15 (p0:gF) (p1:Int) (K:(Int×Int)→Prop) (hp:∀ p∈pre_Z15 p0 p1,p) (h:K (s_Z15 p0 p1)):w_Z15 p0 p1 K := by
 unfold w_Z15
 unfold s_Z15 at h
 obtain ⟨hp0,hp1,hp2,_⟩ := conj_of hp
 exact ⟨(hp0),(hp1),(hp2),(hp0),h⟩
abbrev con_Z15:Con := ⟨[.one U_Z15,.ptr T_Z15],[.one V_Z15,.agg T_Z15],fun x => pre_Z15 x.1 x.2,fun x => s_Z15 x.1 x.2⟩
theorem ok_Z15:ConMOk Tryz.prog 87 con_Z15 := ⟨k_Z15,rfl,fun z0 x0 hx0 => (fun (x:U_Z15.den×T_Z15.den) (hx:∀ p∈con_Z15.pre x,p) => retm2_tf (u := U_Z15) (t := T_Z15) (r := V_Z15) (z := x.1) (x := x.2) (y := s_Z15 x.1 x.2) e_Z15 hC_Z15 (tfm2_of (w_Z15_eq x.1 x.2 (fun z => z = s_Z15 x.1 x.2)) (d_Z15 x.1 x.2 (fun z => z = s_Z15 x.1 x.2) hx rfl))) (z0,x0) hx0⟩
def C_Zj:Cons := [(88,[],con_Z2a),(111,itMark,con_Z2m),(87,ioMark,con_Z15)]
theorem hC_Zj:ConsOk Tryz.prog C_Zj := cC ok_Z2a <| ConsOk.consI ok_Z2m <| ConsOk.consM ok_Z15 <| ConsOk.nil
def w_Zj (p0:gA) (p1:Int) (K:(List (Int×Int))→Prop):Prop := ((zz0≤(p0.length:Int)) ∧((((16:Int) * (p0.length:Int))≤281474976710656) ∧(((p0.length:Int)≤9223372036854775807) ∧((p0.length≤1000000) ∧(RngP (fun (y0:(Int×(List (Int×Int)))) (z1:(Int×((List Int)×(List Int)))) k2 => (((z1.2.2.length:Int) ≠ zz0) ∧((zz0≤(Int.tmod y0.1 (z1.2.2.length:Int))) ∧(((Int.tmod y0.1 (z1.2.2.length:Int)) < (z1.2.2.length:Int)) ∧((zz0≤z1.1) ∧((z1.1 < (y0.2.length:Int)) ∧(((z1.2.1.length:Int) ≠ zz0) ∧((zz0≤(Int.tmod (s_Z15 z1.2.2 y0.1).2 (z1.2.1.length:Int))) ∧(((Int.tmod (s_Z15 z1.2.2 y0.1).2 (z1.2.1.length:Int)) < (z1.2.1.length:Int)) ∧((zz0≤z1.1) ∧((z1.1 < (((List.length (List.set y0.2 z1.1.toNat ((y0.2.getD z1.1.toNat (zz0,zz0)).1,(s_Z15 z1.2.2 y0.1).1))):Nat):Int)) ∧(k2 ((s_Z15 z1.2.1 (s_Z15 z1.2.2 y0.1).2).2,(List.set (List.set y0.2 z1.1.toNat ((y0.2.getD z1.1.toNat (zz0,zz0)).1,(s_Z15 z1.2.2 y0.1).1)) z1.1.toNat ((s_Z15 z1.2.1 (s_Z15 z1.2.2 y0.1).2).1,(List.getD (List.set y0.2 z1.1.toNat ((y0.2.getD z1.1.toNat (zz0,zz0)).1,(s_Z15 z1.2.2 y0.1).1)) z1.1.toNat (zz0,zz0)).2))))))))))))))) (fun (s3:(Int×(List (Int×Int)))) => (K s3.2)) (v_bwd zz0 p0) (p1,(List.replicate (Int.toNat (p0.length:Int)) (zz0,zz0))))))))
theorem w_Zj_eq (p0:gA) (p1:Int) (K:(List (Int×Int))→Prop):tfn F_Zj A_Zj C_Zj P_Zj R_Zj (p0,p1) K = w_Zj p0 p1 K := by kernel_rfl
def st_Zj_0 (_p0:gA) (_p1:Int) (y0:(Int×(List (Int×Int)))) (z0:(Int×((List Int)×(List Int)))):(Int×(List (Int×Int))) ⊕ (List (Int×Int)) := (Sum.inl ((s_Z15 z0.2.1 (s_Z15 z0.2.2 y0.1).2).2,(List.set (List.set y0.2 z0.1.toNat ((y0.2.getD z0.1.toNat (0,0)).1,(s_Z15 z0.2.2 y0.1).1)) z0.1.toNat ((s_Z15 z0.2.1 (s_Z15 z0.2.2 y0.1).2).1,(List.getD (List.set y0.2 z0.1.toNat ((y0.2.getD z0.1.toNat (0,0)).1,(s_Z15 z0.2.2 y0.1).1)) z0.1.toNat (0,0)).2))))
abbrev sp_Zj_0 (_p0:gA) (_p1:Int) (y0:(Int×(List (Int×Int)))) (z0:(Int×((List Int)×(List Int)))):List Prop := [((z0.2.2.length:Int) ≠ (0:Int)),((0:Int)≤(Int.tmod y0.1 (z0.2.2.length:Int))),((Int.tmod y0.1 (z0.2.2.length:Int)) < (z0.2.2.length:Int)),((0:Int)≤z0.1),(z0.1 < (y0.2.length:Int)),((z0.2.1.length:Int) ≠ (0:Int)),((0:Int)≤(Int.tmod (s_Z15 z0.2.2 y0.1).2 (z0.2.1.length:Int))),((Int.tmod (s_Z15 z0.2.2 y0.1).2 (z0.2.1.length:Int)) < (z0.2.1.length:Int)),(z0.1 < (((List.length (List.set y0.2 z0.1.toNat ((y0.2.getD z0.1.toNat (0,0)).1,(s_Z15 z0.2.2 y0.1).1))):Nat):Int))]
def sf_Zj_0 (_p0:gA) (_p1:Int) (s0:(Int×(List (Int×Int)))):(List (Int×Int)) := s0.2
abbrev sq_Zj_0 (_p0:gA) (_p1:Int) (_s0:(Int×(List (Int×Int)))):List Prop := []
def s_Zj (p0:gA) (p1:Int):(List (Int×Int)) := (rngV (st_Zj_0 p0 p1) (sf_Zj_0 p0 p1) (v_bwd (0:Int) p0) (p1,(List.replicate (Int.toNat (p0.length:Int)) (0,0))))
abbrev pre_Zj (p0:gA) (p1:Int):List Prop := [((0:Int)≤(p0.length:Int)),(((16:Int) * (p0.length:Int))≤281474976710656),((p0.length:Int)≤9223372036854775807),(p0.length≤1000000),(OkR (st_Zj_0 p0 p1) (sp_Zj_0 p0 p1) (sq_Zj_0 p0 p1) (v_bwd (0:Int) p0) (p1,(List.replicate (Int.toNat (p0.length:Int)) (0,0))))]
theorem d_Zj (p0:gA) (p1:Int) (K:(List (Int×Int))→Prop) (hp:∀ p∈pre_Zj p0 p1,p) (h:K (s_Zj p0 p1)):w_Zj p0 p1 K := by
 unfold w_Zj
 unfold s_Zj at h
 obtain ⟨hp0,hp1,hp2,hp3,hp4,_⟩ := conj_of hp
 exact ⟨(hp0),(hp1),(hp2),(hp3),(rng_gen (hp4) h (fun y0 z0 k0 hp h => by
 unfold st_Zj_0 at h; obtain ⟨hp0,hp1,hp2,hp3,hp4,hp5,hp6,hp7,hp8,_⟩ := conj_of hp
 exact ⟨(hp0),(hp1),(hp2),(hp3),(hp4),(hp5),(hp6),(hp7),(hp3),(hp8),h⟩) (fun s0 hp h => by
 unfold sf_Zj_0 at h
 exact h))⟩
/-- The model with a number: what is left of the number above some layers,and these layers. -/
def v_mod:List (List Int×List Int)→Int→Int×List (Int×Int)
 | [],k => (k,[])
 | x :: r,k => ((v_mod r k).1 / (x.2.length:Int) / (x.1.length:Int),(x.1.getD ((v_mod r k).1 / (x.2.length:Int) % (x.1.length:Int)).toNat 0,x.2.getD ((v_mod r k).1 % (x.2.length:Int)).toNat 0) :: (v_mod r k).2)
def v_mdl (l:gA) (k:Int):List (Int×Int) := (v_mod l k).2
/-- Classes of at most 4 layers with no empty list. -/
structure v_cne (l:gA):Prop where
 len:l.length≤4
 ne:∀ x∈l,0 < x.1.length∧0 < x.2.length
 few:v_few l
theorem v_mod_nn:∀ (l:gA) (k:Int),0≤k→0≤(v_mod l k).1∧(v_mod l k).1≤k
 | [],k,h => ⟨h,Int.le_refl _⟩
 | x :: r,k,h => by
  obtain ⟨h1,h2⟩ := v_mod_nn r k h
  have a1 := Int.ediv_nonneg h1 (show 0≤(x.2.length:Int) by omega)
  have a2 := Int.ediv_le_self (x.2.length:Int) h1
  have a3 := Int.ediv_nonneg a1 (show 0≤(x.1.length:Int) by omega)
  have a4 := Int.ediv_le_self (x.1.length:Int) a1
  exact ⟨a3,Int.le_trans a4 (Int.le_trans a2 h2)⟩
theorem v_mod_len:∀ (l:gA) (k:Int),(v_mod l k).2.length = l.length
 | [],_ => rfl
 | x :: r,k => by show ((_:gG) :: (v_mod r k).2).length = _; rw [List.length_cons,v_mod_len r k,List.length_cons]
/-- What is written so far. -/
def v_mst (n:Nat) (k:Int) (r:gA):Int×List (Int×Int) := ((v_mod r k).1,List.replicate (n - r.length) (0,0) ++ (v_mod r k).2)
theorem v_rep_set {n:Nat} {l:List (Int×Int)} (z w:gG):(List.replicate n ((0,0):Int×Int) ++ w :: l).set n z = List.replicate n (0,0) ++ z :: l := by
 rw [List.set_append_right _ _ (by simp)]
 simp
theorem v_rep_e (n:Nat) (l:gC):List.replicate (n + 1) ((0,0):Int×Int) ++ l = List.replicate n (0,0) ++ (0,0) :: l := by rw [List.replicate_succ',List.append_assoc]; rfl
theorem v_rep_get {n:Nat} {l:List (Int×Int)} (w:gG):(List.replicate n ((0,0):Int×Int) ++ w :: l).getD n (0,0)=w := by
 rw [List.getD_eq_getElem?_getD,List.getElem?_append_right (by simp)]
 simp
theorem v_rep_len {n:Nat} {l:List (Int×Int)} (w:gG):(List.replicate n ((0,0):Int×Int) ++ w :: l).length = n + 1 + l.length := by simp; omega
theorem l_Zj_0 (p0:gA) (p1:Int) (hc:v_cne p0) (hk:0≤p1∧p1≤9223372036854775807):OkR (st_Zj_0 p0 p1) (sp_Zj_0 p0 p1) (sq_Zj_0 p0 p1) (v_bwd 0 p0) (p1,List.replicate (Int.toNat (p0.length:Int)) (0,0))∧rngV (st_Zj_0 p0 p1) (sf_Zj_0 p0 p1) (v_bwd 0 p0) (p1,List.replicate (Int.toNat (p0.length:Int)) (0,0))=v_mdl p0 p1 := by
 have hl := hc.len
 have h := rng_bwd (st := st_Zj_0 p0 p1) (sp := sp_Zj_0 p0 p1) (fin := sf_Zj_0 p0 p1) (fp := sq_Zj_0 p0 p1) (v_mst p0.length p1) p0 ?_ (by simp [sq_Zj_0])
 ·have e0:v_mst p0.length p1 []=(p1,List.replicate (Int.toNat (p0.length:Int)) (0,0)) := by unfold v_mst v_mod; simp
  rw [e0] at h
  refine ⟨h.1,h.2.trans ?_⟩
  show (v_mst p0.length p1 p0).2 = _
  unfold v_mst v_mdl
  simp
 ·intro a x r e
  have hlen:p0.length = a.length + 1 + r.length := by rw [e]; simp; omega
  have hq0 := v_mod_nn r p1 hk.1
  have hxn := hc.ne x (by rw [e]; simp)
  have hxf := hc.few.len x (by rw [e]; simp)
  have z2:(0:Int) < (x.2.length:Int) := by omega
  have z1:(0:Int) < (x.1.length:Int) := by omega
  have d1 := Int.ediv_nonneg hq0.1 (show 0≤(x.2.length:Int) by omega)
  have d2 := Int.ediv_le_self (x.2.length:Int) hq0.1
  have d3 := Int.ediv_nonneg d1 (show 0≤(x.1.length:Int) by omega)
  have d4 := Int.ediv_le_self (x.1.length:Int) d1
  have m1 := Int.emod_nonneg (v_mod r p1).1 (show (x.2.length:Int) ≠ 0 by omega)
  have m2 := Int.emod_lt_of_pos (v_mod r p1).1 z2
  have m3 := Int.emod_nonneg ((v_mod r p1).1 / (x.2.length:Int)) (show (x.1.length:Int) ≠ 0 by omega)
  have m4 := Int.emod_lt_of_pos ((v_mod r p1).1 / (x.2.length:Int)) z1
  have t1:Int.tmod (v_mod r p1).1 (x.2.length:Int)=(v_mod r p1).1 % (x.2.length:Int) := Int.tmod_eq_emod_of_nonneg hq0.1
  have t2:Int.tdiv (v_mod r p1).1 (x.2.length:Int)=(v_mod r p1).1 / (x.2.length:Int) := Int.tdiv_eq_ediv_of_nonneg hq0.1
  have w1:IntKind.i64.wrap ((v_mod r p1).1 / (x.2.length:Int))=(v_mod r p1).1 / (x.2.length:Int) := wrap_id (by omega) (by omega)
  have t3:Int.tmod ((v_mod r p1).1 / (x.2.length:Int)) (x.1.length:Int)=(v_mod r p1).1 / (x.2.length:Int) % (x.1.length:Int) := Int.tmod_eq_emod_of_nonneg d1
  have t4:Int.tdiv ((v_mod r p1).1 / (x.2.length:Int)) (x.1.length:Int)=(v_mod r p1).1 / (x.2.length:Int) / (x.1.length:Int) := Int.tdiv_eq_ediv_of_nonneg d1
  have w2:IntKind.i64.wrap ((v_mod r p1).1 / (x.2.length:Int) / (x.1.length:Int))=(v_mod r p1).1 / (x.2.length:Int) / (x.1.length:Int) := wrap_id (by omega) (by omega)
  have e1:v_mst p0.length p1 r = ((v_mod r p1).1,List.replicate (a.length + 1) (0,0) ++ (v_mod r p1).2) := by unfold v_mst; rw [show p0.length - r.length = a.length + 1 by omega]
  have e2:v_mst p0.length p1 (x :: r)=((v_mod r p1).1 / (x.2.length:Int) / (x.1.length:Int),List.replicate a.length (0,0) ++ (x.1.getD ((v_mod r p1).1 / (x.2.length:Int) % (x.1.length:Int)).toNat 0,x.2.getD ((v_mod r p1).1 % (x.2.length:Int)).toNat 0) :: (v_mod r p1).2) := by unfold v_mst; rw [show p0.length - (x :: r).length = a.length by rw [List.length_cons]; omega]; rfl
  rw [e1,e2]
  unfold sp_Zj_0 st_Zj_0 s_Z15
  simp only [fM,t1,t2,w1,t3,t4,w2,Int.toNat_natCast,v_rep_e,v_rep_set,v_rep_get,v_rep_len]
  refine ⟨?_,trivial⟩
  and_intros
  all_goals first
   | (intro p hp; cases hp; done)
   | omega
abbrev t_Zj (p0:gA) (p1:Int):List (Int×Int) := v_mdl p0 p1
abbrev qre_Zj (p0:gA) (p1:Int):List Prop := [v_cne p0,0≤p1∧p1≤9223372036854775807]
theorem pp_Zj (p0:gA) (p1:Int) (hq:∀ p∈qre_Zj p0 p1,p):∀ p∈pre_Zj p0 p1,p := by
 obtain ⟨h1,h2,_⟩ := conj_of hq
 have hl := h1.len
 simp only [pre_Zj,fM]
 exact ⟨by omega,by omega,by omega,by omega,(l_Zj_0 p0 p1 h1 h2).1,by intro p hp; cases hp⟩
theorem tt_Zj (p0:gA) (p1:Int) (hq:∀ p∈qre_Zj p0 p1,p):s_Zj p0 p1 = t_Zj p0 p1 := by
 obtain ⟨h1,h2,_⟩ := conj_of hq
 exact (l_Zj_0 p0 p1 h1 h2).2

abbrev con_Zj:Con := ⟨P_Zj,R_Zj,fun x => qre_Zj x.1 x.2,fun x => t_Zj x.1 x.2⟩
theorem ok_Zj:ConOk Tryz.prog 50 con_Zj := okG k_Zj e_Zj hC_Zj fun x hx => tf_of (w_Zj_eq x.1 x.2 _) (d_Zj x.1 x.2 _ (pp_Zj x.1 x.2 hx) (tt_Zj x.1 x.2 hx))
theorem v_cnt_nn:∀ (l:gA) (t:Int),0≤t→0≤v_cnt t l
 | [],_,h => h
 | x :: r,t,h => v_cnt_nn r _ (Int.mul_nonneg h (Int.mul_nonneg (by omega) (by omega)))
theorem v_count_nn (l:gA):0≤v_count l := v_cnt_nn l 1 (by omega)
/-- All models with their numbers. -/
def v_mdls (l:gA):List (Int×List (Int×Int)) := (List.range (v_count l).toNat).map fun (k:Nat) => ((k:Int),v_mdl l (k:Int))
abbrev con_Z2l:Con := ⟨.fn 1000000063 [(.sl (.pr (.sl (.int .i64)) (.sl (.int .i64))))] :: .one (.int .i64) :: [.agg (.sl (.pr (.int .i64) (.int .i64)))],[.one (.sl (tyPs (.one (.int .i64) :: [.agg (.sl (.pr (.int .i64) (.int .i64)))])))],fun x => [v_cne x.1.1,v_count x.1.1≤300],fun x => v_mdls x.1.1⟩
theorem ok_Z2l:ConIOk Tryz.prog 1000000063 con_Z2l := by
 refine ⟨rfl,k_Z2l,rfl,fun x hx => ?_⟩
 obtain ⟨h1,h2,_⟩ := conj_of hx
 have hn := v_count_nn x.1
 have h := it_ups e_Z2l rfl (.sl 2 (x.1.map (Ty.enc (.pr (.sl (.int .i64)) (.sl (.int .i64))))) false) (v_count x.1).toNat (by simp only at h2; omega)
  (fun k => .agg [.p (.sl 2 ((v_mdl x.1 (k:Int)).map (Ty.enc (.pr (.int .i64) (.int .i64)))) false)]) (fun k => .agg [.p (.sl 2 ((v_mdl x.1 (k:Int)).map (Ty.enc (.pr (.int .i64) (.int .i64)))) false)])
  (by
   rw [Int.toNat_of_nonneg hn]
   exact ok_Zw.2 x.1 (by
    intro p hp
    simp only [List.mem_cons,List.not_mem_nil,or_false] at hp
    rcases hp with rfl | rfl
    ·exact h1.few
    ·exact h1.len))
  (fun k hk => ok_Zj.2 (x.1,(k:Int)) (by
   have hk' : (k:Int) < v_count x.1 := by omega
   simp only at h2
   intro p hp
   simp only [List.mem_cons,List.not_mem_nil,or_false] at hp
   rcases hp with rfl | rfl
   ·exact h1
   ·omega))
  (fun k hp _ => rfl)
 have e:v_ups (v_count x.1).toNat (fun k => .agg [.p (.sl 2 ((v_mdl x.1 (k:Int)).map (Ty.enc (.pr (.int .i64) (.int .i64)))) false)])=(v_mdls x.1).map (valPs (.one (.int .i64) :: [.agg (.sl (.pr (.int .i64) (.int .i64)))])) := by
  unfold v_ups v_mdls
  rw [List.map_map]
  rfl
 rw [e] at h
 exact h
/-- Valid lists,layers and classes. -/
structure v_lsok (lo hi:Int) (l:gF):Prop where
 mem:∀ n∈l,lo≤n∧n≤hi
 asc:∀ k,k + 1 < l.length→l.getD k 0 < l.getD (k + 1) 0
theorem tx_ls_ok {lo hi:Int} {l:List Int} (h:v_ls lo hi l = 0):v_lsok lo hi l := by
 unfold v_ls at h
 have key := v_scan_end (f := v_ls1 lo hi l) (e := (0:Int)) (P := fun (r:Int) => r = 0) l 0 h (fun j x v _ hv hv0 => by
  unfold v_ls1 at hv
  cases c1:s_Z3 x lo hi <;> rw [c1] at hv
  ·simp only [cond_false,sJ] at hv; subst hv; cases hv0
  ·cases c2:cond (j == 0) true (decide (x > l.getD (j - 1).toNat 0)) <;> rw [c2] at hv
   ·simp only [cond_true,cond_false,sJ] at hv; subst hv; cases hv0
   ·cases hv)
 refine ⟨fun n hn => ?_,fun k hk => ?_⟩
 ·obtain ⟨k,hk,rfl⟩ := List.getElem_of_mem hn
  have h := key k hk
  unfold v_ls1 at h
  cases c1:s_Z3 l[k] lo hi <;> rw [c1] at h
  ·cases h
  ·exact tx_within.1 c1
 ·have h := key (k + 1) hk
  unfold v_ls1 at h
  cases c1:s_Z3 l[k + 1] lo hi <;> rw [c1] at h
  ·cases h
  ·have z:(0 + ((k + 1:Nat):Int) == 0)=false := beq_eq_false_iff_ne.2 (by omega)
   rw [z,show (0 + ((k + 1:Nat):Int) - 1).toNat = k by omega] at h
   rw [show l.getD (k + 1) 0 = l[k + 1] by rw [List.getD_eq_getElem?_getD,List.getElem?_eq_getElem hk]; rfl]
   cases c2:decide (l[k + 1] > l.getD k 0) <;> rw [c2] at h
   ·cases h
   ·exact of_decide_eq_true c2
structure v_clay (last:Prop) (x:List Int×List Int):Prop where
 n1:0 < x.1.length
 n2:0 < x.2.length
 c:v_lsok 1 20 x.1
 t:v_lsok 0 10 x.2
 z:last→x.2 = [0]
theorem tx_cle_ok {n:Nat} {i:Int} {x:List Int×List Int} (h:v_cle n i x = 0):v_clay (i = (n:Int) - 1) x := by
 unfold v_cle at h
 cases c1:cond (decide ((x.1.length:Int) > 0)) (decide ((x.2.length:Int) > 0)) false <;> rw [c1] at h
 ·cases h
 have a:0 < x.1.length∧0 < x.2.length := by
  rcases Decidable.em ((x.1.length:Int) > 0) with g | g
  ·rw [decide_eq_true g] at c1
   have := of_decide_eq_true c1
   omega
  ·rw [decide_eq_false g] at c1; cases c1
 rw [cond_true] at h
 rcases int0 (v_ls 1 20 x.1) with ⟨z1,e1,_⟩ | ⟨z1,e1,_⟩ <;> rw [e1] at h
 rotate_left
 ·exact (z1 h).elim
 rw [cond_false] at h
 rcases int0 (v_ls 0 10 x.2) with ⟨z2,e2,_⟩ | ⟨z2,e2,_⟩ <;> rw [e2] at h
 rotate_left
 ·exact (z2 h).elim
 rw [cond_false] at h
 refine ⟨a.1,a.2,tx_ls_ok z1,tx_ls_ok z2,fun e => ?_⟩
 rw [beq_iff_eq.2 e] at h
 rcases Decidable.em (x.2 = [0]) with g | g
 ·exact g
 ·rw [decide_eq_false g] at h; cases h
theorem tx_ccs_ok {n:Nat}:∀ (l:gA) (i t:Int),(v_ccs n i t l).2 = 0→(∀ a x r,l = a ++ x :: r→v_clay (i + a.length = (n:Int) - 1) x)∧v_cnt t l≤300
 | [],i,t,h => by
  refine ⟨fun a x r e => (by cases a <;> cases e),?_⟩
  show t≤300
  unfold v_ccs at h
  rcases Decidable.em (t≤300) with g | g
  ·exact g
  ·rw [decide_eq_false g] at h; cases h
 | y :: s,i,t,h => by
  unfold v_ccs at h
  rcases int0 (v_cle n i y) with ⟨z,e,_⟩ | ⟨z,e,_⟩ <;> rw [e] at h
  rotate_left
  ·exact (z h).elim
  obtain ⟨h1,h2⟩ := tx_ccs_ok s _ _ h
  refine ⟨fun a x r e' => ?_,h2⟩
  cases a with
  | nil =>
   simp only [List.nil_append,List.cons.injEq] at e'
   obtain ⟨rfl,rfl⟩ := e'
   have := tx_cle_ok z
   rw [List.length_nil,Int.natCast_zero,Int.add_zero]; exact this
  | cons b a =>
   simp only [List.cons_append,List.cons.injEq] at e'
   obtain ⟨rfl,rfl⟩ := e'
   have := h1 a x r rfl
   rw [List.length_cons]
   rw [show i + ((a.length + 1:Nat):Int)=i + 1 + (a.length:Int) by omega]; exact this
structure v_clok (l:gA):Prop where
 ne:l ≠ []
 cne:v_cne l
 cnt:v_count l≤300
 lay:∀ a x r,l = a ++ x :: r→v_clay (r = []) x
theorem tx_cc_ok {l:List (List Int×List Int)} (hf:v_few l) (h:(v_cc l).2 = 0):v_clok l := by
 unfold v_cc at h
 rcases int0 (l.length:Int) with ⟨_,_,e0⟩ | ⟨h0,_,e0⟩
 ·rw [e0] at h; cases h
 rw [e0] at h
 rcases Decidable.em ((l.length:Int) > 4) with h4 | h4
 ·rw [decide_eq_true h4] at h; cases h
 rw [decide_eq_false h4] at h
 simp only [cond_false] at h
 obtain ⟨h1,h2⟩ := tx_ccs_ok l 0 1 h
 have lay:∀ a x r,l = a ++ x :: r→v_clay (r = []) x := fun a x r e => by
  have g := h1 a x r e
  refine ⟨g.n1,g.n2,g.c,g.t,fun er => g.z ?_⟩
  subst er
  have := congrArg List.length e
  simp at this
  omega
 refine ⟨by rintro rfl; exact h0 rfl,⟨by omega,fun x hx => ?_,hf⟩,h2,lay⟩
 obtain ⟨a,r,e⟩ := List.append_of_mem hx
 have g := lay a x r e
 exact ⟨g.n1,g.n2⟩
def C_Z2i:Cons := [(21,[],con_Z3)]
theorem hC_Z2i:ConsOk Tryz.prog C_Z2i := cC ok_Z3 <| ConsOk.nil
def w_Z2i (p0:Int) (K:Bool→Prop):Prop := (K (s_Z3 p0 zz1 (20:Int)))
theorem w_Z2i_eq (p0:Int) (K:Bool→Prop):tfn F_Z2i A_Z2i C_Z2i P_Z2i R_Z2i p0 K = w_Z2i p0 K := by kernel_rfl
def s_Z2i (p0:Int):Bool := (s_Z3 p0 (1:Int) (20:Int))
abbrev pre_Z2i (_p0:Int):List Prop := []
theorem d_Z2i (p0:Int) (K:Bool→Prop) (_hp:∀ p∈pre_Z2i p0,p) (h:K (s_Z2i p0)):w_Z2i p0 K := by
 unfold w_Z2i
 unfold s_Z2i at h
 exact h
abbrev con_Z2i:Con := ⟨P_Z2i,R_Z2i,fun x => pre_Z2i x,fun x => s_Z2i x⟩
theorem ok_Z2i:ConOk Tryz.prog 112 con_Z2i := okG k_Z2i e_Z2i hC_Z2i fun x hx => tf_of (w_Z2i_eq x _) (d_Z2i x _ hx rfl)
def C_Z2j:Cons := [(21,[],con_Z3)]
theorem hC_Z2j:ConsOk Tryz.prog C_Z2j := cC ok_Z3 <| ConsOk.nil
def w_Z2j (p0:Int) (K:Bool→Prop):Prop := (K (s_Z3 p0 zz0 (10:Int)))
theorem w_Z2j_eq (p0:Int) (K:Bool→Prop):tfn F_Z2j A_Z2j C_Z2j P_Z2j R_Z2j p0 K = w_Z2j p0 K := by kernel_rfl
def s_Z2j (p0:Int):Bool := (s_Z3 p0 (0:Int) (10:Int))
abbrev pre_Z2j (_p0:Int):List Prop := []
theorem d_Z2j (p0:Int) (K:Bool→Prop) (_hp:∀ p∈pre_Z2j p0,p) (h:K (s_Z2j p0)):w_Z2j p0 K := by
 unfold w_Z2j
 unfold s_Z2j at h
 exact h
abbrev con_Z2j:Con := ⟨P_Z2j,R_Z2j,fun x => pre_Z2j x,fun x => s_Z2j x⟩
theorem ok_Z2j:ConOk Tryz.prog 113 con_Z2j := okG k_Z2j e_Z2j hC_Z2j fun x hx => tf_of (w_Z2j_eq x _) (d_Z2j x _ hx rfl)
def C_Za:Cons := [(112,[],con_Z2i),(113,[],con_Z2j)]
theorem hC_Za:ConsOk Tryz.prog C_Za := cC ok_Z2i <| cC ok_Z2j <| ConsOk.nil
abbrev q0_Za (p0:gF) (p1:Bool) (y1:Int) := (cond p1 (!(s_Z3 (p0.getD y1.toNat zz0) zz1 (20:Int))) false)
def w_Za (p0:gF) (p1:Bool) (K:Int→Prop):Prop := (∃ n0,(loopP (fun (y1:Int) k2 => ((((decide (y1 < (p0.length:Int)))=true) →(((p1 = true) →(p1 = p1)) ∧(((p1 = true) →(p1 = p1)) ∧(((p1 = true) →(zz0≤y1)) ∧(((p1 = true) →(y1 < (p0.length:Int))) ∧(((p1 = true) →(p1 = p1)) ∧(((p1 = true) →(p1 = p1)) ∧(((p1 = true) →(p1 = p1)) ∧((p1 = p1) ∧((((q0_Za p0 p1 y1)=false) →((q0_Za p0 p1 y1)=(q0_Za p0 p1 y1))) ∧((((q0_Za p0 p1 y1)=false) →((q0_Za p0 p1 y1)=(q0_Za p0 p1 y1))) ∧(((((!(q0_Za p0 p1 y1)) && (!p1))=true) →(((!(q0_Za p0 p1 y1)) && (!p1))=((!(q0_Za p0 p1 y1)) && (!p1)))) ∧(((((!(q0_Za p0 p1 y1)) && (!p1))=true) →(((!(q0_Za p0 p1 y1)) && (!p1))=((!(q0_Za p0 p1 y1)) && (!p1)))) ∧(((((!(q0_Za p0 p1 y1)) && (!p1))=true) →(zz0≤y1)) ∧(((((!(q0_Za p0 p1 y1)) && (!p1))=true) →(y1 < (p0.length:Int))) ∧(((((!(q0_Za p0 p1 y1)) && (!p1))=true) →(((!(q0_Za p0 p1 y1)) && (!p1))=((!(q0_Za p0 p1 y1)) && (!p1)))) ∧(((((!(q0_Za p0 p1 y1)) && (!p1))=true) →(((!(q0_Za p0 p1 y1)) && (!p1))=((!(q0_Za p0 p1 y1)) && (!p1)))) ∧(((((!(q0_Za p0 p1 y1)) && (!p1))=true) →(((!(q0_Za p0 p1 y1)) && (!p1))=((!(q0_Za p0 p1 y1)) && (!p1)))) ∧((((q0_Za p0 p1 y1)=false) →((q0_Za p0 p1 y1)=(q0_Za p0 p1 y1))) ∧((((q0_Za p0 p1 y1)=false) →(((!(q0_Za p0 p1 y1)) && (!p1))=(!p1))) ∧(((q0_Za p0 p1 y1)=(q0_Za p0 p1 y1)) ∧((((cond (q0_Za p0 p1 y1) true (cond (!p1) (!(s_Z3 (p0.getD y1.toNat zz0) zz0 (10:Int))) false))=true) →(K zz2)) ∧(((cond (q0_Za p0 p1 y1) true (cond (!p1) (!(s_Z3 (p0.getD y1.toNat zz0) zz0 (10:Int))) false))=false) →((((decide (y1 > zz0))=true) →((decide (y1 > zz0))=(decide (y1 > zz0)))) ∧((((decide (y1 > zz0))=true) →((decide (y1 > zz0))=(decide (y1 > zz0)))) ∧((((decide (y1 > zz0))=true) →(zz0≤y1)) ∧((((decide (y1 > zz0))=true) →(y1 < (p0.length:Int))) ∧((((decide (y1 > zz0))=true) →((decide (y1 > zz0))=(decide (y1 > zz0)))) ∧((((decide (y1 > zz0))=true) →((decide (y1 > zz0))=(decide (y1 > zz0)))) ∧((((decide (y1 > zz0))=true) →((decide (y1 > zz0))=(decide (y1 > zz0)))) ∧((((decide (y1 > zz0))=true) →((decide (y1 > zz0))=(decide (y1 > zz0)))) ∧((((decide (y1 > zz0))=true) →(zz0≤(wi (y1 - zz1)))) ∧((((decide (y1 > zz0))=true) →((wi (y1 - zz1)) < (p0.length:Int))) ∧((((decide (y1 > zz0))=true) →((decide (y1 > zz0))=(decide (y1 > zz0)))) ∧((((decide (y1 > zz0))=true) →((decide (y1 > zz0))=(decide (y1 > zz0)))) ∧((((decide (y1 > zz0))=true) →((decide (y1 > zz0))=(decide (y1 > zz0)))) ∧(((decide (y1 > zz0))=(decide (y1 > zz0))) ∧((((cond (decide (y1 > zz0)) (decide ((p0.getD y1.toNat zz0)≤(p0.getD (Int.toNat (wi (y1 - zz1))) zz0))) false)=true) →(K (9:Int))) ∧(((cond (decide (y1 > zz0)) (decide ((p0.getD y1.toNat zz0)≤(p0.getD (Int.toNat (wi (y1 - zz1))) zz0))) false)=false) →(k2 (wi (y1 + zz1)))))))))))))))))))))))))))))))))))))))))) ∧(((decide (y1 < (p0.length:Int)))=false) →(K zz0)))) n0 zz0))
theorem w_Za_eq (p0:gF) (p1:Bool) (K:Int→Prop):tfn F_Za A_Za C_Za P_Za R_Za (p0,p1) K = w_Za p0 p1 K := by kernel_rfl
def st_Za_0 (p0:gF) (p1:Bool) (y0:Int):Int ⊕ Int := (cond (decide (y0 < (p0.length:Int))) (cond (cond (cond p1 (!(s_Z3 (p0.getD y0.toNat (0:Int)) (1:Int) (20:Int))) false) true (cond (!p1) (!(s_Z3 (p0.getD y0.toNat (0:Int)) (0:Int) (10:Int))) false)) (Sum.inr (2:Int)) (cond (cond (decide (y0 > 0)) (decide ((p0.getD y0.toNat (0:Int))≤(p0.getD (Int.toNat (IntKind.i64.wrap (y0 - 1))) (0:Int)))) false) (Sum.inr (9:Int)) (Sum.inl (IntKind.i64.wrap (y0 + 1))))) (Sum.inr (0:Int)))
abbrev sp_Za_0 (p0:gF) (p1:Bool) (y0:Int):List Prop := [(((decide (y0 < (p0.length:Int)))=true)→((p1 = true)→((0:Int)≤y0))),(((decide (y0 < (p0.length:Int)))=true)→((p1 = true)→(y0 < (p0.length:Int)))),(((decide (y0 < (p0.length:Int)))=true)→((((!(cond p1 (!(s_Z3 (p0.getD y0.toNat (0:Int)) (1:Int) (20:Int))) false)) && (!p1))=true)→((0:Int)≤y0))),(((decide (y0 < (p0.length:Int)))=true)→((((!(cond p1 (!(s_Z3 (p0.getD y0.toNat (0:Int)) (1:Int) (20:Int))) false)) && (!p1))=true)→(y0 < (p0.length:Int)))),(((decide (y0 < (p0.length:Int)))=true)→(((cond p1 (!(s_Z3 (p0.getD y0.toNat (0:Int)) (1:Int) (20:Int))) false)=false)→(((!(cond p1 (!(s_Z3 (p0.getD y0.toNat (0:Int)) (1:Int) (20:Int))) false)) && (!p1))=(!p1)))),(((decide (y0 < (p0.length:Int)))=true)→(((cond (cond p1 (!(s_Z3 (p0.getD y0.toNat (0:Int)) (1:Int) (20:Int))) false) true (cond (!p1) (!(s_Z3 (p0.getD y0.toNat (0:Int)) (0:Int) (10:Int))) false))=false)→(((decide (y0 > 0))=true)→((0:Int)≤y0)))),(((decide (y0 < (p0.length:Int)))=true)→(((cond (cond p1 (!(s_Z3 (p0.getD y0.toNat (0:Int)) (1:Int) (20:Int))) false) true (cond (!p1) (!(s_Z3 (p0.getD y0.toNat (0:Int)) (0:Int) (10:Int))) false))=false)→(((decide (y0 > 0))=true)→(y0 < (p0.length:Int))))),(((decide (y0 < (p0.length:Int)))=true)→(((cond (cond p1 (!(s_Z3 (p0.getD y0.toNat (0:Int)) (1:Int) (20:Int))) false) true (cond (!p1) (!(s_Z3 (p0.getD y0.toNat (0:Int)) (0:Int) (10:Int))) false))=false)→(((decide (y0 > 0))=true)→((0:Int)≤(IntKind.i64.wrap (y0 - 1)))))),(((decide (y0 < (p0.length:Int)))=true)→(((cond (cond p1 (!(s_Z3 (p0.getD y0.toNat (0:Int)) (1:Int) (20:Int))) false) true (cond (!p1) (!(s_Z3 (p0.getD y0.toNat (0:Int)) (0:Int) (10:Int))) false))=false)→(((decide (y0 > 0))=true)→((IntKind.i64.wrap (y0 - 1)) < (p0.length:Int)))))]
def s_Za (p0:gF) (p1:Bool):Int := (lpv (0:Int) (st_Za_0 p0 p1) (0:Int))
abbrev pre_Za (p0:gF) (p1:Bool):List Prop := [(OkL (st_Za_0 p0 p1) (sp_Za_0 p0 p1) (0:Int))]
theorem d_Za (p0:gF) (p1:Bool) (K:Int→Prop) (hp:∀ p∈pre_Za p0 p1,p) (h:K (s_Za p0 p1)):w_Za p0 p1 K := by
 unfold w_Za
 unfold s_Za at h
 obtain ⟨hp0,_⟩ := conj_of hp
 exact (loop_gen (hp0) h (fun y0 k0 hp h => by
 unfold st_Za_0 at h; obtain ⟨hp0,hp1,hp2,hp3,hp4,hp5,hp6,hp7,hp8,_⟩ := conj_of hp
 exact (br' h (fun e1 h => ⟨rf,rf,(hp0 e1),(hp1 e1),rf,rf,rf,rfl,rf,rf,rf,rf,(hp2 e1),(hp3 e1),rf,rf,rf,rf,(hp4 e1),rfl,(br' h (fun e2 h => h)
  (fun e2 h => ⟨rf,rf,(hp5 e1 e2),(hp6 e1 e2),rf,rf,rf,rf,(hp7 e1 e2),(hp8 e1 e2),rf,rf,rf,rfl,(br' h (fun e3 h => h)
  (fun e3 h => h))⟩))⟩)
  (fun e1 h => h))))
theorem l_Za_0 (p0:gF) (p1:Bool) (hl:lenOk p0):OkL (st_Za_0 p0 p1) (sp_Za_0 p0 p1) 0∧lpv (0:Int) (st_Za_0 p0 p1) 0 = v_scan (fun i n => cond p1 (v_ls1 1 20 p0 i n) (v_ls1 0 10 p0 i n)) (0:Int) 0 p0 := by
 refine scan_is p0 0 (fun i n => cond p1 (v_ls1 1 20 p0 i n) (v_ls1 0 10 p0 i n)) (0:Int) hl ?_ ?_
 ·refine ⟨by simp only [sp_Za_0,fM,decide_eq_true_eq]; simp,by simp [st_Za_0]⟩
 ·intro j hj
  have hj' : (j:Int) < p0.length := by omega
  have hw := wrap_nat (show (j:Int)≤9223372036854775806 by unfold lenOk at hl; omega)
  have hw2:IntKind.i64.wrap ((j:Int) - 1)=(j:Int) - 1 := wrap_id (by omega) (by unfold lenOk at hl; omega)
  refine ⟨by simp only [sp_Za_0,fM,decide_eq_true_eq,Int.toNat_natCast]; rw [hw2]; cases p1 <;> and_intros <;> first | (intro p hp; cases hp; done) | (intros; first | omega | (simp_all; done) | (simp_all; omega)),?_⟩
  simp only [st_Za_0,hj',decide_true,Int.toNat_natCast,cond_true,hw]
  unfold v_ls1
  rcases Nat.eq_zero_or_pos j with h0 | h0
  ·subst h0
   cases p1 <;> cases s_Z3 (p0.getD 0 0) 1 20 <;> cases s_Z3 (p0.getD 0 0) 0 10 <;> rfl
  ·have hz:((j:Int) == 0)=false := beq_eq_false_iff_ne.2 (by omega)
   have hz2:decide ((j:Int) > 0)=true := decide_eq_true (by omega)
   rw [hz,hw2,hz2]
   rcases Decidable.em (p0.getD j 0 > p0.getD ((j:Int) - 1).toNat 0) with c | c
   ·rw [decide_eq_true c,decide_eq_false (show ¬ p0.getD j 0≤p0.getD ((j:Int) - 1).toNat 0 by omega)]
    cases p1 <;> cases s_Z3 (p0.getD j 0) 1 20 <;> cases s_Z3 (p0.getD j 0) 0 10 <;> rfl
   ·rw [decide_eq_false c,decide_eq_true (show p0.getD j 0≤p0.getD ((j:Int) - 1).toNat 0 by omega)]
    cases p1 <;> cases s_Z3 (p0.getD j 0) 1 20 <;> cases s_Z3 (p0.getD j 0) 0 10 <;> rfl
abbrev t_Za (p0:gF) (p1:Bool):Int := cond p1 (v_ls 1 20 p0) (v_ls 0 10 p0)
abbrev qre_Za (p0:gF) (_p1:Bool):List Prop := [lenOk p0]
theorem pp_Za (p0:gF) (p1:Bool) (hq:∀ p∈qre_Za p0 p1,p):∀ p∈pre_Za p0 p1,p := by
 obtain ⟨h1,_⟩ := conj_of hq
 simp only [pre_Za,fM]
 exact ⟨(l_Za_0 p0 p1 h1).1,(by intro p hp; cases hp)⟩
theorem tt_Za (p0:gF) (p1:Bool) (hq:∀ p∈qre_Za p0 p1,p):s_Za p0 p1 = t_Za p0 p1 := by
 obtain ⟨h1,_⟩ := conj_of hq
 refine (l_Za_0 p0 p1 h1).2.trans ?_
 cases p1 <;> rfl

abbrev con_Za:Con := ⟨P_Za,R_Za,fun x => qre_Za x.1 x.2,fun x => t_Za x.1 x.2⟩
theorem ok_Za:ConOk Tryz.prog 89 con_Za := okG k_Za e_Za hC_Za fun x hx => tf_of (w_Za_eq x.1 x.2 _) (d_Za x.1 x.2 _ (pp_Za x.1 x.2 hx) (tt_Za x.1 x.2 hx))
def C_Zs:Cons := []
theorem hC_Zs:ConsOk Tryz.prog C_Zs := ConsOk.nil
def w_Zs (p0:gF) (p1:gF) (K:Bool→Prop):Prop := (((((p0.length:Int) != (p1.length:Int))=true) →(K false)) ∧((((p0.length:Int) != (p1.length:Int))=false) →(∃ n0,(loopP (fun (y1:Int) k2 => ((((decide (y1 < (p0.length:Int)))=true) →((zz0≤y1) ∧((y1 < (p0.length:Int)) ∧((zz0≤y1) ∧((y1 < (p1.length:Int)) ∧(((((p0.getD y1.toNat zz0) != (p1.getD y1.toNat zz0))=true) →(K false)) ∧((((p0.getD y1.toNat zz0) != (p1.getD y1.toNat zz0))=false) →(k2 (IntKind.i64.wrap (y1 + 1)))))))))) ∧(((decide (y1 < (p0.length:Int)))=false) →(K true)))) n0 zz0))))
theorem w_Zs_eq (p0:gF) (p1:gF) (K:Bool→Prop):tfn F_Zs A_Zs C_Zs P_Zs R_Zs (p0,p1) K = w_Zs p0 p1 K := by kernel_rfl
def st_Zs_0 (p0:gF) (p1:gF) (y1:Int):Int ⊕ Bool := (cond (decide (y1 < (p0.length:Int))) (cond ((p0.getD y1.toNat (0:Int)) != (p1.getD y1.toNat (0:Int))) (Sum.inr false) (Sum.inl (IntKind.i64.wrap (y1 + 1)))) (Sum.inr true))
abbrev sp_Zs_0 (p0:gF) (p1:gF) (y1:Int):List Prop := [(((decide (y1 < (p0.length:Int)))=true)→((0:Int)≤y1)),(((decide (y1 < (p0.length:Int)))=true)→(y1 < (p0.length:Int))),(((decide (y1 < (p0.length:Int)))=true)→(y1 < (p1.length:Int)))]
def s_Zs (p0:gF) (p1:gF):Bool := (cond ((p0.length:Int) != (p1.length:Int)) false (lpv false (st_Zs_0 p0 p1) (0:Int)))
abbrev pre_Zs (p0:gF) (p1:gF):List Prop := [((((p0.length:Int) != (p1.length:Int))=false)→(OkL (st_Zs_0 p0 p1) (sp_Zs_0 p0 p1) (0:Int)))]
theorem d_Zs (p0:gF) (p1:gF) (K:Bool→Prop) (hp:∀ p∈pre_Zs p0 p1,p) (h:K (s_Zs p0 p1)):w_Zs p0 p1 K := by
 unfold w_Zs
 unfold s_Zs at h
 obtain ⟨hp0,_⟩ := conj_of hp
 exact (br' h (fun e0 h => h)
  (fun e0 h => (loop_gen (hp0 e0) h (fun y1 k1 hp h => by
 unfold st_Zs_0 at h; obtain ⟨hp0,hp1,hp2,_⟩ := conj_of hp
 exact (br' h (fun e2 h => ⟨(hp0 e2),(hp1 e2),(hp0 e2),(hp2 e2),(br' h (fun e3 h => h)
  (fun e3 h => h))⟩)
  (fun e2 h => h))))))
theorem l_Zs_0 (p0 p1:gF) (hl:lenOk p0) (he:p0.length = p1.length):OkL (st_Zs_0 p0 p1) (sp_Zs_0 p0 p1) 0∧lpv false (st_Zs_0 p0 p1) 0 = v_scan (fun i x => cond (!((x == (p1.getD i.toNat 0)))) (some false) none) true 0 p0 := by
 refine scan_is p0 0 (fun i x => cond (!((x == (p1.getD i.toNat 0)))) (some false) none) true hl ?_ ?_
 ·refine ⟨by simp only [sp_Zs_0,fM,decide_eq_true_eq]; simp,by simp [st_Zs_0]⟩
 ·intro j hj
  have hj' : (j:Int) < p0.length := by omega
  refine ⟨by simp only [sp_Zs_0,fM,decide_eq_true_eq,Int.toNat_natCast]; simp <;> omega,?_⟩
  simp only [st_Zs_0,hj',decide_true,Int.toNat_natCast,cond_true,wrap_nat (show (j:Int)≤9223372036854775806 by unfold lenOk at hl; omega)]
  generalize p0.getD j 0 = x
  generalize p1.getD j 0 = z
  simp only [bne]
  cases (x == z) <;> rfl
abbrev t_Zs (p0 p1:gF):Bool := decide (p0 = p1)
abbrev qre_Zs (p0 _p1:gF):List Prop := [lenOk p0]
theorem pp_Zs (p0 p1:gF) (hq:∀ p∈qre_Zs p0 p1,p):∀ p∈pre_Zs p0 p1,p := by
 simp only [pre_Zs,fM]
 refine ⟨fun h => (l_Zs_0 p0 p1 (conj_of hq).1 ?_).1,by simp⟩
 have h' : (p0.length:Int)=p1.length := by simpa using h
 omega
theorem tt_Zs (p0 p1:gF) (hq:∀ p∈qre_Zs p0 p1,p):s_Zs p0 p1 = t_Zs p0 p1 := by
 unfold s_Zs t_Zs
 by_cases h:p0.length = p1.length
 ·rw [show ((p0.length:Int) != (p1.length:Int))=false by simp [h]]
  refine (l_Zs_0 p0 p1 (conj_of hq).1 h).2.trans ?_
  exact v_scan_eq 0 (fun x y => (x == y)) (fun x y => by by_cases h:x = y <;> simp [h]) p0 p1 h
 ·rw [show ((p0.length:Int) != (p1.length:Int))=true by simp; omega]
  have:p0 ≠ p1 := fun e => h (congrArg List.length e)
  simp [this]

abbrev con_Zs:Con := ⟨P_Zs,R_Zs,fun x => qre_Zs x.1 x.2,fun x => t_Zs x.1 x.2⟩
theorem ok_Zs:ConOk Tryz.prog 18 con_Zs := okG k_Zs e_Zs hC_Zs fun x hx => tf_of (w_Zs_eq x.1 x.2 _) (d_Zs x.1 x.2 _ (pp_Zs x.1 x.2 hx) (tt_Zs x.1 x.2 hx))
def C_Z9:Cons := [(89,[],con_Za),(18,[],con_Zs)]
theorem hC_Z9:ConsOk Tryz.prog C_Z9 := cC ok_Za <| cC ok_Zs <| ConsOk.nil
abbrev q1_Z9 (p0:gA) (y1:gG) := (p0.getD y1.1.toNat (([]:List Int),([]:List Int)))
abbrev q0_Z9 (p0:gA) (y1:gG) := ((((q1_Z9 p0 y1).1.length:Nat):Int) == zz0)
def w_Z9 (p0:gA) (K:(Int×Int)→Prop):Prop := (((((p0.length:Int) == zz0)=true) →(K (zz0,(10:Int)))) ∧((((p0.length:Int) == zz0)=false) →((((decide ((p0.length:Int) > 4))=true) →(K (zz0,(8:Int)))) ∧(((decide ((p0.length:Int) > 4))=false) →(∃ n0,(loopP (fun (y1:gG) k2 => ((((decide (y1.1 < (p0.length:Int)))=true) →((zz0≤y1.1) ∧((y1.1 < (p0.length:Int)) ∧((((q0_Z9 p0 y1)=false) →((q0_Z9 p0 y1)=(q0_Z9 p0 y1))) ∧((((q0_Z9 p0 y1)=false) →((q0_Z9 p0 y1)=(q0_Z9 p0 y1))) ∧((((q0_Z9 p0 y1)=false) →((q0_Z9 p0 y1)=(q0_Z9 p0 y1))) ∧(((q0_Z9 p0 y1)=(q0_Z9 p0 y1)) ∧((((cond (q0_Z9 p0 y1) true ((((q1_Z9 p0 y1).2.length:Nat):Int) == zz0))=true) →(K (y1.1,(10:Int)))) ∧(((cond (q0_Z9 p0 y1) true ((((q1_Z9 p0 y1).2.length:Nat):Int) == zz0))=false) →((lenOk (q1_Z9 p0 y1).1) ∧(((((v_ls zz1 (20:Int) (q1_Z9 p0 y1).1) != zz0)=true) →(K (y1.1,(v_ls zz1 (20:Int) (q1_Z9 p0 y1).1)))) ∧((((v_ls zz1 (20:Int) (q1_Z9 p0 y1).1) != zz0)=false) →((lenOk (q1_Z9 p0 y1).2) ∧(((((v_ls zz0 (10:Int) (q1_Z9 p0 y1).2) != zz0)=true) →(K (y1.1,(v_ls zz0 (10:Int) (q1_Z9 p0 y1).2)))) ∧((((v_ls zz0 (10:Int) (q1_Z9 p0 y1).2) != zz0)=false) →((((y1.1 == (wi ((p0.length:Int) - zz1)))=true) →((y1.1 == (wi ((p0.length:Int) - zz1)))=(y1.1 == (wi ((p0.length:Int) - zz1))))) ∧((((y1.1 == (wi ((p0.length:Int) - zz1)))=true) →((y1.1 == (wi ((p0.length:Int) - zz1)))=(y1.1 == (wi ((p0.length:Int) - zz1))))) ∧((((y1.1 == (wi ((p0.length:Int) - zz1)))=true) →((y1.1 == (wi ((p0.length:Int) - zz1)))=(y1.1 == (wi ((p0.length:Int) - zz1))))) ∧((((y1.1 == (wi ((p0.length:Int) - zz1)))=true) →(lenOk (q1_Z9 p0 y1).2)) ∧((((y1.1 == (wi ((p0.length:Int) - zz1)))=true) →((y1.1 == (wi ((p0.length:Int) - zz1)))=(y1.1 == (wi ((p0.length:Int) - zz1))))) ∧(((y1.1 == (wi ((p0.length:Int) - zz1)))=(y1.1 == (wi ((p0.length:Int) - zz1)))) ∧((((cond (y1.1 == (wi ((p0.length:Int) - zz1))) (!(decide ((q1_Z9 p0 y1).2 = (zz0 :: ([]:List Int))))) false)=true) →(K (y1.1,zz3))) ∧(((cond (y1.1 == (wi ((p0.length:Int) - zz1))) (!(decide ((q1_Z9 p0 y1).2 = (zz0 :: ([]:List Int))))) false)=false) →(k2 ((wi (y1.1 + zz1)),(wi ((wi (y1.2 * (((q1_Z9 p0 y1).1.length:Nat):Int))) * (((q1_Z9 p0 y1).2.length:Nat):Int)))))))))))))))))))))))))))) ∧(((decide (y1.1 < (p0.length:Int)))=false) →((((decide (y1.2 > 300))=true) →(K (zz0,(16:Int)))) ∧(((decide (y1.2 > 300))=false) →(K (zz0,zz0))))))) n0 (zz0,zz1)))))))
theorem w_Z9_eq (p0:gA) (K:(Int×Int)→Prop):tfn F_Z9 A_Z9 C_Z9 P_Z9 R_Z9 p0 K = w_Z9 p0 K := by kernel_rfl
def st_Z9_0 (p0:gA) (y2:gG):(Int×Int) ⊕ (Int×Int) := (cond (decide (y2.1 < (p0.length:Int))) (cond (cond ((((List.length (p0.getD y2.1.toNat (([]:List Int),([]:List Int))).1):Nat):Int) == 0) true ((((List.length (p0.getD y2.1.toNat (([]:List Int),([]:List Int))).2):Nat):Int) == 0)) (Sum.inr (y2.1,(10:Int))) (cond ((v_ls (1:Int) (20:Int) (p0.getD y2.1.toNat (([]:List Int),([]:List Int))).1) != 0) (Sum.inr (y2.1,(v_ls (1:Int) (20:Int) (p0.getD y2.1.toNat (([]:List Int),([]:List Int))).1))) (cond ((v_ls (0:Int) (10:Int) (p0.getD y2.1.toNat (([]:List Int),([]:List Int))).2) != 0) (Sum.inr (y2.1,(v_ls (0:Int) (10:Int) (p0.getD y2.1.toNat (([]:List Int),([]:List Int))).2))) (cond (cond (y2.1 == (IntKind.i64.wrap ((p0.length:Int) - 1))) (!(decide ((p0.getD y2.1.toNat (([]:List Int),([]:List Int))).2 = ((0:Int) :: ([]:List Int))))) false) (Sum.inr (y2.1,(3:Int))) (Sum.inl ((IntKind.i64.wrap (y2.1 + 1)),(IntKind.i64.wrap ((IntKind.i64.wrap (y2.2 * (((List.length (p0.getD y2.1.toNat (([]:List Int),([]:List Int))).1):Nat):Int))) * (((List.length (p0.getD y2.1.toNat (([]:List Int),([]:List Int))).2):Nat):Int))))))))) (cond (decide (y2.2 > 300)) (Sum.inr ((0:Int),(16:Int))) (Sum.inr (0,0))))
abbrev sp_Z9_0 (p0:gA) (y2:gG):List Prop := [(((decide (y2.1 < (p0.length:Int)))=true)→((0:Int)≤y2.1)),(((decide (y2.1 < (p0.length:Int)))=true)→(y2.1 < (p0.length:Int))),(((decide (y2.1 < (p0.length:Int)))=true)→(((cond ((((List.length (p0.getD y2.1.toNat (([]:List Int),([]:List Int))).1):Nat):Int) == 0) true ((((List.length (p0.getD y2.1.toNat (([]:List Int),([]:List Int))).2):Nat):Int) == 0))=false)→(lenOk (p0.getD y2.1.toNat (([]:List Int),([]:List Int))).1))),(((decide (y2.1 < (p0.length:Int)))=true)→(((cond ((((List.length (p0.getD y2.1.toNat (([]:List Int),([]:List Int))).1):Nat):Int) == 0) true ((((List.length (p0.getD y2.1.toNat (([]:List Int),([]:List Int))).2):Nat):Int) == 0))=false)→((((v_ls (1:Int) (20:Int) (p0.getD y2.1.toNat (([]:List Int),([]:List Int))).1) != 0)=false)→(lenOk (p0.getD y2.1.toNat (([]:List Int),([]:List Int))).2)))),(((decide (y2.1 < (p0.length:Int)))=true)→(((cond ((((List.length (p0.getD y2.1.toNat (([]:List Int),([]:List Int))).1):Nat):Int) == 0) true ((((List.length (p0.getD y2.1.toNat (([]:List Int),([]:List Int))).2):Nat):Int) == 0))=false)→((((v_ls (1:Int) (20:Int) (p0.getD y2.1.toNat (([]:List Int),([]:List Int))).1) != 0)=false)→((((v_ls (0:Int) (10:Int) (p0.getD y2.1.toNat (([]:List Int),([]:List Int))).2) != 0)=false)→(((y2.1 == (IntKind.i64.wrap ((p0.length:Int) - 1)))=true)→(lenOk (p0.getD y2.1.toNat (([]:List Int),([]:List Int))).2))))))]
def s_Z9 (p0:gA):(Int×Int) := (cond ((p0.length:Int) == 0) ((0:Int),(10:Int)) (cond (decide ((p0.length:Int) > 4)) ((0:Int),(8:Int)) (lpv (0,0) (st_Z9_0 p0) ((0:Int),(1:Int)))))
abbrev pre_Z9 (p0:gA):List Prop := [((((p0.length:Int) == 0)=false)→(((decide ((p0.length:Int) > 4))=false)→(OkL (st_Z9_0 p0) (sp_Z9_0 p0) ((0:Int),(1:Int)))))]
theorem d_Z9 (p0:gA) (K:(Int×Int)→Prop) (hp:∀ p∈pre_Z9 p0,p) (h:K (s_Z9 p0)):w_Z9 p0 K := by
 unfold w_Z9
 unfold s_Z9 at h
 obtain ⟨hp0,_⟩ := conj_of hp
 exact (br' h (fun e0 h => h)
  (fun e0 h => (br' h (fun e1 h => h)
  (fun e1 h => (loop_gen (hp0 e0 e1) h (fun y2 k2 hp h => by
 unfold st_Z9_0 at h; obtain ⟨hp0,hp1,hp2,hp3,hp4,_⟩ := conj_of hp
 exact (br' h (fun e3 h => ⟨(hp0 e3),(hp1 e3),rf,rf,rf,rfl,(br' h (fun e4 h => h)
  (fun e4 h => ⟨(hp2 e3 e4),(br' h (fun e5 h => h)
  (fun e5 h => ⟨(hp3 e3 e4 e5),(br' h (fun e6 h => h)
  (fun e6 h => ⟨rf,rf,rf,(hp4 e3 e4 e5 e6),rf,rfl,(br' h (fun e7 h => h)
  (fun e7 h => h))⟩))⟩))⟩))⟩)
  (fun e3 h => (br' h (fun e8 h => h)
  (fun e8 h => h))))))))))
theorem l_Z9_0 (p0:gA) (hl:p0.length≤4) (hf:v_few p0):OkL (st_Z9_0 p0) (sp_Z9_0 p0) (0,1)∧lpv (0,0) (st_Z9_0 p0) (0,1)=v_ccs p0.length 0 1 p0 := by
 refine @for_is Int (Int×Int) (Int×Int) (0,0) (st_Z9_0 p0) (sp_Z9_0 p0) (fun i t => (i,t)) 0 p0.length (fun j t => 0≤t∧t≤484 ^ j) (fun j t => v_ccs p0.length j t (p0.drop j)) (by omega) (by omega) ?_ ?_ 1 ⟨by decide,by decide⟩
 ·intro t _
  simp only [sp_Z9_0,st_Z9_0,fM,show decide ((p0.length:Int) < (p0.length:Int))=false from decide_eq_false (by omega),cond_false,List.drop_length,v_ccs]
  refine ⟨?_,?_⟩
  ·and_intros
   all_goals first
    | (intro h; cases h; done)
    | (intro p hp; cases hp)
  ·rcases Decidable.em (t≤300) with c | c
   ·rw [decide_eq_true c,decide_eq_false (show ¬ t > 300 by omega)]; rfl
   ·rw [decide_eq_false c,decide_eq_true (show t > 300 by omega)]; rfl
 ·intro j t _ hj ht
  have hd1:decide ((j:Int) < (p0.length:Int))=true := decide_eq_true (by omega)
  have hw1:IntKind.i64.wrap ((j:Int) + 1)=((j + 1:Nat):Int) := wrap_id (by omega) (by omega)
  have hw2:IntKind.i64.wrap ((p0.length:Int) - 1)=(p0.length:Int) - 1 := wrap_id (by omega) (by omega)
  rw [drop_getD ([],[]) hj]
  have hx := hf.len _ (v_getD_mem (d := ([],[])) hj)
  simp only [sp_Z9_0,st_Z9_0,fM,hd1,cond_true,cond_false,Int.toNat_natCast,hw1,hw2]
  obtain ⟨b1,b2,b3,b4,b5⟩ := v_cb (j := j) (by omega) ht (a := ((p0.getD j ([],[])).1.length:Int)) (b := ((p0.getD j ([],[])).2.length:Int)) (by omega) (by omega)
  have w1:IntKind.i64.wrap (((p0.getD j ([],[])).1.length:Int) * ((p0.getD j ([],[])).2.length:Int))=((p0.getD j ([],[])).1.length:Int) * ((p0.getD j ([],[])).2.length:Int) := wrap_id (by omega) (by omega)
  have w2:IntKind.i64.wrap (t * (((p0.getD j ([],[])).1.length:Int) * ((p0.getD j ([],[])).2.length:Int)))=t * (((p0.getD j ([],[])).1.length:Int) * ((p0.getD j ([],[])).2.length:Int)) := wrap_id (by omega) (by omega)
  have w3:IntKind.i64.wrap (t * ((p0.getD j ([],[])).1.length:Int))=t * ((p0.getD j ([],[])).1.length:Int) := wrap_id (by omega) (by omega)
  have k1:lenOk (p0.getD j ([],[])).1 := lenOk_le hx.1 (by decide)
  have k2:lenOk (p0.getD j ([],[])).2 := lenOk_le hx.2 (by decide)
  refine ⟨?_,?_⟩
  ·and_intros
   all_goals first
    | (intro p hp; cases hp; done)
    | (intros; assumption)
    | (intros; omega)
  ·have ea:(((p0.getD j ([],[])).1.length:Int) == 0) = !decide (((p0.getD j ([],[])).1.length:Int) > 0) := by
    rcases Decidable.em (((p0.getD j ([],[])).1.length:Int) > 0) with c | c
    ·rw [decide_eq_true c,beq_eq_false_iff_ne.2 (by omega)]; rfl
    ·rw [decide_eq_false c,beq_iff_eq.2 (by omega)]; rfl
   have eb:(((p0.getD j ([],[])).2.length:Int) == 0) = !decide (((p0.getD j ([],[])).2.length:Int) > 0) := by
    rcases Decidable.em (((p0.getD j ([],[])).2.length:Int) > 0) with c | c
    ·rw [decide_eq_true c,beq_eq_false_iff_ne.2 (by omega)]; rfl
    ·rw [decide_eq_false c,beq_iff_eq.2 (by omega)]; rfl
   rw [show v_ccs p0.length j t ((p0.getD j ([],[])) :: p0.drop (j + 1))=cond (v_cle p0.length j (p0.getD j ([],[])) != 0) (↑j,v_cle p0.length j (p0.getD j ([],[]))) (v_ccs p0.length ((j:Int) + 1) (t * (((p0.getD j ([],[])).1.length:Int) * ((p0.getD j ([],[])).2.length:Int))) (p0.drop (j + 1))) from rfl]
   unfold v_cle
   rw [ea,eb,w3,b5]
   cases decide (((p0.getD j ([],[])).1.length:Int) > 0)
   ·right; rfl
   cases decide (((p0.getD j ([],[])).2.length:Int) > 0)
   ·right; rfl
   simp only [Bool.not_true,cond_true,cond_false]
   rcases int0 (v_ls 1 20 (p0.getD j ([],[])).1) with ⟨_,e1,_⟩ | ⟨_,e1,_⟩
   rotate_left
   ·right; simp only [e1,cond_true]
   simp only [e1,cond_false]
   rcases int0 (v_ls 0 10 (p0.getD j ([],[])).2) with ⟨_,e2,_⟩ | ⟨_,e2,_⟩
   rotate_left
   ·right; simp only [e2,cond_true]
   simp only [e2,cond_false]
   have hin:cond ((j:Int) == (p0.length:Int) - 1) (!(decide ((p0.getD j ([],[])).2 = [0]))) false = !(cond (!((j:Int) == (p0.length:Int) - 1)) true (decide ((p0.getD j ([],[])).2 = [0]))) := by
    cases ((j:Int) == (p0.length:Int) - 1) <;> cases decide ((p0.getD j ([],[])).2 = [0]) <;> rfl
   rw [hin]
   cases cond (!((j:Int) == (p0.length:Int) - 1)) true (decide ((p0.getD j ([],[])).2 = [0]))
   ·right; rfl
   ·left
    refine ⟨_,?_,⟨b3.1,b4⟩,?_⟩
    ·show Sum.inl _ = Sum.inl _
     rw [wrap_id (n := t * (((p0.getD j ([],[])).1.length:Int) * ((p0.getD j ([],[])).2.length:Int))) (by omega) (by omega)]
    ·rw [show ((j + 1:Nat):Int)=(j:Int) + 1 by omega]; rfl
abbrev t_Z9 (p0:gA):Int×Int := v_cc p0
abbrev qre_Z9 (p0:gA):List Prop := [v_few p0]
theorem pp_Z9 (p0:gA) (hq:∀ p∈qre_Z9 p0,p):∀ p∈pre_Z9 p0,p := by
 obtain ⟨h1,_⟩ := conj_of hq
 simp only [pre_Z9,fM]
 refine ⟨fun _ h => ?_,by intro p hp; cases hp⟩
 exact (l_Z9_0 p0 (by have := of_decide_eq_false h; omega) h1).1
theorem tt_Z9 (p0:gA) (hq:∀ p∈qre_Z9 p0,p):s_Z9 p0 = t_Z9 p0 := by
 obtain ⟨h1,_⟩ := conj_of hq
 unfold s_Z9 t_Z9 v_cc
 rcases Decidable.em ((p0.length:Int) > 4) with c | c
 ·rw [decide_eq_true c]; rfl
 ·rw [decide_eq_false c,(l_Z9_0 p0 (by omega) h1).2]

abbrev con_Z9:Con := ⟨P_Z9,R_Z9,fun x => qre_Z9 x,fun x => t_Z9 x⟩
theorem ok_Z9:ConOk Tryz.prog 56 con_Z9 := okG k_Z9 e_Z9 hC_Z9 fun x hx => tf_of (w_Z9_eq x _) (d_Z9 x _ (pp_Z9 x hx) (tt_Z9 x hx))
def C_Z2d:Cons := [(56,[],con_Z9)]
theorem hC_Z2d:ConsOk Tryz.prog C_Z2d := cC ok_Z9 <| ConsOk.nil
def w_Z2d (p0:gA) (K:Int→Prop):Prop := ((v_few p0) ∧(K (v_cc p0).2))
theorem w_Z2d_eq (p0:gA) (K:Int→Prop):tfn F_Z2d A_Z2d C_Z2d P_Z2d R_Z2d p0 K = w_Z2d p0 K := by kernel_rfl
def s_Z2d (p0:gA):Int := (v_cc p0).2
abbrev pre_Z2d (p0:gA):List Prop := [(v_few p0)]
theorem d_Z2d (p0:gA) (K:Int→Prop) (hp:∀ p∈pre_Z2d p0,p) (h:K (s_Z2d p0)):w_Z2d p0 K := by
 unfold w_Z2d
 unfold s_Z2d at h
 obtain ⟨hp0,_⟩ := conj_of hp
 exact ⟨(hp0),h⟩
abbrev con_Z2d:Con := ⟨P_Z2d,R_Z2d,fun x => pre_Z2d x,fun x => s_Z2d x⟩
theorem ok_Z2d:ConOk Tryz.prog 15 con_Z2d := okG k_Z2d e_Z2d hC_Z2d fun x hx => tf_of (w_Z2d_eq x _) (d_Z2d x _ hx rfl)
def C_Zv:Cons := []
theorem hC_Zv:ConsOk Tryz.prog C_Zv := ConsOk.nil
def w_Zv (p0:gA) (K:Int→Prop):Prop := (∃ n0,(loopP (fun (y1:gG) k2 => ((((decide (y1.1 < (p0.length:Int)))=true) →((zz0≤y1.1) ∧((y1.1 < (p0.length:Int)) ∧((zz0≤y1.1) ∧((y1.1 < (p0.length:Int)) ∧(k2 ((IntKind.i64.wrap (y1.1 + 1)),(IntKind.i64.wrap ((IntKind.i64.wrap (y1.2 * (((List.length (p0.getD y1.1.toNat (([]:List Int),([]:List Int))).1):Nat):Int))) * (((List.length (p0.getD y1.1.toNat (([]:List Int),([]:List Int))).2):Nat):Int)))))))))) ∧(((decide (y1.1 < (p0.length:Int)))=false) →(K y1.2)))) n0 (zz0,zz1)))
theorem w_Zv_eq (p0:gA) (K:Int→Prop):tfn F_Zv A_Zv C_Zv P_Zv R_Zv p0 K = w_Zv p0 K := by kernel_rfl
def st_Zv_0 (p0:gA) (y0:gG):(Int×Int) ⊕ Int := (cond (decide (y0.1 < (p0.length:Int))) (Sum.inl ((IntKind.i64.wrap (y0.1 + 1)),(IntKind.i64.wrap ((IntKind.i64.wrap (y0.2 * (((List.length (p0.getD y0.1.toNat (([]:List Int),([]:List Int))).1):Nat):Int))) * (((List.length (p0.getD y0.1.toNat (([]:List Int),([]:List Int))).2):Nat):Int))))) (Sum.inr y0.2))
abbrev sp_Zv_0 (p0:gA) (y0:gG):List Prop := [(((decide (y0.1 < (p0.length:Int)))=true)→((0:Int)≤y0.1)),(((decide (y0.1 < (p0.length:Int)))=true)→(y0.1 < (p0.length:Int)))]
def s_Zv (p0:gA):Int := (lpv (0:Int) (st_Zv_0 p0) ((0:Int),(1:Int)))
abbrev pre_Zv (p0:gA):List Prop := [(OkL (st_Zv_0 p0) (sp_Zv_0 p0) ((0:Int),(1:Int)))]
theorem d_Zv (p0:gA) (K:Int→Prop) (hp:∀ p∈pre_Zv p0,p) (h:K (s_Zv p0)):w_Zv p0 K := by
 unfold w_Zv
 unfold s_Zv at h
 obtain ⟨hp0,_⟩ := conj_of hp
 exact (loop_gen (hp0) h (fun y0 k0 hp h => by
 unfold st_Zv_0 at h; obtain ⟨hp0,hp1,_⟩ := conj_of hp
 exact (br' h (fun e1 h => ⟨(hp0 e1),(hp1 e1),(hp0 e1),(hp1 e1),h⟩)
  (fun e1 h => h))))
theorem l_Zv_0 (p0:gA) (hl:p0.length≤4) (hf:v_few p0):OkL (st_Zv_0 p0) (sp_Zv_0 p0) (0,1)∧lpv 0 (st_Zv_0 p0) (0,1)=v_count p0 := by
 refine @for_is Int (Int×Int) Int 0 (st_Zv_0 p0) (sp_Zv_0 p0) (fun i t => (i,t)) 0 p0.length (fun j t => 0≤t∧t≤484 ^ j) (fun j t => v_cnt t (p0.drop j)) (by omega) (by omega) ?_ ?_ 1 ⟨by decide,by decide⟩
 ·intro t _
  simp only [sp_Zv_0,st_Zv_0,fM,show decide ((p0.length:Int) < (p0.length:Int))=false from decide_eq_false (by omega),cond_false,List.drop_length,v_cnt]
  refine ⟨?_,trivial⟩
  and_intros
  all_goals first
   | (intro h; cases h; done)
   | (intro p hp; cases hp)
 ·intro j t _ hj ht
  have hd1:decide ((j:Int) < (p0.length:Int))=true := decide_eq_true (by omega)
  have hw1:IntKind.i64.wrap ((j:Int) + 1)=((j + 1:Nat):Int) := wrap_id (by omega) (by omega)
  rw [drop_getD ([],[]) hj]
  have hx := hf.len _ (v_getD_mem (d := ([],[])) hj)
  simp only [sp_Zv_0,st_Zv_0,fM,hd1,cond_true,cond_false,Int.toNat_natCast,hw1]
  obtain ⟨b1,b2,b3,b4,b5⟩ := v_cb (j := j) (by omega) ht (a := ((p0.getD j ([],[])).1.length:Int)) (b := ((p0.getD j ([],[])).2.length:Int)) (by omega) (by omega)
  have w1:IntKind.i64.wrap (((p0.getD j ([],[])).1.length:Int) * ((p0.getD j ([],[])).2.length:Int))=((p0.getD j ([],[])).1.length:Int) * ((p0.getD j ([],[])).2.length:Int) := wrap_id (by omega) (by omega)
  have w2:IntKind.i64.wrap (t * (((p0.getD j ([],[])).1.length:Int) * ((p0.getD j ([],[])).2.length:Int)))=t * (((p0.getD j ([],[])).1.length:Int) * ((p0.getD j ([],[])).2.length:Int)) := wrap_id (by omega) (by omega)
  have w3:IntKind.i64.wrap (t * ((p0.getD j ([],[])).1.length:Int))=t * ((p0.getD j ([],[])).1.length:Int) := wrap_id (by omega) (by omega)
  refine ⟨?_,.inl ⟨t * (((p0.getD j ([],[])).1.length:Int) * ((p0.getD j ([],[])).2.length:Int)),?_,⟨b3.1,b4⟩,rfl⟩⟩
  ·and_intros
   all_goals first
    | (intro p hp; cases hp; done)
    | (intros; omega)
  ·rw [w3,b5,w2]
abbrev t_Zv (p0:gA):Int := v_count p0
abbrev qre_Zv (p0:gA):List Prop := [v_few p0,p0.length≤4]
theorem pp_Zv (p0:gA) (hq:∀ p∈qre_Zv p0,p):∀ p∈pre_Zv p0,p := by
 obtain ⟨h1,h2,_⟩ := conj_of hq
 simp only [pre_Zv,fM]
 exact ⟨(l_Zv_0 p0 h2 h1).1,by intro p hp; cases hp⟩
theorem tt_Zv (p0:gA) (hq:∀ p∈qre_Zv p0,p):s_Zv p0 = t_Zv p0 := by
 obtain ⟨h1,h2,_⟩ := conj_of hq
 exact (l_Zv_0 p0 h2 h1).2

abbrev con_Zv:Con := ⟨P_Zv,R_Zv,fun x => qre_Zv x,fun x => t_Zv x⟩
theorem ok_Zv:ConOk Tryz.prog 47 con_Zv := okG k_Zv e_Zv hC_Zv fun x hx => tf_of (w_Zv_eq x _) (d_Zv x _ (pp_Zv x hx) (tt_Zv x hx))
def C_Z1z:Cons := [(15,[],con_Z2d),(47,[],con_Zv)]
theorem hC_Z1z:ConsOk Tryz.prog C_Z1z := cC ok_Z2d <| cC ok_Zv <| ConsOk.nil
def w_Z1z (p0:gA) (K:Bool→Prop):Prop := ((v_few p0) ∧(((((v_cc p0).2 != 0)=false) →(((v_cc p0).2 != 0)=((v_cc p0).2 != 0))) ∧(((((v_cc p0).2 != 0)=false) →(v_few p0)) ∧(((((v_cc p0).2 != 0)=false) →(p0.length≤4)) ∧(((((v_cc p0).2 != 0)=false) →(((v_cc p0).2 != 0)=((v_cc p0).2 != 0))) ∧((((v_cc p0).2 != 0)=((v_cc p0).2 != 0)) ∧(K (cond ((v_cc p0).2 != 0) true (decide ((v_count p0)≤60))))))))))
theorem w_Z1z_eq (p0:gA) (K:Bool→Prop):tfn F_Z1z A_Z1z C_Z1z P_Z1z R_Z1z p0 K = w_Z1z p0 K := by kernel_rfl
def s_Z1z (p0:gA):Bool := (cond ((v_cc p0).2 != 0) true (decide ((v_count p0)≤60)))
abbrev pre_Z1z (p0:gA):List Prop := [(v_few p0),((((v_cc p0).2 != 0)=false)→(v_few p0)),((((v_cc p0).2 != 0)=false)→(p0.length≤4))]
theorem d_Z1z (p0:gA) (K:Bool→Prop) (hp:∀ p∈pre_Z1z p0,p) (h:K (s_Z1z p0)):w_Z1z p0 K := by
 unfold w_Z1z
 unfold s_Z1z at h
 obtain ⟨hp0,hp1,hp2,_⟩ := conj_of hp
 exact ⟨(hp0),rf,(hp1),(hp2),rf,rfl,h⟩
def v_light (l:gA):Bool := cond ((v_cc l).2 != 0) true (decide (v_count l≤60))
abbrev t_Z1z (p0:gA):Bool := v_light p0
abbrev qre_Z1z (p0:gA):List Prop := [v_few p0]
theorem pp_Z1z (p0:gA) (hq:∀ p∈qre_Z1z p0,p):∀ p∈pre_Z1z p0,p := by
 obtain ⟨h1,_⟩ := conj_of hq
 simp only [pre_Z1z,fM]
 exact ⟨h1,fun _ => h1,fun h => (tx_cc_ok h1 (by simpa using h)).cne.len,(by intro p hp; cases hp)⟩
theorem tt_Z1z (p0:gA) (_hq:∀ p∈qre_Z1z p0,p):s_Z1z p0 = t_Z1z p0 := by
 rfl

abbrev con_Z1z:Con := ⟨P_Z1z,R_Z1z,fun x => qre_Z1z x,fun x => t_Z1z x⟩
theorem ok_Z1z:ConOk Tryz.prog 8 con_Z1z := okG k_Z1z e_Z1z hC_Z1z fun x hx => tf_of (w_Z1z_eq x _) (d_Z1z x _ (pp_Z1z x hx) (tt_Z1z x hx))
def C_Z22:Cons := []
theorem hC_Z22:ConsOk Tryz.prog C_Z22 := ConsOk.nil
def w_Z22 (p0:gB) (K:Bool→Prop):Prop := (K (decide ((p0.length:Int)≤8)))
theorem w_Z22_eq (p0:gB) (K:Bool→Prop):tfn F_Z22 A_Z22 C_Z22 P_Z22 R_Z22 p0 K = w_Z22 p0 K := by kernel_rfl
def s_Z22 (p0:gB):Bool := (decide ((p0.length:Int)≤8))
abbrev pre_Z22 (_p0:gB):List Prop := []
theorem d_Z22 (p0:gB) (K:Bool→Prop) (_hp:∀ p∈pre_Z22 p0,p) (h:K (s_Z22 p0)):w_Z22 p0 K := by
 unfold w_Z22
 unfold s_Z22 at h
 exact h
abbrev con_Z22:Con := ⟨P_Z22,R_Z22,fun x => pre_Z22 x,fun x => s_Z22 x⟩
theorem ok_Z22:ConOk Tryz.prog 9 con_Z22 := okG k_Z22 e_Z22 hC_Z22 fun x hx => tf_of (w_Z22_eq x _) (d_Z22 x _ hx rfl)
def C_Z2f:Cons := []
theorem hC_Z2f:ConsOk Tryz.prog C_Z2f := ConsOk.nil
def w_Z2f (p0:gF) (K:(List Int)→Prop):Prop := (((((List.length ([]:List Int)) + p0.length) * 8)≤140737488355328) ∧(K (([]:List Int) ++ p0)))
theorem w_Z2f_eq (p0:gF) (K:(List Int)→Prop):tfn F_Z2f A_Z2f C_Z2f P_Z2f R_Z2f p0 K = w_Z2f p0 K := by kernel_rfl
def s_Z2f (p0:gF):(List Int) := (([]:List Int) ++ p0)
abbrev pre_Z2f (p0:gF):List Prop := [((((List.length ([]:List Int)) + p0.length) * 8)≤140737488355328)]
theorem d_Z2f (p0:gF) (K:(List Int)→Prop) (hp:∀ p∈pre_Z2f p0,p) (h:K (s_Z2f p0)):w_Z2f p0 K := by
 unfold w_Z2f
 unfold s_Z2f at h
 obtain ⟨hp0,_⟩ := conj_of hp
 exact ⟨(hp0),h⟩
abbrev con_Z2f:Con := ⟨P_Z2f,R_Z2f,fun x => pre_Z2f x,fun x => s_Z2f x⟩
theorem ok_Z2f:ConOk Tryz.prog 28 con_Z2f := okG k_Z2f e_Z2f hC_Z2f fun x hx => tf_of (w_Z2f_eq x _) (d_Z2f x _ hx rfl)
def C_Z13:Cons := [(28,[],con_Z2f)]
theorem hC_Z13:ConsOk Tryz.prog C_Z13 := cC ok_Z2f <| ConsOk.nil
def w_Z13 (p0:gA) (K:(List ((List Int)×(List Int)))→Prop):Prop := (∃ n0,(loopP (fun (y1:(Int×(List ((List Int)×(List Int))))) k2 => ((((decide (y1.1 < (p0.length:Int)))=true) →((zz0≤y1.1) ∧((y1.1 < (p0.length:Int)) ∧(((((List.length ([]:List Int)) + (List.length (p0.getD y1.1.toNat (([]:List Int),([]:List Int))).1)) * 8)≤140737488355328) ∧(((((List.length ([]:List Int)) + (List.length (p0.getD y1.1.toNat (([]:List Int),([]:List Int))).2)) * 8)≤140737488355328) ∧((((y1.2.length + (List.length (((([]:List Int) ++ (p0.getD y1.1.toNat (([]:List Int),([]:List Int))).1),(([]:List Int) ++ (p0.getD y1.1.toNat (([]:List Int),([]:List Int))).2)) :: ([]:List ((List Int)×(List Int)))))) * 48)≤140737488355328) ∧(k2 ((IntKind.i64.wrap (y1.1 + 1)),(y1.2 ++ (((([]:List Int) ++ (p0.getD y1.1.toNat (([]:List Int),([]:List Int))).1),(([]:List Int) ++ (p0.getD y1.1.toNat (([]:List Int),([]:List Int))).2)) :: ([]:List ((List Int)×(List Int))))))))))))) ∧(((decide (y1.1 < (p0.length:Int)))=false) →(K y1.2)))) n0 (zz0,([]:List ((List Int)×(List Int))))))
theorem w_Z13_eq (p0:gA) (K:(List ((List Int)×(List Int)))→Prop):tfn F_Z13 A_Z13 C_Z13 P_Z13 R_Z13 p0 K = w_Z13 p0 K := by kernel_rfl
def st_Z13_0 (p0:gA) (y0:(Int×(List ((List Int)×(List Int))))):(Int×(List ((List Int)×(List Int)))) ⊕ (List ((List Int)×(List Int))) := (cond (decide (y0.1 < (p0.length:Int))) (Sum.inl ((IntKind.i64.wrap (y0.1 + 1)),(y0.2 ++ (((([]:List Int) ++ (p0.getD y0.1.toNat (([]:List Int),([]:List Int))).1),(([]:List Int) ++ (p0.getD y0.1.toNat (([]:List Int),([]:List Int))).2)) :: ([]:List ((List Int)×(List Int))))))) (Sum.inr y0.2))
abbrev sp_Z13_0 (p0:gA) (y0:(Int×(List ((List Int)×(List Int))))):List Prop := [(((decide (y0.1 < (p0.length:Int)))=true)→((0:Int)≤y0.1)),(((decide (y0.1 < (p0.length:Int)))=true)→(y0.1 < (p0.length:Int))),(((decide (y0.1 < (p0.length:Int)))=true)→((((List.length ([]:List Int)) + (List.length (p0.getD y0.1.toNat (([]:List Int),([]:List Int))).1)) * 8)≤140737488355328)),(((decide (y0.1 < (p0.length:Int)))=true)→((((List.length ([]:List Int)) + (List.length (p0.getD y0.1.toNat (([]:List Int),([]:List Int))).2)) * 8)≤140737488355328)),(((decide (y0.1 < (p0.length:Int)))=true)→(((y0.2.length + (List.length (((([]:List Int) ++ (p0.getD y0.1.toNat (([]:List Int),([]:List Int))).1),(([]:List Int) ++ (p0.getD y0.1.toNat (([]:List Int),([]:List Int))).2)) :: ([]:List ((List Int)×(List Int)))))) * 48)≤140737488355328))]
def s_Z13 (p0:gA):(List ((List Int)×(List Int))) := (lpv [] (st_Z13_0 p0) ((0:Int),([]:List ((List Int)×(List Int)))))
abbrev pre_Z13 (p0:gA):List Prop := [(OkL (st_Z13_0 p0) (sp_Z13_0 p0) ((0:Int),([]:List ((List Int)×(List Int)))))]
theorem d_Z13 (p0:gA) (K:(List ((List Int)×(List Int)))→Prop) (hp:∀ p∈pre_Z13 p0,p) (h:K (s_Z13 p0)):w_Z13 p0 K := by
 unfold w_Z13
 unfold s_Z13 at h
 obtain ⟨hp0,_⟩ := conj_of hp
 exact (loop_gen (hp0) h (fun y0 k0 hp h => by
 unfold st_Z13_0 at h; obtain ⟨hp0,hp1,hp2,hp3,hp4,_⟩ := conj_of hp
 exact (br' h (fun e1 h => ⟨(hp0 e1),(hp1 e1),(hp2 e1),(hp3 e1),(hp4 e1),h⟩)
  (fun e1 h => h))))
theorem l_Z13_0 (p0:gA) (h1:p0.length≤6) (h2:v_few p0):OkL (st_Z13_0 p0) (sp_Z13_0 p0) (0,[])∧lpv [] (st_Z13_0 p0) (0,[])=p0 := by
 refine @for_is (List (List Int×List Int)) (Int×List (List Int×List Int)) (List (List Int×List Int)) [] (st_Z13_0 p0) (sp_Z13_0 p0) (fun i t => (i,t)) 0 p0.length (fun j t => t = p0.take j) (fun _ _ => p0) (by omega) (by omega) ?_ ?_ [] (by simp)
 ·rintro t rfl
  simp only [sp_Z13_0,st_Z13_0,fM,show decide ((p0.length:Int) < (p0.length:Int))=false from decide_eq_false (by omega),cond_false,List.take_length]
  refine ⟨?_,trivial⟩
  and_intros
  all_goals first
   | (intro h; cases h; done)
   | (intro p hp; cases hp)
 ·rintro j t - hj rfl
  have hd1:decide ((j:Int) < (p0.length:Int))=true := decide_eq_true (by omega)
  have hw1:IntKind.i64.wrap ((j:Int) + 1)=((j + 1:Nat):Int) := wrap_id (by omega) (by omega)
  have hx := h2.len _ (v_getD_mem (d := ([],[])) hj)
  simp only [sp_Z13_0,st_Z13_0,fM,hd1,cond_true,Int.toNat_natCast,hw1,List.nil_append,List.length_nil,List.length_take,List.length_singleton]
  refine ⟨?_,.inl ⟨_,rfl,?_,trivial⟩⟩
  ·and_intros
   all_goals first
    | (intro p hp; cases hp; done)
    | (intros; omega)
  ·show p0.take j ++ [p0.getD j ([],[])]=p0.take (j + 1)
   rw [List.take_add_one,List.getD_eq_getElem?_getD,List.getElem?_eq_getElem hj]; rfl
abbrev t_Z13 (p0:gA):List (List Int×List Int) := p0
abbrev qre_Z13 (p0:gA):List Prop := [p0.length≤6,v_few p0]
theorem pp_Z13 (p0:gA) (hq:∀ p∈qre_Z13 p0,p):∀ p∈pre_Z13 p0,p := by
 obtain ⟨h1,h2,_⟩ := conj_of hq
 simp only [pre_Z13,fM]
 exact ⟨(l_Z13_0 p0 h1 h2).1,(by intro p hp; cases hp)⟩
theorem tt_Z13 (p0:gA) (hq:∀ p∈qre_Z13 p0,p):s_Z13 p0 = t_Z13 p0 := by
 obtain ⟨h1,h2,_⟩ := conj_of hq
 exact (l_Z13_0 p0 h1 h2).2

abbrev con_Z13:Con := ⟨P_Z13,R_Z13,fun x => qre_Z13 x,fun x => t_Z13 x⟩
theorem ok_Z13:ConOk Tryz.prog 11 con_Z13 := okG k_Z13 e_Z13 hC_Z13 fun x hx => tf_of (w_Z13_eq x _) (d_Z13 x _ (pp_Z13 x hx) (tt_Z13 x hx))
def C_Z1:Cons := []
theorem hC_Z1:ConsOk Tryz.prog C_Z1 := ConsOk.nil
def w_Z1 (p0:gB) (K:(List (Int×(Int×Int)))→Prop):Prop := (((((List.length ([]:List (Int×(Int×Int)))) + p0.length) * 24)≤140737488355328) ∧(K (([]:List (Int×(Int×Int))) ++ p0)))
theorem w_Z1_eq (p0:gB) (K:(List (Int×(Int×Int)))→Prop):tfnO F_Z1 A_Z1 C_Z1 P_Z1 E_Z1 p0 K = w_Z1 p0 K := by kernel_rfl
def s_Z1 (p0:gB):(List (Int×(Int×Int))) := (([]:List (Int×(Int×Int))) ++ p0)
abbrev pre_Z1 (p0:gB):List Prop := [((((List.length ([]:List (Int×(Int×Int)))) + p0.length) * 24)≤140737488355328)]
theorem d_Z1 (p0:gB) (K:(List (Int×(Int×Int)))→Prop) (hp:∀ p∈pre_Z1 p0,p) (h:K (s_Z1 p0)):w_Z1 p0 K := by
 unfold w_Z1
 unfold s_Z1 at h
 obtain ⟨hp0,_⟩ := conj_of hp
 exact ⟨(hp0),h⟩
abbrev con_Z1:Con := ⟨P_Z1,[.one (.sl E_Z1)],fun x => pre_Z1 x,fun x => s_Z1 x⟩
theorem ok_Z1:ConOOk Tryz.prog 12 con_Z1 := conO_tf (e := E_Z1) (ps := P_Z1) k_Z1 e_Z1 hC_Z1 (fun x hx => tfo_of (w_Z1_eq x (fun z => z = s_Z1 x)) (d_Z1 x (fun z => z = s_Z1 x) hx rfl))
def C_Z2h:Cons := [(21,[],con_Z3)]
theorem hC_Z2h:ConsOk Tryz.prog C_Z2h := cC ok_Z3 <| ConsOk.nil
def w_Z2h (p0:Int) (K:Int→Prop):Prop := ((((!(s_Z3 p0 zz1 (20:Int)))=true) →(K (2:Int))) ∧(((!(s_Z3 p0 zz1 (20:Int)))=false) →(K zz0)))
theorem w_Z2h_eq (p0:Int) (K:Int→Prop):tfn F_Z2h A_Z2h C_Z2h P_Z2h R_Z2h p0 K = w_Z2h p0 K := by kernel_rfl
def s_Z2h (p0:Int):Int := (cond (!(s_Z3 p0 (1:Int) (20:Int))) (2:Int) (0:Int))
abbrev pre_Z2h (_p0:Int):List Prop := []
theorem d_Z2h (p0:Int) (K:Int→Prop) (_hp:∀ p∈pre_Z2h p0,p) (h:K (s_Z2h p0)):w_Z2h p0 K := by
 unfold w_Z2h
 unfold s_Z2h at h
 exact (br' h (fun e0 h => h)
  (fun e0 h => h))
abbrev con_Z2h:Con := ⟨P_Z2h,R_Z2h,fun x => pre_Z2h x,fun x => s_Z2h x⟩
theorem ok_Z2h:ConOk Tryz.prog 90 con_Z2h := okG k_Z2h e_Z2h hC_Z2h fun x hx => tf_of (w_Z2h_eq x _) (d_Z2h x _ hx rfl)
def C_Z2:Cons := [(90,[],con_Z2h),(21,[],con_Z3)]
theorem hC_Z2:ConsOk Tryz.prog C_Z2 := cC ok_Z2h <| cC ok_Z3 <| ConsOk.nil
abbrev q2_Z2 (p0:gB) (y1:Int) := ((cond (!(s_Z3 (p0.getD y1.toNat (zz0,(zz0,zz0))).1 zz1 (20:Int))) zz2 zz0) != zz0)
abbrev q0_Z2 (p0:gB) (y1:Int) := (cond (q2_Z2 p0 y1) true (!(s_Z3 (p0.getD y1.toNat (zz0,(zz0,zz0))).2.1 zz0 (100000:Int))))
abbrev q1_Z2 (p0:gB) (y1:Int) := (decide ((p0.getD y1.toNat (zz0,(zz0,zz0))).2.1 > (p0.getD y1.toNat (zz0,(zz0,zz0))).2.2))
abbrev q3_Z2 (p0:gB) (y1:Int) := (((!(q1_Z2 p0 y1)) && (decide (y1 > zz0)))=((!(q1_Z2 p0 y1)) && (decide (y1 > zz0))))
abbrev q4_Z2 (p0:gB) (y1:Int) := (((!(q1_Z2 p0 y1)) && (decide (y1 > zz0)))=true)
def w_Z2 (p0:gB) (K:(Int×Int)→Prop):Prop := (((((p0.length:Int) == zz0)=true) →(K (zz0,(10:Int)))) ∧((((p0.length:Int) == zz0)=false) →((((decide ((p0.length:Int) > 6))=true) →(K (zz0,(8:Int)))) ∧(((decide ((p0.length:Int) > 6))=false) →(∃ n0,(loopP (fun (y1:Int) k2 => ((((decide (y1 < (p0.length:Int)))=true) →((zz0≤y1) ∧((y1 < (p0.length:Int)) ∧((((q2_Z2 p0 y1)=false) →((q2_Z2 p0 y1)=(q2_Z2 p0 y1))) ∧((((q2_Z2 p0 y1)=false) →((q2_Z2 p0 y1)=(q2_Z2 p0 y1))) ∧((((q2_Z2 p0 y1)=false) →(zz0≤y1)) ∧((((q2_Z2 p0 y1)=false) →(y1 < (p0.length:Int))) ∧((((q2_Z2 p0 y1)=false) →((q2_Z2 p0 y1)=(q2_Z2 p0 y1))) ∧((((q2_Z2 p0 y1)=false) →((q2_Z2 p0 y1)=(q2_Z2 p0 y1))) ∧((((q2_Z2 p0 y1)=false) →((q2_Z2 p0 y1)=(q2_Z2 p0 y1))) ∧((((q2_Z2 p0 y1)=false) →((q2_Z2 p0 y1)=(q2_Z2 p0 y1))) ∧((((q2_Z2 p0 y1)=false) →((q2_Z2 p0 y1)=(q2_Z2 p0 y1))) ∧(((q2_Z2 p0 y1)=(q2_Z2 p0 y1)) ∧((((q0_Z2 p0 y1)=false) →((q0_Z2 p0 y1)=(q0_Z2 p0 y1))) ∧((((q0_Z2 p0 y1)=false) →((q0_Z2 p0 y1)=(q0_Z2 p0 y1))) ∧((((q0_Z2 p0 y1)=false) →(zz0≤y1)) ∧((((q0_Z2 p0 y1)=false) →(y1 < (p0.length:Int))) ∧((((q0_Z2 p0 y1)=false) →((q0_Z2 p0 y1)=(q0_Z2 p0 y1))) ∧((((q0_Z2 p0 y1)=false) →((q0_Z2 p0 y1)=(q0_Z2 p0 y1))) ∧((((q0_Z2 p0 y1)=false) →((q0_Z2 p0 y1)=(q0_Z2 p0 y1))) ∧((((q0_Z2 p0 y1)=false) →((q0_Z2 p0 y1)=(q0_Z2 p0 y1))) ∧((((q0_Z2 p0 y1)=false) →((q0_Z2 p0 y1)=(q0_Z2 p0 y1))) ∧(((q0_Z2 p0 y1)=(q0_Z2 p0 y1)) ∧((((cond (q0_Z2 p0 y1) true (!(s_Z3 (p0.getD y1.toNat (zz0,(zz0,zz0))).2.2 zz0 (100000:Int))))=true) →(K (y1,zz2))) ∧(((cond (q0_Z2 p0 y1) true (!(s_Z3 (p0.getD y1.toNat (zz0,(zz0,zz0))).2.2 zz0 (100000:Int))))=false) →((zz0≤y1) ∧((y1 < (p0.length:Int)) ∧((zz0≤y1) ∧((y1 < (p0.length:Int)) ∧((((q1_Z2 p0 y1)=false) →((q1_Z2 p0 y1)=(q1_Z2 p0 y1))) ∧((((q1_Z2 p0 y1)=false) →((q1_Z2 p0 y1)=(q1_Z2 p0 y1))) ∧(((q4_Z2 p0 y1) →(q3_Z2 p0 y1)) ∧(((q4_Z2 p0 y1) →(q3_Z2 p0 y1)) ∧(((q4_Z2 p0 y1) →(zz0≤y1)) ∧(((q4_Z2 p0 y1) →(y1 < (p0.length:Int))) ∧(((q4_Z2 p0 y1) →(q3_Z2 p0 y1)) ∧(((q4_Z2 p0 y1) →(q3_Z2 p0 y1)) ∧(((q4_Z2 p0 y1) →(q3_Z2 p0 y1)) ∧(((q4_Z2 p0 y1) →(q3_Z2 p0 y1)) ∧(((q4_Z2 p0 y1) →(q3_Z2 p0 y1)) ∧(((q4_Z2 p0 y1) →(zz0≤(wi (y1 - zz1)))) ∧(((q4_Z2 p0 y1) →((wi (y1 - zz1)) < (p0.length:Int))) ∧(((q4_Z2 p0 y1) →(q3_Z2 p0 y1)) ∧(((q4_Z2 p0 y1) →(q3_Z2 p0 y1)) ∧(((q4_Z2 p0 y1) →(q3_Z2 p0 y1)) ∧(((q4_Z2 p0 y1) →(q3_Z2 p0 y1)) ∧((((q1_Z2 p0 y1)=false) →((q1_Z2 p0 y1)=(q1_Z2 p0 y1))) ∧((((q1_Z2 p0 y1)=false) →(((!(q1_Z2 p0 y1)) && (decide (y1 > zz0)))=(decide (y1 > zz0)))) ∧(((q1_Z2 p0 y1)=(q1_Z2 p0 y1)) ∧((((cond (q1_Z2 p0 y1) true (cond (decide (y1 > zz0)) (decide ((p0.getD y1.toNat (zz0,(zz0,zz0))).1≤(p0.getD (Int.toNat (wi (y1 - zz1))) (zz0,(zz0,zz0))).1)) false))=true) →(K (y1,(9:Int)))) ∧(((cond (q1_Z2 p0 y1) true (cond (decide (y1 > zz0)) (decide ((p0.getD y1.toNat (zz0,(zz0,zz0))).1≤(p0.getD (Int.toNat (wi (y1 - zz1))) (zz0,(zz0,zz0))).1)) false))=false) →(k2 (wi (y1 + zz1)))))))))))))))))))))))))))))))))))))))))))))))))))))) ∧(((decide (y1 < (p0.length:Int)))=false) →(K (zz0,zz0))))) n0 zz0))))))
theorem w_Z2_eq (p0:gB) (K:(Int×Int)→Prop):tfn F_Z2 A_Z2 C_Z2 P_Z2 R_Z2 p0 K = w_Z2 p0 K := by kernel_rfl
def st_Z2_0 (p0:gB) (y2:Int):Int ⊕ (Int×Int) := (cond (decide (y2 < (p0.length:Int))) (cond (cond (cond ((cond (!(s_Z3 (p0.getD y2.toNat ((0:Int),(0,0))).1 (1:Int) (20:Int))) (2:Int) (0:Int)) != 0) true (!(s_Z3 (p0.getD y2.toNat ((0:Int),(0,0))).2.1 (0:Int) (100000:Int)))) true (!(s_Z3 (p0.getD y2.toNat ((0:Int),(0,0))).2.2 (0:Int) (100000:Int)))) (Sum.inr (y2,(2:Int))) (cond (cond (decide ((p0.getD y2.toNat ((0:Int),(0,0))).2.1 > (p0.getD y2.toNat ((0:Int),(0,0))).2.2)) true (cond (decide (y2 > 0)) (decide ((p0.getD y2.toNat ((0:Int),(0,0))).1≤(p0.getD (Int.toNat (IntKind.i64.wrap (y2 - 1))) ((0:Int),(0,0))).1)) false)) (Sum.inr (y2,(9:Int))) (Sum.inl (IntKind.i64.wrap (y2 + 1))))) (Sum.inr (0,0)))
abbrev sp_Z2_0 (p0:gB) (y2:Int):List Prop := [(((decide (y2 < (p0.length:Int)))=true)→((0:Int)≤y2)),(((decide (y2 < (p0.length:Int)))=true)→(y2 < (p0.length:Int))),(((decide (y2 < (p0.length:Int)))=true)→((((cond (!(s_Z3 (p0.getD y2.toNat ((0:Int),(0,0))).1 (1:Int) (20:Int))) (2:Int) (0:Int)) != 0)=false)→((0:Int)≤y2))),(((decide (y2 < (p0.length:Int)))=true)→((((cond (!(s_Z3 (p0.getD y2.toNat ((0:Int),(0,0))).1 (1:Int) (20:Int))) (2:Int) (0:Int)) != 0)=false)→(y2 < (p0.length:Int)))),(((decide (y2 < (p0.length:Int)))=true)→(((cond ((cond (!(s_Z3 (p0.getD y2.toNat ((0:Int),(0,0))).1 (1:Int) (20:Int))) (2:Int) (0:Int)) != 0) true (!(s_Z3 (p0.getD y2.toNat ((0:Int),(0,0))).2.1 (0:Int) (100000:Int))))=false)→((0:Int)≤y2))),(((decide (y2 < (p0.length:Int)))=true)→(((cond ((cond (!(s_Z3 (p0.getD y2.toNat ((0:Int),(0,0))).1 (1:Int) (20:Int))) (2:Int) (0:Int)) != 0) true (!(s_Z3 (p0.getD y2.toNat ((0:Int),(0,0))).2.1 (0:Int) (100000:Int))))=false)→(y2 < (p0.length:Int)))),(((decide (y2 < (p0.length:Int)))=true)→(((cond (cond ((cond (!(s_Z3 (p0.getD y2.toNat ((0:Int),(0,0))).1 (1:Int) (20:Int))) (2:Int) (0:Int)) != 0) true (!(s_Z3 (p0.getD y2.toNat ((0:Int),(0,0))).2.1 (0:Int) (100000:Int)))) true (!(s_Z3 (p0.getD y2.toNat ((0:Int),(0,0))).2.2 (0:Int) (100000:Int))))=false)→((0:Int)≤y2))),(((decide (y2 < (p0.length:Int)))=true)→(((cond (cond ((cond (!(s_Z3 (p0.getD y2.toNat ((0:Int),(0,0))).1 (1:Int) (20:Int))) (2:Int) (0:Int)) != 0) true (!(s_Z3 (p0.getD y2.toNat ((0:Int),(0,0))).2.1 (0:Int) (100000:Int)))) true (!(s_Z3 (p0.getD y2.toNat ((0:Int),(0,0))).2.2 (0:Int) (100000:Int))))=false)→(y2 < (p0.length:Int)))),(((decide (y2 < (p0.length:Int)))=true)→(((cond (cond ((cond (!(s_Z3 (p0.getD y2.toNat ((0:Int),(0,0))).1 (1:Int) (20:Int))) (2:Int) (0:Int)) != 0) true (!(s_Z3 (p0.getD y2.toNat ((0:Int),(0,0))).2.1 (0:Int) (100000:Int)))) true (!(s_Z3 (p0.getD y2.toNat ((0:Int),(0,0))).2.2 (0:Int) (100000:Int))))=false)→((((!(decide ((p0.getD y2.toNat ((0:Int),(0,0))).2.1 > (p0.getD y2.toNat ((0:Int),(0,0))).2.2))) && (decide (y2 > 0)))=true)→((0:Int)≤y2)))),(((decide (y2 < (p0.length:Int)))=true)→(((cond (cond ((cond (!(s_Z3 (p0.getD y2.toNat ((0:Int),(0,0))).1 (1:Int) (20:Int))) (2:Int) (0:Int)) != 0) true (!(s_Z3 (p0.getD y2.toNat ((0:Int),(0,0))).2.1 (0:Int) (100000:Int)))) true (!(s_Z3 (p0.getD y2.toNat ((0:Int),(0,0))).2.2 (0:Int) (100000:Int))))=false)→((((!(decide ((p0.getD y2.toNat ((0:Int),(0,0))).2.1 > (p0.getD y2.toNat ((0:Int),(0,0))).2.2))) && (decide (y2 > 0)))=true)→(y2 < (p0.length:Int))))),(((decide (y2 < (p0.length:Int)))=true)→(((cond (cond ((cond (!(s_Z3 (p0.getD y2.toNat ((0:Int),(0,0))).1 (1:Int) (20:Int))) (2:Int) (0:Int)) != 0) true (!(s_Z3 (p0.getD y2.toNat ((0:Int),(0,0))).2.1 (0:Int) (100000:Int)))) true (!(s_Z3 (p0.getD y2.toNat ((0:Int),(0,0))).2.2 (0:Int) (100000:Int))))=false)→((((!(decide ((p0.getD y2.toNat ((0:Int),(0,0))).2.1 > (p0.getD y2.toNat ((0:Int),(0,0))).2.2))) && (decide (y2 > 0)))=true)→((0:Int)≤(IntKind.i64.wrap (y2 - 1)))))),(((decide (y2 < (p0.length:Int)))=true)→(((cond (cond ((cond (!(s_Z3 (p0.getD y2.toNat ((0:Int),(0,0))).1 (1:Int) (20:Int))) (2:Int) (0:Int)) != 0) true (!(s_Z3 (p0.getD y2.toNat ((0:Int),(0,0))).2.1 (0:Int) (100000:Int)))) true (!(s_Z3 (p0.getD y2.toNat ((0:Int),(0,0))).2.2 (0:Int) (100000:Int))))=false)→((((!(decide ((p0.getD y2.toNat ((0:Int),(0,0))).2.1 > (p0.getD y2.toNat ((0:Int),(0,0))).2.2))) && (decide (y2 > 0)))=true)→((IntKind.i64.wrap (y2 - 1)) < (p0.length:Int))))),(((decide (y2 < (p0.length:Int)))=true)→(((cond (cond ((cond (!(s_Z3 (p0.getD y2.toNat ((0:Int),(0,0))).1 (1:Int) (20:Int))) (2:Int) (0:Int)) != 0) true (!(s_Z3 (p0.getD y2.toNat ((0:Int),(0,0))).2.1 (0:Int) (100000:Int)))) true (!(s_Z3 (p0.getD y2.toNat ((0:Int),(0,0))).2.2 (0:Int) (100000:Int))))=false)→(((decide ((p0.getD y2.toNat ((0:Int),(0,0))).2.1 > (p0.getD y2.toNat ((0:Int),(0,0))).2.2))=false)→(((!(decide ((p0.getD y2.toNat ((0:Int),(0,0))).2.1 > (p0.getD y2.toNat ((0:Int),(0,0))).2.2))) && (decide (y2 > 0)))=(decide (y2 > 0))))))]
def s_Z2 (p0:gB):(Int×Int) := (cond ((p0.length:Int) == 0) ((0:Int),(10:Int)) (cond (decide ((p0.length:Int) > 6)) ((0:Int),(8:Int)) (lpv (0,0) (st_Z2_0 p0) (0:Int))))
abbrev pre_Z2 (p0:gB):List Prop := [((((p0.length:Int) == 0)=false)→(((decide ((p0.length:Int) > 6))=false)→(OkL (st_Z2_0 p0) (sp_Z2_0 p0) (0:Int))))]
theorem d_Z2 (p0:gB) (K:(Int×Int)→Prop) (hp:∀ p∈pre_Z2 p0,p) (h:K (s_Z2 p0)):w_Z2 p0 K := by
 unfold w_Z2
 unfold s_Z2 at h
 obtain ⟨hp0,_⟩ := conj_of hp
 exact (br' h (fun e0 h => h)
  (fun e0 h => (br' h (fun e1 h => h)
  (fun e1 h => (loop_gen (hp0 e0 e1) h (fun y2 k2 hp h => by
 unfold st_Z2_0 at h; obtain ⟨hp0,hp1,hp2,hp3,hp4,hp5,hp6,hp7,hp8,hp9,hp10,hp11,hp12,_⟩ := conj_of hp
 exact (br' h (fun e3 h => ⟨(hp0 e3),(hp1 e3),rf,rf,(hp2 e3),(hp3 e3),rf,rf,rf,rf,rf,rfl,rf,rf,(hp4 e3),(hp5 e3),rf,rf,rf,rf,rf,rfl,(br' h (fun e4 h => h)
  (fun e4 h => ⟨(hp6 e3 e4),(hp7 e3 e4),(hp6 e3 e4),(hp7 e3 e4),rf,rf,rf,rf,(hp8 e3 e4),(hp9 e3 e4),rf,rf,rf,rf,rf,(hp10 e3 e4),(hp11 e3 e4),rf,rf,rf,rf,rf,(hp12 e3 e4),rfl,(br' h (fun e5 h => h)
  (fun e5 h => h))⟩))⟩)
  (fun e3 h => h))))))))
/-- What is wrong with a datum; with data. -/
def v_cd1 (l:gB) (i:Int) (x:Int×Int×Int):Option (Int×Int) := cond (cond (s_Z3 x.1 1 20) (cond (s_Z3 x.2.1 0 100000) (s_Z3 x.2.2 0 100000) false) false) (cond (cond (decide (x.2.1≤x.2.2)) (cond (i == 0) true (decide (x.1 > (l.getD (i - 1).toNat (0,0,0)).1))) false) none (some (i,9))) (some (i,2))
def v_cd (l:gB):Int×Int := cond ((l.length:Int) == 0) (0,10) (cond (decide ((l.length:Int) > 6)) (0,8) (v_scan (v_cd1 l) (0,0) 0 l))
theorem l_Z2_0 (p0:gB) (hl:lenOk p0):OkL (st_Z2_0 p0) (sp_Z2_0 p0) 0∧lpv ((0,0):Int×Int) (st_Z2_0 p0) 0 = v_scan (v_cd1 p0) ((0,0):Int×Int) 0 p0 := by
 refine scan_is p0 (0,0,0) (v_cd1 p0) ((0,0):Int×Int) hl ?_ ?_
 ·refine ⟨by simp only [sp_Z2_0,fM,decide_eq_true_eq]; simp,by simp [st_Z2_0]⟩
 ·intro j hj
  have hj' : (j:Int) < p0.length := by omega
  have hw := wrap_nat (show (j:Int)≤9223372036854775806 by unfold lenOk at hl; omega)
  have hw2:IntKind.i64.wrap ((j:Int) - 1)=(j:Int) - 1 := wrap_id (by omega) (by unfold lenOk at hl; omega)
  refine ⟨by simp only [sp_Z2_0,fM,decide_eq_true_eq,Int.toNat_natCast]; rw [hw2]; and_intros <;> first | (intro p hp; cases hp; done) | (intros; first | omega | (simp_all; done) | (simp_all; omega)),?_⟩
  simp only [st_Z2_0,hj',decide_true,Int.toNat_natCast,cond_true,hw]
  unfold v_cd1
  rw [hw2]
  rcases int0 (j:Int) with ⟨hj0,_,z⟩ | ⟨hj0,_,z⟩ <;> rw [z]
  ·rw [decide_eq_false (show ¬ (j:Int) > 0 by omega)]
   rcases dec0 (a := (p0.getD j (0,0,0)).2.2) (b := (p0.getD j (0,0,0)).2.1) with ⟨_,_,_,d3,d4⟩ | ⟨_,_,_,d3,d4⟩ <;> rw [d4] <;> simp only [d3] <;> cases s_Z3 (p0.getD j (0,0,0)).1 1 20 <;> cases s_Z3 (p0.getD j (0,0,0)).2.1 0 100000 <;> cases s_Z3 (p0.getD j (0,0,0)).2.2 0 100000 <;> rfl
  ·rw [decide_eq_true (show (j:Int) > 0 by omega)]
   rcases dec0 (a := (p0.getD j (0,0,0)).2.2) (b := (p0.getD j (0,0,0)).2.1) with ⟨_,_,_,d3,d4⟩ | ⟨_,_,_,d3,d4⟩ <;> rw [d4] <;> simp only [d3] <;> rcases dec0 (a := (p0.getD ((j:Int) - 1).toNat (0,0,0)).1) (b := (p0.getD j (0,0,0)).1) with ⟨_,c1,c2,c3,c4⟩ | ⟨_,c1,c2,c3,c4⟩ <;> simp only [c3,c4] <;> cases s_Z3 (p0.getD j (0,0,0)).1 1 20 <;> cases s_Z3 (p0.getD j (0,0,0)).2.1 0 100000 <;> cases s_Z3 (p0.getD j (0,0,0)).2.2 0 100000 <;> rfl
abbrev t_Z2 (p0:gB):Int×Int := v_cd p0
abbrev qre_Z2 (_p0:gB):List Prop := []
theorem pp_Z2 (p0:gB) (_hq:∀ p∈qre_Z2 p0,p):∀ p∈pre_Z2 p0,p := by
 simp only [pre_Z2,fM]
 exact ⟨fun _ h => (l_Z2_0 p0 (lenOk_le (n := 6) (by have := of_decide_eq_false h; omega) (by decide))).1,by simp⟩
theorem tt_Z2 (p0:gB) (_hq:∀ p∈qre_Z2 p0,p):s_Z2 p0 = t_Z2 p0 := by
 unfold s_Z2 t_Z2 v_cd
 cases h:decide ((p0.length:Int) > 6)
 ·rw [(l_Z2_0 p0 (lenOk_le (n := 6) (by have := of_decide_eq_false h; omega) (by decide))).2]
 ·rfl

abbrev con_Z2:Con := ⟨P_Z2,R_Z2,fun x => qre_Z2 x,fun x => t_Z2 x⟩
theorem ok_Z2:ConOk Tryz.prog 57 con_Z2 := okG k_Z2 e_Z2 hC_Z2 fun x hx => tf_of (w_Z2_eq x _) (d_Z2 x _ (pp_Z2 x hx) (tt_Z2 x hx))
def C_Z2c:Cons := [(54,[],con_Zh)]
theorem hC_Z2c:ConsOk Tryz.prog C_Z2c := cC ok_Zh <| ConsOk.nil
def w_Z2c (p0:Int) (K:Bool→Prop):Prop := (K (s_Zh p0 zz0 (100000:Int)))
theorem w_Z2c_eq (p0:Int) (K:Bool→Prop):tfn F_Z2c A_Z2c C_Z2c P_Z2c R_Z2c p0 K = w_Z2c p0 K := by kernel_rfl
def s_Z2c (p0:Int):Bool := (s_Zh p0 (0:Int) (100000:Int))
abbrev pre_Z2c (_p0:Int):List Prop := []
theorem d_Z2c (p0:Int) (K:Bool→Prop) (_hp:∀ p∈pre_Z2c p0,p) (h:K (s_Z2c p0)):w_Z2c p0 K := by
 unfold w_Z2c
 unfold s_Z2c at h
 exact h
abbrev con_Z2c:Con := ⟨P_Z2c,R_Z2c,fun x => pre_Z2c x,fun x => s_Z2c x⟩
theorem ok_Z2c:ConOk Tryz.prog 131 con_Z2c := okG k_Z2c e_Z2c hC_Z2c fun x hx => tf_of (w_Z2c_eq x _) (d_Z2c x _ hx rfl)
end Go.Proofs.YtehblgccaiiikaaGreat
