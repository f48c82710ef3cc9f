/- What the functions that GroundExplained reaches compute: contracts, each function once. No condition. -/
import Derived.Test.YtehblgccaiiikaaGreatWalkGroundExplainedB
import Derived.KernelRfl
namespace Go.Proofs.YtehblgccaiiikaaGreat
open Go Go.Mx
set_option maxRecDepth 100000
set_option maxHeartbeats 4000000
def C_Z6:Cons := [(52,[],con_Z4),(53,[],con_Zm),(81,[],con_Z27),(131,[],con_Z2c)]
theorem hC_Z6:ConsOk Tryz.prog C_Z6 := cC ok_Z4 <| cC ok_Zm <| cC ok_Z27 <| cC ok_Z2c <| ConsOk.nil
abbrev q1_Z6 (p0:gB) (y1:Int) := (p0.getD y1.toNat (zz0,(zz0,zz0)))
abbrev q0_Z6 (p0:gB) (y1:Int) := (s_Zh (q1_Z6 p0 y1).2.1 zz0 (100000:Int))
abbrev q2_Z6 (p0:gB) := ((s_Z4 (decide ((p0.length:Int) > zz0)) (10:Int)) :: ((s_Z4 (decide ((p0.length:Int)≤6)) (8:Int)) :: ([]:List Int)))
abbrev q3_Z6 (p0:gB) (y1:Int) := (s_Z4 (cond (q0_Z6 p0 y1) (s_Zh (q1_Z6 p0 y1).2.2 zz0 (100000:Int)) false) zz2)
def w_Z6 (p0:gB) (K:(Int×Int)→Prop):Prop := ((lenOk (q2_Z6 p0)) ∧(((((v_first (q2_Z6 p0)) != zz0)=true) →(K (zz0,(v_first (q2_Z6 p0))))) ∧((((v_first (q2_Z6 p0)) != zz0)=false) →(∃ n0,(loopP (fun (y1:Int) k2 => ((((decide (y1 < (p0.length:Int)))=true) →((zz0≤y1) ∧((y1 < (p0.length:Int)) ∧((((y1 == zz0)=false) →((y1 == zz0)=(y1 == zz0))) ∧((((y1 == zz0)=false) →((y1 == zz0)=(y1 == zz0))) ∧((((y1 == zz0)=false) →((y1 == zz0)=(y1 == zz0))) ∧((((y1 == zz0)=false) →((y1 == zz0)=(y1 == zz0))) ∧((((y1 == zz0)=false) →(zz0≤(wi (y1 - zz1)))) ∧((((y1 == zz0)=false) →((wi (y1 - zz1)) < (p0.length:Int))) ∧((((y1 == zz0)=false) →((y1 == zz0)=(y1 == zz0))) ∧((((y1 == zz0)=false) →((y1 == zz0)=(y1 == zz0))) ∧((((y1 == zz0)=false) →((y1 == zz0)=(y1 == zz0))) ∧((((y1 == zz0)=false) →((y1 == zz0)=(y1 == zz0))) ∧(((y1 == zz0)=(y1 == zz0)) ∧((((q0_Z6 p0 y1)=true) →((q0_Z6 p0 y1)=(q0_Z6 p0 y1))) ∧((((q0_Z6 p0 y1)=true) →((q0_Z6 p0 y1)=(q0_Z6 p0 y1))) ∧((((q0_Z6 p0 y1)=true) →((q0_Z6 p0 y1)=(q0_Z6 p0 y1))) ∧((((q0_Z6 p0 y1)=true) →((q0_Z6 p0 y1)=(q0_Z6 p0 y1))) ∧(((q0_Z6 p0 y1)=(q0_Z6 p0 y1)) ∧(((decide ((q1_Z6 p0 y1).2.1≤(q1_Z6 p0 y1).2.2))=(decide ((q1_Z6 p0 y1).2.1≤(q1_Z6 p0 y1).2.2))) ∧((lenOk ((s_Z4 (s_Zh (q1_Z6 p0 y1).1 zz1 (20:Int)) zz2) :: ((q3_Z6 p0 y1) :: ((s_Z4 (cond (decide ((q1_Z6 p0 y1).2.1≤(q1_Z6 p0 y1).2.2)) (cond (y1 == zz0) true (decide ((q1_Z6 p0 y1).1 > (p0.getD (Int.toNat (wi (y1 - zz1))) (zz0,(zz0,zz0))).1))) false) (9:Int)) :: ([]:List Int))))) ∧(((((v_first ((s_Z4 (s_Zh (q1_Z6 p0 y1).1 zz1 (20:Int)) zz2) :: ((q3_Z6 p0 y1) :: ((s_Z4 (cond (decide ((q1_Z6 p0 y1).2.1≤(q1_Z6 p0 y1).2.2)) (cond (y1 == zz0) true (decide ((q1_Z6 p0 y1).1 > (p0.getD (Int.toNat (wi (y1 - zz1))) (zz0,(zz0,zz0))).1))) false) (9:Int)) :: ([]:List Int))))) != zz0)=true) →(K (y1,(v_first ((s_Z4 (s_Zh (q1_Z6 p0 y1).1 zz1 (20:Int)) zz2) :: ((q3_Z6 p0 y1) :: ((s_Z4 (cond (decide ((q1_Z6 p0 y1).2.1≤(q1_Z6 p0 y1).2.2)) (cond (y1 == zz0) true (decide ((q1_Z6 p0 y1).1 > (p0.getD (Int.toNat (wi (y1 - zz1))) (zz0,(zz0,zz0))).1))) false) (9:Int)) :: ([]:List Int)))))))) ∧((((v_first ((s_Z4 (s_Zh (q1_Z6 p0 y1).1 zz1 (20:Int)) zz2) :: ((q3_Z6 p0 y1) :: ((s_Z4 (cond (decide ((q1_Z6 p0 y1).2.1≤(q1_Z6 p0 y1).2.2)) (cond (y1 == zz0) true (decide ((q1_Z6 p0 y1).1 > (p0.getD (Int.toNat (wi (y1 - zz1))) (zz0,(zz0,zz0))).1))) false) (9:Int)) :: ([]:List Int))))) != zz0)=false) →(k2 (wi (y1 + zz1)))))))))))))))))))))))))) ∧(((decide (y1 < (p0.length:Int)))=false) →(K (zz0,zz0))))) n0 zz0)))))
theorem w_Z6_eq (p0:gB) (K:(Int×Int)→Prop):tfn F_Z6 A_Z6 C_Z6 P_Z6 R_Z6 p0 K = w_Z6 p0 K := by kernel_rfl
def st_Z6_0 (p0:gB) (y1:Int):Int ⊕ (Int×Int) := (cond (decide (y1 < (p0.length:Int))) (cond ((v_first ((s_Z4 (s_Zh (p0.getD y1.toNat ((0:Int),(0,0))).1 (1:Int) (20:Int)) (2:Int)) :: ((s_Z4 (cond (s_Zh (p0.getD y1.toNat ((0:Int),(0,0))).2.1 (0:Int) (100000:Int)) (s_Zh (p0.getD y1.toNat ((0:Int),(0,0))).2.2 (0:Int) (100000:Int)) false) (2:Int)) :: ((s_Z4 (cond (decide ((p0.getD y1.toNat ((0:Int),(0,0))).2.1≤(p0.getD y1.toNat ((0:Int),(0,0))).2.2)) (cond (y1 == 0) true (decide ((p0.getD y1.toNat ((0:Int),(0,0))).1 > (p0.getD (Int.toNat (IntKind.i64.wrap (y1 - 1))) ((0:Int),(0,0))).1))) false) (9:Int)) :: ([]:List Int))))) != 0) (Sum.inr (y1,(v_first ((s_Z4 (s_Zh (p0.getD y1.toNat ((0:Int),(0,0))).1 (1:Int) (20:Int)) (2:Int)) :: ((s_Z4 (cond (s_Zh (p0.getD y1.toNat ((0:Int),(0,0))).2.1 (0:Int) (100000:Int)) (s_Zh (p0.getD y1.toNat ((0:Int),(0,0))).2.2 (0:Int) (100000:Int)) false) (2:Int)) :: ((s_Z4 (cond (decide ((p0.getD y1.toNat ((0:Int),(0,0))).2.1≤(p0.getD y1.toNat ((0:Int),(0,0))).2.2)) (cond (y1 == 0) true (decide ((p0.getD y1.toNat ((0:Int),(0,0))).1 > (p0.getD (Int.toNat (IntKind.i64.wrap (y1 - 1))) ((0:Int),(0,0))).1))) false) (9:Int)) :: ([]:List Int))))))) (Sum.inl (IntKind.i64.wrap (y1 + 1)))) (Sum.inr (0,0)))
abbrev sp_Z6_0 (p0:gB) (y1:Int):List Prop := [(((decide (y1 < (p0.length:Int)))=true)→((0:Int)≤y1)),(((decide (y1 < (p0.length:Int)))=true)→(y1 < (p0.length:Int))),(((decide (y1 < (p0.length:Int)))=true)→(((y1 == 0)=false)→((0:Int)≤(IntKind.i64.wrap (y1 - 1))))),(((decide (y1 < (p0.length:Int)))=true)→(((y1 == 0)=false)→((IntKind.i64.wrap (y1 - 1)) < (p0.length:Int))))]
def s_Z6 (p0:gB):(Int×Int) := (cond ((v_first ((s_Z4 (decide ((p0.length:Int) > 0)) (10:Int)) :: ((s_Z4 (decide ((p0.length:Int)≤6)) (8:Int)) :: ([]:List Int)))) != 0) ((0:Int),(v_first ((s_Z4 (decide ((p0.length:Int) > 0)) (10:Int)) :: ((s_Z4 (decide ((p0.length:Int)≤6)) (8:Int)) :: ([]:List Int))))) (lpv (0,0) (st_Z6_0 p0) (0:Int)))
abbrev pre_Z6 (p0:gB):List Prop := [((((v_first ((s_Z4 (decide ((p0.length:Int) > 0)) (10:Int)) :: ((s_Z4 (decide ((p0.length:Int)≤6)) (8:Int)) :: ([]:List Int)))) != 0)=false)→(OkL (st_Z6_0 p0) (sp_Z6_0 p0) (0:Int)))]
theorem d_Z6 (p0:gB) (K:(Int×Int)→Prop) (hp:∀ p∈pre_Z6 p0,p) (h:K (s_Z6 p0)):w_Z6 p0 K := by
 unfold w_Z6
 unfold s_Z6 at h
 obtain ⟨hp0,_⟩ := conj_of hp
 exact ⟨(lenOk_of 2 rfl (by decide)),(br' h (fun e0 h => h)
  (fun e0 h => (loop_gen (hp0 e0) h (fun y1 k1 hp h => by
 unfold st_Z6_0 at h; obtain ⟨hp0,hp1,hp2,hp3,_⟩ := conj_of hp
 exact (br' h (fun e2 h => ⟨(hp0 e2),(hp1 e2),rf,rf,rf,rf,(hp2 e2),(hp3 e2),rf,rf,rf,rf,rfl,rf,rf,rf,rf,rfl,rfl,(lenOk_of 3 rfl (by decide)),(br' h (fun e3 h => h)
  (fun e3 h => h))⟩)
  (fun e2 h => h))))))⟩
theorem tx_cdh {n:Int} (h:0≤n):v_first [s_Z4 (decide (n > 0)) 10,s_Z4 (decide (n≤6)) 8]=cond (n == 0) 10 (cond (decide (n > 6)) 8 0) := by
 unfold s_Z4
 rcases int0 n with ⟨h0,_,e0⟩ | ⟨h0,_,e0⟩
 ·subst h0; rfl
 ·rw [e0,decide_eq_true (show n > 0 by omega)]
  rcases dec0 (a := 6) (b := n) with ⟨_,_,_,e1,e2⟩ | ⟨_,_,_,e1,e2⟩ <;> rw [e1,e2] <;> rfl
theorem l_Z6_0 (p0:gB) (hl:lenOk p0):OkL (st_Z6_0 p0) (sp_Z6_0 p0) 0∧lpv ((0,0):Int×Int) (st_Z6_0 p0) 0 = v_scan (v_cd1 p0) ((0,0):Int×Int) 0 p0 := by
 refine scan_is p0 (0,0,0) (v_cd1 p0) ((0,0):Int×Int) hl ?_ ?_
 ·refine ⟨by simp only [sp_Z6_0,fM,decide_eq_true_eq]; simp,by simp [st_Z6_0]⟩
 ·intro j hj
  have hj' : (j:Int) < p0.length := by omega
  have hw := wrap_nat (show (j:Int)≤9223372036854775806 by unfold lenOk at hl; omega)
  have hw2:IntKind.i64.wrap ((j:Int) - 1)=(j:Int) - 1 := wrap_id (by omega) (by unfold lenOk at hl; omega)
  refine ⟨by simp only [sp_Z6_0,fM,decide_eq_true_eq,Int.toNat_natCast]; rw [hw2]; and_intros <;> first | (intro p hp; cases hp; done) | (intros; first | omega | (simp_all; done) | (simp_all; omega)),?_⟩
  simp only [st_Z6_0,hj',decide_true,Int.toNat_natCast,cond_true,hw]
  unfold v_cd1
  rw [hw2]
  rcases int0 (j:Int) with ⟨hj0,_,z⟩ | ⟨hj0,_,z⟩ <;> rw [z]
  ·unfold s_Z4
   simp only [tx_withinG]
   cases decide ((p0.getD j (0,0,0)).2.1≤(p0.getD j (0,0,0)).2.2) <;> cases s_Z3 (p0.getD j (0,0,0)).1 1 20 <;> cases s_Z3 (p0.getD j (0,0,0)).2.1 0 100000 <;> cases s_Z3 (p0.getD j (0,0,0)).2.2 0 100000 <;> rfl
  ·unfold s_Z4
   simp only [tx_withinG]
   cases decide ((p0.getD j (0,0,0)).2.1≤(p0.getD j (0,0,0)).2.2) <;> cases decide ((p0.getD j (0,0,0)).1 > (p0.getD ((j:Int) - 1).toNat (0,0,0)).1) <;> cases s_Z3 (p0.getD j (0,0,0)).1 1 20 <;> cases s_Z3 (p0.getD j (0,0,0)).2.1 0 100000 <;> cases s_Z3 (p0.getD j (0,0,0)).2.2 0 100000 <;> rfl
abbrev t_Z6 (p0:gB):Int×Int := v_cd p0
abbrev qre_Z6 (_p0:gB):List Prop := []
theorem pp_Z6 (p0:gB) (_hq:∀ p∈qre_Z6 p0,p):∀ p∈pre_Z6 p0,p := by
 simp only [pre_Z6,fM]
 refine ⟨fun h => ?_,by simp⟩
 rw [tx_cdh (by omega)] at h
 refine (l_Z6_0 p0 (lenOk_le (n := 6) ?_ (by decide))).1
 cases c:decide ((p0.length:Int) > 6)
 ·have := of_decide_eq_false c; omega
 ·rw [c] at h
  cases c2:((p0.length:Int) == 0) <;> rw [c2] at h <;> cases h
theorem tt_Z6 (p0:gB) (_hq:∀ p∈qre_Z6 p0,p):s_Z6 p0 = t_Z6 p0 := by
 unfold s_Z6 t_Z6 v_cd
 rw [tx_cdh (by omega)]
 cases h:decide ((p0.length:Int) > 6)
 ·rw [(l_Z6_0 p0 (lenOk_le (n := 6) (by have := of_decide_eq_false h; omega) (by decide))).2]
  cases ((p0.length:Int) == 0) <;> rfl
 ·cases ((p0.length:Int) == 0) <;> rfl

abbrev con_Z6:Con := ⟨P_Z6,R_Z6,fun x => qre_Z6 x,fun x => t_Z6 x⟩
theorem ok_Z6:ConOk Tryz.prog 107 con_Z6 := okG k_Z6 e_Z6 hC_Z6 fun x hx => tf_of (w_Z6_eq x _) (d_Z6 x _ (pp_Z6 x hx) (tt_Z6 x hx))
def C_Z1h:Cons := []
theorem hC_Z1h:ConsOk Tryz.prog C_Z1h := ConsOk.nil
def w_Z1h (p0:gG) (p1:(Int×(Int×Int))) (K:Bool→Prop):Prop := (K (decide ((IntKind.i64.wrap ((1000:Int) * p0.1)) < (IntKind.i64.wrap (p1.2.1 * p0.2)))))
theorem w_Z1h_eq (p0:gG) (p1:(Int×(Int×Int))) (K:Bool→Prop):tfn F_Z1h A_Z1h C_Z1h P_Z1h R_Z1h (p0,p1) K = w_Z1h p0 p1 K := by kernel_rfl
def s_Z1h (p0:gG) (p1:(Int×(Int×Int))):Bool := (decide ((IntKind.i64.wrap ((1000:Int) * p0.1)) < (IntKind.i64.wrap (p1.2.1 * p0.2))))
abbrev pre_Z1h (_p0:gG) (_p1:(Int×(Int×Int))):List Prop := []
theorem d_Z1h (p0:gG) (p1:(Int×(Int×Int))) (K:Bool→Prop) (_hp:∀ p∈pre_Z1h p0 p1,p) (h:K (s_Z1h p0 p1)):w_Z1h p0 p1 K := by
 unfold w_Z1h
 unfold s_Z1h at h
 exact h
/-- Whether a datum is valid,and data. -/
structure v_dok (d:Int×Int×Int):Prop where
 s:v_sok d.1
 lo:0≤d.2.1
 le:d.2.1≤d.2.2
 hi:d.2.2≤100000
structure v_dat (l:gB):Prop where
 len:l.length≤6
 ok:∀ x∈l,v_dok x
theorem tx_cd_ok {l:List (Int×Int×Int)} (h:(v_cd l).2 = 0):v_dat l∧l ≠ [] := by
 unfold v_cd at h
 rcases int0 (l.length:Int) with ⟨_,_,e0⟩ | ⟨h0,_,e0⟩
 ·rw [e0] at h; cases h
 rw [e0] at h
 rcases dec0 (a := 6) (b := (l.length:Int)) with ⟨_,_,_,_,e1⟩ | ⟨h1,_,_,_,e1⟩
 ·rw [e1] at h; cases h
 rw [e1] at h
 simp only [cond_false] at h
 have key := v_scan_end (f := v_cd1 l) (e := ((0,0):Int×Int)) (P := fun (r:gG) => r.2 = 0) l 0 h (fun j x v _ hv hv0 => by
  unfold v_cd1 at hv
  cases c1:cond (s_Z3 x.1 1 20) (cond (s_Z3 x.2.1 0 100000) (s_Z3 x.2.2 0 100000) false) false <;> rw [c1] at hv
  ·simp only [cond_false,sJ] at hv; subst hv; cases hv0
  ·cases c2:cond (decide (x.2.1≤x.2.2)) (cond (j == 0) true (decide (x.1 > (l.getD (j - 1).toNat (0,0,0)).1))) false <;> rw [c2] at hv
   ·simp only [cond_true,cond_false,sJ] at hv; subst hv; cases hv0
   ·cases hv)
 refine ⟨⟨by omega,fun x hx => ?_⟩,by rintro rfl; exact h0 rfl⟩
 obtain ⟨k,hk,rfl⟩ := List.getElem_of_mem hx
 have h := key k hk
 unfold v_cd1 at h
 cases c1:cond (s_Z3 l[k].1 1 20) (cond (s_Z3 l[k].2.1 0 100000) (s_Z3 l[k].2.2 0 100000) false) false <;> rw [c1] at h
 ·cases h
 ·cases c2:cond (decide (l[k].2.1≤l[k].2.2)) (cond (0 + (k:Int) == 0) true (decide (l[k].1 > (l.getD (0 + (k:Int) - 1).toNat (0,0,0)).1))) false <;> rw [c2] at h
  ·cases h
  ·have c1' : s_Z3 l[k].1 1 20 = true∧s_Z3 l[k].2.1 0 100000 = true∧s_Z3 l[k].2.2 0 100000 = true := by
    cases g1:s_Z3 l[k].1 1 20 <;> cases g2:s_Z3 l[k].2.1 0 100000 <;> cases g3:s_Z3 l[k].2.2 0 100000 <;> simp_all
   have c2' : l[k].2.1≤l[k].2.2 := by
    cases g:decide (l[k].2.1≤l[k].2.2)
    ·rw [g] at c2; cases c2
    ·exact of_decide_eq_true g
   exact ⟨tx_within.1 c1'.1,(tx_within.1 c1'.2.1).1,c2',(tx_within.1 c1'.2.2).2⟩
/-- A response of a valid model. -/
structure v_rsm (f:gG):Prop where
 d:0 < f.2∧f.2≤512000000
 n:0 < f.1∧f.1≤20 * f.2
theorem v_rsm_of {l:List (Int×Int)} {s:Int} (h:v_mok l) (hs:v_sok s):v_rsm (v_frac (v_resp s l)) := by
 have := v_resp_small hs h
 exact ⟨by omega,by omega⟩
def v_below (p0:gG) (p1:Int×Int×Int):Bool := decide (1000 * p0.1 < p1.2.1 * p0.2)
abbrev t_Z1h (p0:gG) (p1:Int×Int×Int):Bool := v_below p0 p1
abbrev qre_Z1h (p0:gG) (p1:Int×Int×Int):List Prop := [v_rsm p0,v_dok p1]
theorem pp_Z1h (p0:gG) (p1:Int×Int×Int) (_hq:∀ p∈qre_Z1h p0 p1,p):∀ p∈pre_Z1h p0 p1,p := by
 simp [pre_Z1h]
theorem tt_Z1h (p0:gG) (p1:Int×Int×Int) (hq:∀ p∈qre_Z1h p0 p1,p):s_Z1h p0 p1 = t_Z1h p0 p1 := by
 obtain ⟨h1,h2,_⟩ := conj_of hq
 have hd := h1.d
 have hn := h1.n
 have ha := h2.lo
 have hb := h2.le
 have hc := h2.hi
 unfold s_Z1h t_Z1h v_below
 have m := mul_in (x := p1.2.1) (y := p0.2) (by omega) (show p1.2.1≤100000 by omega) (by omega) hd.2
 rw [wrap_id (n := 1000 * p0.1) (by omega) (by omega),wrap_id (n := p1.2.1 * p0.2) (by omega) (by omega)]

abbrev con_Z1h:Con := ⟨P_Z1h,R_Z1h,fun x => qre_Z1h x.1 x.2,fun x => t_Z1h x.1 x.2⟩
theorem ok_Z1h:ConOk Tryz.prog 133 con_Z1h := okG k_Z1h e_Z1h hC_Z1h fun x hx => tf_of (w_Z1h_eq x.1 x.2 _) (d_Z1h x.1 x.2 _ (pp_Z1h x.1 x.2 hx) (tt_Z1h x.1 x.2 hx))
def C_Z1i:Cons := []
theorem hC_Z1i:ConsOk Tryz.prog C_Z1i := ConsOk.nil
def w_Z1i (p0:gG) (p1:(Int×(Int×Int))) (K:Bool→Prop):Prop := (K (decide ((IntKind.i64.wrap ((1000:Int) * p0.1)) > (IntKind.i64.wrap (p1.2.2 * p0.2)))))
theorem w_Z1i_eq (p0:gG) (p1:(Int×(Int×Int))) (K:Bool→Prop):tfn F_Z1i A_Z1i C_Z1i P_Z1i R_Z1i (p0,p1) K = w_Z1i p0 p1 K := by kernel_rfl
def s_Z1i (p0:gG) (p1:(Int×(Int×Int))):Bool := (decide ((IntKind.i64.wrap ((1000:Int) * p0.1)) > (IntKind.i64.wrap (p1.2.2 * p0.2))))
abbrev pre_Z1i (_p0:gG) (_p1:(Int×(Int×Int))):List Prop := []
theorem d_Z1i (p0:gG) (p1:(Int×(Int×Int))) (K:Bool→Prop) (_hp:∀ p∈pre_Z1i p0 p1,p) (h:K (s_Z1i p0 p1)):w_Z1i p0 p1 K := by
 unfold w_Z1i
 unfold s_Z1i at h
 exact h
def v_beyond (p0:gG) (p1:Int×Int×Int):Bool := decide (1000 * p0.1 > p1.2.2 * p0.2)
abbrev t_Z1i (p0:gG) (p1:Int×Int×Int):Bool := v_beyond p0 p1
abbrev qre_Z1i (p0:gG) (p1:Int×Int×Int):List Prop := [v_rsm p0,v_dok p1]
theorem pp_Z1i (p0:gG) (p1:Int×Int×Int) (_hq:∀ p∈qre_Z1i p0 p1,p):∀ p∈pre_Z1i p0 p1,p := by
 simp [pre_Z1i]
theorem tt_Z1i (p0:gG) (p1:Int×Int×Int) (hq:∀ p∈qre_Z1i p0 p1,p):s_Z1i p0 p1 = t_Z1i p0 p1 := by
 obtain ⟨h1,h2,_⟩ := conj_of hq
 have hd := h1.d
 have hn := h1.n
 have ha := h2.lo
 have hb := h2.le
 have hc := h2.hi
 unfold s_Z1i t_Z1i v_beyond
 have m := mul_in (x := p1.2.2) (y := p0.2) (by omega) (show p1.2.2≤100000 by omega) (by omega) hd.2
 rw [wrap_id (n := 1000 * p0.1) (by omega) (by omega),wrap_id (n := p1.2.2 * p0.2) (by omega) (by omega)]

abbrev con_Z1i:Con := ⟨P_Z1i,R_Z1i,fun x => qre_Z1i x.1 x.2,fun x => t_Z1i x.1 x.2⟩
theorem ok_Z1i:ConOk Tryz.prog 134 con_Z1i := okG k_Z1i e_Z1i hC_Z1i fun x hx => tf_of (w_Z1i_eq x.1 x.2 _) (d_Z1i x.1 x.2 _ (pp_Z1i x.1 x.2 hx) (tt_Z1i x.1 x.2 hx))
def C_Z1q:Cons := [(82,[],con_Zq),(133,[],con_Z1h),(134,[],con_Z1i)]
theorem hC_Z1q:ConsOk Tryz.prog C_Z1q := cC ok_Zq <| cC ok_Z1h <| cC ok_Z1i <| ConsOk.nil
def w_Z1q (p0:gC) (p1:(Int×(Int×Int))) (K:Bool→Prop):Prop := ((v_mok p0) ∧((v_sok p1.1) ∧((v_rsm (v_frac (v_resp p1.1 p0))) ∧((v_dok p1) ∧((((!(v_below (v_frac (v_resp p1.1 p0)) p1))=true) →((!(v_below (v_frac (v_resp p1.1 p0)) p1))=(!(v_below (v_frac (v_resp p1.1 p0)) p1)))) ∧((((!(v_below (v_frac (v_resp p1.1 p0)) p1))=true) →((!(v_below (v_frac (v_resp p1.1 p0)) p1))=(!(v_below (v_frac (v_resp p1.1 p0)) p1)))) ∧((((!(v_below (v_frac (v_resp p1.1 p0)) p1))=true) →(v_rsm (v_frac (v_resp p1.1 p0)))) ∧((((!(v_below (v_frac (v_resp p1.1 p0)) p1))=true) →(v_dok p1)) ∧((((!(v_below (v_frac (v_resp p1.1 p0)) p1))=true) →((!(v_below (v_frac (v_resp p1.1 p0)) p1))=(!(v_below (v_frac (v_resp p1.1 p0)) p1)))) ∧(((!(v_below (v_frac (v_resp p1.1 p0)) p1))=(!(v_below (v_frac (v_resp p1.1 p0)) p1))) ∧(K (cond (!(v_below (v_frac (v_resp p1.1 p0)) p1)) (!(v_beyond (v_frac (v_resp p1.1 p0)) p1)) false))))))))))))
theorem w_Z1q_eq (p0:gC) (p1:(Int×(Int×Int))) (K:Bool→Prop):tfn F_Z1q A_Z1q C_Z1q P_Z1q R_Z1q (p0,p1) K = w_Z1q p0 p1 K := by kernel_rfl
def s_Z1q (p0:gC) (p1:(Int×(Int×Int))):Bool := (cond (!(v_below (v_frac (v_resp p1.1 p0)) p1)) (!(v_beyond (v_frac (v_resp p1.1 p0)) p1)) false)
abbrev pre_Z1q (p0:gC) (p1:(Int×(Int×Int))):List Prop := [(v_mok p0),(v_sok p1.1),(v_rsm (v_frac (v_resp p1.1 p0))),(v_dok p1),(((!(v_below (v_frac (v_resp p1.1 p0)) p1))=true)→(v_rsm (v_frac (v_resp p1.1 p0)))),(((!(v_below (v_frac (v_resp p1.1 p0)) p1))=true)→(v_dok p1))]
theorem d_Z1q (p0:gC) (p1:(Int×(Int×Int))) (K:Bool→Prop) (hp:∀ p∈pre_Z1q p0 p1,p) (h:K (s_Z1q p0 p1)):w_Z1q p0 p1 K := by
 unfold w_Z1q
 unfold s_Z1q at h
 obtain ⟨hp0,hp1,hp2,hp3,hp4,hp5,_⟩ := conj_of hp
 exact ⟨(hp0),(hp1),(hp2),(hp3),rf,rf,(hp4),(hp5),rf,rfl,h⟩
/-- Whether a model explains a datum; data. -/
def v_ex (l:gC) (d:Int×Int×Int):Bool := cond (!(v_below (v_frac (v_resp d.1 l)) d)) (!(v_beyond (v_frac (v_resp d.1 l)) d)) false
def v_exAll (m:gC) (l:gB):Bool := l.all (v_ex m)
def v_exAny (m:gC) (l:gB):Bool := l.any fun d => !(v_ex m d)
def v_exIdx (m:gC) (l:gB):Int := v_scan (fun i x => cond (!(v_ex m x)) (some i) none) (-1) 0 l
abbrev t_Z1q (p0:gC) (p1:Int×Int×Int):Bool := v_ex p0 p1
abbrev qre_Z1q (p0:gC) (p1:Int×Int×Int):List Prop := [v_mok p0,v_dok p1]
theorem pp_Z1q (p0:gC) (p1:Int×Int×Int) (hq:∀ p∈qre_Z1q p0 p1,p):∀ p∈pre_Z1q p0 p1,p := by
 obtain ⟨h1,h2,_⟩ := conj_of hq
 simp only [pre_Z1q,fM]
 and_intros
 all_goals first | (intro p hp; cases hp; done) | exact h1 | exact h2.s.1 | exact h2.s.2 | exact h2 | exact v_rsm_of h1 h2.s | (intros; first | exact h2 | exact v_rsm_of h1 h2.s)
theorem tt_Z1q (p0:gC) (p1:Int×Int×Int) (_hq:∀ p∈qre_Z1q p0 p1,p):s_Z1q p0 p1 = t_Z1q p0 p1 := by
 rfl

abbrev con_Z1q:Con := ⟨P_Z1q,R_Z1q,fun x => qre_Z1q x.1 x.2,fun x => t_Z1q x.1 x.2⟩
theorem ok_Z1q:ConOk Tryz.prog 110 con_Z1q := okG k_Z1q e_Z1q hC_Z1q fun x hx => tf_of (w_Z1q_eq x.1 x.2 _) (d_Z1q x.1 x.2 _ (pp_Z1q x.1 x.2 hx) (tt_Z1q x.1 x.2 hx))
def C_Z23:Cons := [(110,[],con_Z1q)]
theorem hC_Z23:ConsOk Tryz.prog C_Z23 := cC ok_Z1q <| ConsOk.nil
def w_Z23 (p0:(Int×(Int×Int))) (p1:gC) (K:Bool→Prop):Prop := ((v_mok p1) ∧((v_dok p0) ∧(K (!(v_ex p1 p0)))))
theorem w_Z23_eq (p0:(Int×(Int×Int))) (p1:gC) (K:Bool→Prop):tfn F_Z23 A_Z23 C_Z23 P_Z23 R_Z23 (p0,p1) K = w_Z23 p0 p1 K := by kernel_rfl
def s_Z23 (p0:(Int×(Int×Int))) (p1:gC):Bool := (!(v_ex p1 p0))
abbrev pre_Z23 (p0:(Int×(Int×Int))) (p1:gC):List Prop := [(v_mok p1),(v_dok p0)]
theorem d_Z23 (p0:(Int×(Int×Int))) (p1:gC) (K:Bool→Prop) (hp:∀ p∈pre_Z23 p0 p1,p) (h:K (s_Z23 p0 p1)):w_Z23 p0 p1 K := by
 unfold w_Z23
 unfold s_Z23 at h
 obtain ⟨hp0,hp1,_⟩ := conj_of hp
 exact ⟨(hp0),(hp1),h⟩
abbrev con_Z23:Con := ⟨P_Z23,R_Z23,fun x => pre_Z23 x.1 x.2,fun x => s_Z23 x.1 x.2⟩
theorem ok_Z23:ConOk Tryz.prog 109 con_Z23 := okG k_Z23 e_Z23 hC_Z23 fun x hx => tf_of (w_Z23_eq x.1 x.2 _) (d_Z23 x.1 x.2 _ hx rfl)
def C_Z12:Cons := [(109,[],con_Z23)]
theorem hC_Z12:ConsOk Tryz.prog C_Z12 := cC ok_Z23 <| ConsOk.nil
def w_Z12 (p0:gB) (p1:((List (Int×Int))×PUnit)) (K:Int→Prop):Prop := (∃ n0,(loopP (fun (y1:Int) k2 => ((((decide (y1 < (p0.length:Int)))=true) →((zz0≤y1) ∧((y1 < (p0.length:Int)) ∧((v_mok p1.1) ∧((v_dok (p0.getD y1.toNat (zz0,(zz0,zz0)))) ∧((((!(v_ex p1.1 (p0.getD y1.toNat (zz0,(zz0,zz0)))))=true) →(K y1)) ∧(((!(v_ex p1.1 (p0.getD y1.toNat (zz0,(zz0,zz0)))))=false) →(k2 (IntKind.i64.wrap (y1 + 1)))))))))) ∧(((decide (y1 < (p0.length:Int)))=false) →(K (-1:Int))))) n0 zz0))
theorem w_Z12_eq (p0:gB) (p1:((List (Int×Int))×PUnit)) (K:Int→Prop):tfn F_Z12 A_Z12 C_Z12 P_Z12 R_Z12 (p0,p1) K = w_Z12 p0 p1 K := by kernel_rfl
def st_Z12_0 (p0:gB) (p1:((List (Int×Int))×PUnit)) (y0:Int):Int ⊕ Int := (cond (decide (y0 < (p0.length:Int))) (cond (!(v_ex p1.1 (p0.getD y0.toNat ((0:Int),(0,0))))) (Sum.inr y0) (Sum.inl (IntKind.i64.wrap (y0 + 1)))) (Sum.inr (-1:Int)))
abbrev sp_Z12_0 (p0:gB) (p1:((List (Int×Int))×PUnit)) (y0:Int):List Prop := [(((decide (y0 < (p0.length:Int)))=true)→((0:Int)≤y0)),(((decide (y0 < (p0.length:Int)))=true)→(y0 < (p0.length:Int))),(((decide (y0 < (p0.length:Int)))=true)→(v_mok p1.1)),(((decide (y0 < (p0.length:Int)))=true)→(v_dok (p0.getD y0.toNat ((0:Int),(0,0)))))]
def s_Z12 (p0:gB) (p1:((List (Int×Int))×PUnit)):Int := (lpv (0:Int) (st_Z12_0 p0 p1) (0:Int))
abbrev pre_Z12 (p0:gB) (p1:((List (Int×Int))×PUnit)):List Prop := [(OkL (st_Z12_0 p0 p1) (sp_Z12_0 p0 p1) (0:Int))]
theorem d_Z12 (p0:gB) (p1:((List (Int×Int))×PUnit)) (K:Int→Prop) (hp:∀ p∈pre_Z12 p0 p1,p) (h:K (s_Z12 p0 p1)):w_Z12 p0 p1 K := by
 unfold w_Z12
 unfold s_Z12 at h
 obtain ⟨hp0,_⟩ := conj_of hp
 exact (loop_gen (hp0) h (fun y0 k0 hp h => by
 unfold st_Z12_0 at h; obtain ⟨hp0,hp1,hp2,hp3,_⟩ := conj_of hp
 exact (br' h (fun e1 h => ⟨(hp0 e1),(hp1 e1),(hp2 e1),(hp3 e1),(br' h (fun e2 h => h)
  (fun e2 h => h))⟩)
  (fun e1 h => h))))
theorem l_Z12_0 (p0:gB) (p1:(List (Int×Int))×PUnit) (hl:lenOk p0) (h1:v_mok p1.1) (h2:v_dat p0):OkL (st_Z12_0 p0 p1) (sp_Z12_0 p0 p1) 0∧lpv (0:Int) (st_Z12_0 p0 p1) 0 = v_scan (fun i x => cond (!(v_ex p1.1 x)) (some i) none) (-1:Int) 0 p0 := by
 refine scan_is p0 (0,0,0) (fun i x => cond (!(v_ex p1.1 x)) (some i) none) (-1:Int) hl ?_ ?_
 ·refine ⟨by simp only [sp_Z12_0,fM,decide_eq_true_eq]; simp,by simp [st_Z12_0]⟩
 ·intro j hj
  have hj' : (j:Int) < p0.length := by omega
  have hw := wrap_nat (show (j:Int)≤9223372036854775806 by unfold lenOk at hl; omega)
  have hd := h2.ok _ (getD_mem' (0,0,0) hj)
  refine ⟨by simp only [sp_Z12_0,fM,decide_eq_true_eq,Int.toNat_natCast]; and_intros <;> first | (intro p hp; cases hp; done) | (intros; first | omega | assumption),?_⟩
  simp only [st_Z12_0,hj',decide_true,Int.toNat_natCast,cond_true,hw]
  cases v_ex p1.1 (p0.getD j (0,0,0)) <;> rfl
abbrev t_Z12 (p0:gB) (p1:(List (Int×Int))×PUnit):Int := v_exIdx p1.1 p0
abbrev qre_Z12 (p0:gB) (p1:(List (Int×Int))×PUnit):List Prop := [v_mok p1.1,v_dat p0]
theorem pp_Z12 (p0:gB) (p1:(List (Int×Int))×PUnit) (hq:∀ p∈qre_Z12 p0 p1,p):∀ p∈pre_Z12 p0 p1,p := by
 obtain ⟨h1,h2,_⟩ := conj_of hq
 simp only [pre_Z12,fM]
 exact ⟨(l_Z12_0 p0 p1 (lenOk_le h2.len (by decide)) h1 h2).1,by simp⟩
theorem tt_Z12 (p0:gB) (p1:(List (Int×Int))×PUnit) (hq:∀ p∈qre_Z12 p0 p1,p):s_Z12 p0 p1 = t_Z12 p0 p1 := by
 obtain ⟨h1,h2,_⟩ := conj_of hq
 exact (l_Z12_0 p0 p1 (lenOk_le h2.len (by decide)) h1 h2).2

abbrev con_Z12:Con := ⟨P_Z12,R_Z12,fun x => qre_Z12 x.1 x.2,fun x => t_Z12 x.1 x.2⟩
theorem ok_Z12:ConOk Tryz.prog 132 con_Z12 := okG k_Z12 e_Z12 hC_Z12 fun x hx => tf_of (w_Z12_eq x.1 x.2 _) (d_Z12 x.1 x.2 _ (pp_Z12 x.1 x.2 hx) (tt_Z12 x.1 x.2 hx))
def C_Z1p:Cons := [(132,[109],con_Z12)]
theorem hC_Z1p:ConsOk Tryz.prog C_Z1p := cC ok_Z12 <| ConsOk.nil
def w_Z1p (p0:gB) (p1:((List (Int×Int))×PUnit)) (K:Bool→Prop):Prop := ((v_mok p1.1) ∧((v_dat p0) ∧(K (decide ((v_exIdx p1.1 p0) ≥ 0)))))
theorem w_Z1p_eq (p0:gB) (p1:((List (Int×Int))×PUnit)) (K:Bool→Prop):tfn F_Z1p A_Z1p C_Z1p P_Z1p R_Z1p (p0,p1) K = w_Z1p p0 p1 K := by kernel_rfl
def s_Z1p (p0:gB) (p1:((List (Int×Int))×PUnit)):Bool := (decide ((v_exIdx p1.1 p0) ≥ 0))
abbrev pre_Z1p (p0:gB) (p1:((List (Int×Int))×PUnit)):List Prop := [(v_mok p1.1),(v_dat p0)]
theorem d_Z1p (p0:gB) (p1:((List (Int×Int))×PUnit)) (K:Bool→Prop) (hp:∀ p∈pre_Z1p p0 p1,p) (h:K (s_Z1p p0 p1)):w_Z1p p0 p1 K := by
 unfold w_Z1p
 unfold s_Z1p at h
 obtain ⟨hp0,hp1,_⟩ := conj_of hp
 exact ⟨(hp0),(hp1),h⟩
abbrev t_Z1p (p0:gB) (p1:(List (Int×Int))×PUnit):Bool := v_exAny p1.1 p0
abbrev qre_Z1p (p0:gB) (p1:(List (Int×Int))×PUnit):List Prop := [v_mok p1.1,v_dat p0]
theorem pp_Z1p (p0:gB) (p1:(List (Int×Int))×PUnit) (hq:∀ p∈qre_Z1p p0 p1,p):∀ p∈pre_Z1p p0 p1,p := by
 simpa only [pre_Z1p] using hq
theorem tt_Z1p (p0:gB) (p1:(List (Int×Int))×PUnit) (_hq:∀ p∈qre_Z1p p0 p1,p):s_Z1p p0 p1 = t_Z1p p0 p1 := by
 exact v_scan_idx p0 0 (Int.le_refl 0)

abbrev con_Z1p:Con := ⟨P_Z1p,R_Z1p,fun x => qre_Z1p x.1 x.2,fun x => t_Z1p x.1 x.2⟩
theorem ok_Z1p:ConOk Tryz.prog 108 con_Z1p := okG k_Z1p e_Z1p hC_Z1p fun x hx => tf_of (w_Z1p_eq x.1 x.2 _) (d_Z1p x.1 x.2 _ (pp_Z1p x.1 x.2 hx) (tt_Z1p x.1 x.2 hx))
def C_Z1f:Cons := [(108,[109],con_Z1p)]
theorem hC_Z1f:ConsOk Tryz.prog C_Z1f := cC ok_Z1p <| ConsOk.nil
def w_Z1f (p0:gC) (p1:gB) (K:Bool→Prop):Prop := ((v_mok p0) ∧((v_dat p1) ∧(K (!(v_exAny p0 p1)))))
theorem w_Z1f_eq (p0:gC) (p1:gB) (K:Bool→Prop):tfn F_Z1f A_Z1f C_Z1f P_Z1f R_Z1f (p0,p1) K = w_Z1f p0 p1 K := by kernel_rfl
def s_Z1f (p0:gC) (p1:gB):Bool := (!(v_exAny p0 p1))
abbrev pre_Z1f (p0:gC) (p1:gB):List Prop := [(v_mok p0),(v_dat p1)]
theorem d_Z1f (p0:gC) (p1:gB) (K:Bool→Prop) (hp:∀ p∈pre_Z1f p0 p1,p) (h:K (s_Z1f p0 p1)):w_Z1f p0 p1 K := by
 unfold w_Z1f
 unfold s_Z1f at h
 obtain ⟨hp0,hp1,_⟩ := conj_of hp
 exact ⟨(hp0),(hp1),h⟩
abbrev t_Z1f (p0:gC) (p1:gB):Bool := v_exAll p0 p1
abbrev qre_Z1f (p0:gC) (p1:gB):List Prop := [v_mok p0,v_dat p1]
theorem pp_Z1f (p0:gC) (p1:gB) (hq:∀ p∈qre_Z1f p0 p1,p):∀ p∈pre_Z1f p0 p1,p := by
 simpa only [pre_Z1f] using hq
theorem tt_Z1f (p0:gC) (p1:gB) (_hq:∀ p∈qre_Z1f p0 p1,p):s_Z1f p0 p1 = t_Z1f p0 p1 := by
 unfold s_Z1f t_Z1f v_exAll v_exAny
 simp [List.not_any_eq_all_not]

abbrev con_Z1f:Con := ⟨P_Z1f,R_Z1f,fun x => qre_Z1f x.1 x.2,fun x => t_Z1f x.1 x.2⟩
theorem ok_Z1f:ConOk Tryz.prog 86 con_Z1f := okG k_Z1f e_Z1f hC_Z1f fun x hx => tf_of (w_Z1f_eq x.1 x.2 _) (d_Z1f x.1 x.2 _ (pp_Z1f x.1 x.2 hx) (tt_Z1f x.1 x.2 hx))
def C_Zl:Cons := [(1000000063,itMark,con_Z2l),(86,[],con_Z1f)]
theorem hC_Zl:ConsOk Tryz.prog C_Zl := ConsOk.consI ok_Z2l <| cC ok_Z1f <| ConsOk.nil
def w_Zl (p0:gA) (p1:gB) (K:(List Int)→Prop):Prop := ((v_cne p0) ∧(((v_count p0)≤300) ∧(RngP (fun (y0:gF) (z1:(Int×(List (Int×Int)))) k2 => ((v_mok z1.2) ∧((v_dat p1) ∧((((v_exAll z1.2 p1)=true) →((((y0.length + (List.length (z1.1 :: ([]:List Int)))) * 8)≤140737488355328) ∧(k2 (y0 ++ (z1.1 :: ([]:List Int)))))) ∧(((v_exAll z1.2 p1)=false) →(k2 y0)))))) (fun (s3:gF) => (K s3)) (v_mdls p0) ([]:List Int))))
theorem w_Zl_eq (p0:gA) (p1:gB) (K:(List Int)→Prop):tfn F_Zl A_Zl C_Zl P_Zl R_Zl (p0,p1) K = w_Zl p0 p1 K := by kernel_rfl
def st_Zl_0 (_p0:gA) (p1:gB) (y0:gF) (z0:(Int×(List (Int×Int)))):(List Int) ⊕ (List Int) := (cond (v_exAll z0.2 p1) (Sum.inl (y0 ++ (z0.1 :: ([]:List Int)))) (Sum.inl y0))
abbrev sp_Zl_0 (_p0:gA) (p1:gB) (y0:gF) (z0:(Int×(List (Int×Int)))):List Prop := [(v_mok z0.2),(v_dat p1),(((v_exAll z0.2 p1)=true)→(((y0.length + (List.length (z0.1 :: ([]:List Int)))) * 8)≤140737488355328))]
def sf_Zl_0 (_p0:gA) (_p1:gB) (s0:gF):(List Int) := s0
abbrev sq_Zl_0 (_p0:gA) (_p1:gB) (_s0:gF):List Prop := []
def s_Zl (p0:gA) (p1:gB):(List Int) := (rngV (st_Zl_0 p0 p1) (sf_Zl_0 p0 p1) (v_mdls p0) ([]:List Int))
abbrev pre_Zl (p0:gA) (p1:gB):List Prop := [(v_cne p0),((v_count p0)≤300),(OkR (st_Zl_0 p0 p1) (sp_Zl_0 p0 p1) (sq_Zl_0 p0 p1) (v_mdls p0) ([]:List Int))]
theorem d_Zl (p0:gA) (p1:gB) (K:(List Int)→Prop) (hp:∀ p∈pre_Zl p0 p1,p) (h:K (s_Zl p0 p1)):w_Zl p0 p1 K := by
 unfold w_Zl
 unfold s_Zl at h
 obtain ⟨hp0,hp1,hp2,_⟩ := conj_of hp
 exact ⟨(hp0),(hp1),(rng_gen (hp2) h (fun y0 z0 k0 hp h => by
 unfold st_Zl_0 at h; obtain ⟨hp0,hp1,hp2,_⟩ := conj_of hp
 exact ⟨(hp0),(hp1),(br' h (fun e1 h => ⟨(hp2 e1),h⟩)
  (fun e1 h => h))⟩) (fun s0 hp h => by
 unfold sf_Zl_0 at h
 exact h))⟩
theorem v_dig {n a:Int} (hn:0 < n) (_ha:0≤a):0≤a % n∧(a % n).toNat < n.toNat := by
 have m1 := Int.emod_nonneg a (show n ≠ 0 by omega)
 have m2 := Int.emod_lt_of_pos a hn
 omega
/-- A model of a valid class is valid. -/
theorem v_mod_ok:∀ (l:gA) (k:Int),0≤k→(∀ a x r,l = a ++ x :: r→v_clay (r = []) x)→(∀ y∈(v_mod l k).2,v_lok y)∧(∀ a y,(v_mod l k).2 = a ++ [y]→y.2 = 0)
 | [],k,_,_ => ⟨fun y hy => (by cases hy),fun a y e => (by cases a <;> simp [v_mod] at e)⟩
 | x :: r,k,hk,hl => by
  obtain ⟨i1,i2⟩ := v_mod_ok r k hk (fun a y s e => hl (x :: a) y s (by rw [e]; rfl))
  have hx := hl [] x r rfl
  have n1 := hx.n1
  have n2 := hx.n2
  have hq := (v_mod_nn r k hk).1
  have d2 := v_dig (n := (x.2.length:Int)) (a := (v_mod r k).1) (by omega) hq
  have d1 := v_dig (n := (x.1.length:Int)) (a := (v_mod r k).1 / (x.2.length:Int)) (by omega) (Int.ediv_nonneg hq (by omega))
  have e:(v_mod (x :: r) k).2 = (x.1.getD ((v_mod r k).1 / (x.2.length:Int) % (x.1.length:Int)).toNat 0,x.2.getD ((v_mod r k).1 % (x.2.length:Int)).toNat 0) :: (v_mod r k).2 := rfl
  rw [e]
  have c1 := hx.c.mem _ (v_getD_mem (d := 0) (show ((v_mod r k).1 / (x.2.length:Int) % (x.1.length:Int)).toNat < x.1.length by omega))
  have c2 := hx.t.mem _ (v_getD_mem (d := 0) (show ((v_mod r k).1 % (x.2.length:Int)).toNat < x.2.length by omega))
  refine ⟨fun y hy => ?_,fun a y e2 => ?_⟩
  ·rcases List.mem_cons.1 hy with rfl | hy
   ·exact ⟨c1,c2⟩
   ·exact i1 y hy
  ·cases a with
   | nil =>
    simp only [List.nil_append,List.cons.injEq] at e2
    obtain ⟨rfl,e3⟩ := e2
    have hr:r = [] := List.eq_nil_of_length_eq_zero (by rw [← v_mod_len r k,e3]; rfl)
    have z := hx.z hr
    have d3 := d2.2
    rw [z] at d3
    have:((v_mod r k).1 % (x.2.length:Int)).toNat = 0 := by rw [z]; simp
    show x.2.getD ((v_mod r k).1 % (x.2.length:Int)).toNat 0 = 0
    rw [this,z]; rfl
   | cons b a =>
    simp only [List.cons_append,List.cons.injEq] at e2
    exact i2 a y e2.2
theorem v_mdl_mok {l:List (List Int×List Int)} (h:v_clok l) {k:Int} (hk:0≤k):v_mok (v_mdl l k) := by
 obtain ⟨h1,h2⟩ := v_mod_ok l k hk h.lay
 refine ⟨fun e => h.ne (List.eq_nil_of_length_eq_zero (by rw [← v_mod_len l k]; exact (congrArg List.length e).trans rfl)),by unfold v_mdl; rw [v_mod_len]; exact h.cne.len,h1,h2⟩
theorem v_mdls_drop {l:List (List Int×List Int)} {j:Nat} (hj:j < (v_count l).toNat):(v_mdls l).drop j = ((j:Int),v_mdl l (j:Int)) :: (v_mdls l).drop (j + 1) := by
 have hlm:(v_mdls l).length = (v_count l).toNat := by unfold v_mdls; simp
 rw [drop_getD (0,[]) (by omega)]
 congr 1
 unfold v_mdls
 rw [List.getD_eq_getElem?_getD,List.getElem?_map,List.getElem?_range hj]; rfl
theorem v_mdls_mok {l:List (List Int×List Int)} (h:v_clok l) {z:Int×List (Int×Int)} (hz:z∈v_mdls l):v_mok z.2 := by
 unfold v_mdls at hz
 obtain ⟨k,_,rfl⟩ := List.mem_map.1 hz
 exact v_mdl_mok h (k := (k:Int)) (by omega)
theorem v_mdls_len (l:gA):(v_mdls l).length = (v_count l).toNat := by unfold v_mdls; simp
/-- The numbers of all models that explain data. -/
def v_expn (d:gB):List (Int×List (Int×Int))→List Int
 | [] => []
 | z :: r => cond (v_exAll z.2 d) (z.1 :: v_expn d r) (v_expn d r)
theorem l_Zl_0 (p0:gA) (p1:gB) (hd:v_dat p1):∀ (zs:List (Int×List (Int×Int))) (out:gF),(∀ z∈zs,v_mok z.2)→out.length + zs.length≤300→OkR (st_Zl_0 p0 p1) (sp_Zl_0 p0 p1) (sq_Zl_0 p0 p1) zs out∧rngV (st_Zl_0 p0 p1) (sf_Zl_0 p0 p1) zs out = out ++ v_expn p1 zs
 | [],out,_,_ => ⟨(by intro p hp; cases hp),(List.append_nil out).symm⟩
 | z :: r,out,h,hl => by
  rw [List.length_cons] at hl
  have hz := h z (by simp)
  have hr:∀ y∈r,v_mok y.2 := fun y hy => h y (List.mem_cons_of_mem _ hy)
  have sp:∀ p∈sp_Zl_0 p0 p1 out z,p := by
   simp only [sp_Zl_0,fM]
   exact ⟨hz,hd,fun _ => by simp only [List.length_cons,List.length_nil]; omega,(by intro p hp; cases hp)⟩
  have e1:v_expn p1 (z :: r)=cond (v_exAll z.2 p1) (z.1 :: v_expn p1 r) (v_expn p1 r) := rfl
  have e2:st_Zl_0 p0 p1 out z = cond (v_exAll z.2 p1) (Sum.inl (out ++ [z.1])) (Sum.inl out) := rfl
  rw [e1]
  unfold OkR rngV
  rw [e2]
  cases v_exAll z.2 p1
  ·obtain ⟨h1,h2⟩ := l_Zl_0 p0 p1 hd r out hr (by omega)
   exact ⟨⟨sp,h1⟩,h2⟩
  ·obtain ⟨h1,h2⟩ := l_Zl_0 p0 p1 hd r (out ++ [z.1]) hr (by rw [List.length_append,List.length_singleton]; omega)
   refine ⟨⟨sp,h1⟩,h2.trans ?_⟩
   rw [List.append_assoc]; rfl
abbrev t_Zl (p0:gA) (p1:gB):List Int := v_expn p1 (v_mdls p0)
abbrev qre_Zl (p0:gA) (p1:gB):List Prop := [v_clok p0,v_dat p1]
theorem pp_Zl (p0:gA) (p1:gB) (hq:∀ p∈qre_Zl p0 p1,p):∀ p∈pre_Zl p0 p1,p := by
 obtain ⟨h1,h2,_⟩ := conj_of hq
 simp only [pre_Zl,fM]
 exact ⟨h1.cne,h1.cnt,(l_Zl_0 p0 p1 h2 (v_mdls p0) [] (fun z hz => v_mdls_mok h1 hz) (by rw [v_mdls_len]; have := h1.cnt; simp only [List.length_nil]; omega)).1,(by intro p hp; cases hp)⟩
theorem tt_Zl (p0:gA) (p1:gB) (hq:∀ p∈qre_Zl p0 p1,p):s_Zl p0 p1 = t_Zl p0 p1 := by
 obtain ⟨h1,h2,_⟩ := conj_of hq
 exact (l_Zl_0 p0 p1 h2 (v_mdls p0) [] (fun z hz => v_mdls_mok h1 hz) (by rw [v_mdls_len]; have := h1.cnt; simp only [List.length_nil]; omega)).2

abbrev con_Zl:Con := ⟨P_Zl,R_Zl,fun x => qre_Zl x.1 x.2,fun x => t_Zl x.1 x.2⟩
theorem ok_Zl:ConOk Tryz.prog 49 con_Zl := okG k_Zl e_Zl hC_Zl fun x hx => tf_of (w_Zl_eq x.1 x.2 _) (d_Zl x.1 x.2 _ (pp_Zl x.1 x.2 hx) (tt_Zl x.1 x.2 hx))
def C_Z29:Cons := [(107,[],con_Z6)]
theorem hC_Z29:ConsOk Tryz.prog C_Z29 := cC ok_Z6 <| ConsOk.nil
def w_Z29 (p0:gB) (K:Int→Prop):Prop := (K (v_cd p0).2)
theorem w_Z29_eq (p0:gB) (K:Int→Prop):tfn F_Z29 A_Z29 C_Z29 P_Z29 R_Z29 p0 K = w_Z29 p0 K := by kernel_rfl
def s_Z29 (p0:gB):Int := (v_cd p0).2
abbrev pre_Z29 (_p0:gB):List Prop := []
theorem d_Z29 (p0:gB) (K:Int→Prop) (_hp:∀ p∈pre_Z29 p0,p) (h:K (s_Z29 p0)):w_Z29 p0 K := by
 unfold w_Z29
 unfold s_Z29 at h
 exact h
abbrev con_Z29:Con := ⟨P_Z29,R_Z29,fun x => pre_Z29 x,fun x => s_Z29 x⟩
theorem ok_Z29:ConOk Tryz.prog 85 con_Z29 := okG k_Z29 e_Z29 hC_Z29 fun x hx => tf_of (w_Z29_eq x _) (d_Z29 x _ hx rfl)
def C_Z21:Cons := [(83,[],con_Z28),(85,[],con_Z29),(53,[],con_Zm)]
theorem hC_Z21:ConsOk Tryz.prog C_Z21 := cC ok_Z28 <| cC ok_Z29 <| cC ok_Zm <| ConsOk.nil
def w_Z21 (p0:gA) (p1:gB) (K:((List ((List Int)×(List Int)))×Int)→Prop):Prop := ((v_few p0) ∧((lenOk ((v_cc p0).2 :: ((v_cd p1).2 :: ([]:List Int)))) ∧(K (p0,(v_first ((v_cc p0).2 :: ((v_cd p1).2 :: ([]:List Int))))))))
theorem w_Z21_eq (p0:gA) (p1:gB) (K:((List ((List Int)×(List Int)))×Int)→Prop):tfn F_Z21 A_Z21 C_Z21 P_Z21 R_Z21 (p0,p1) K = w_Z21 p0 p1 K := by kernel_rfl
def s_Z21 (p0:gA) (p1:gB):((List ((List Int)×(List Int)))×Int) := (p0,(v_first ((v_cc p0).2 :: ((v_cd p1).2 :: ([]:List Int)))))
abbrev pre_Z21 (p0:gA) (_p1:gB):List Prop := [(v_few p0)]
theorem d_Z21 (p0:gA) (p1:gB) (K:((List ((List Int)×(List Int)))×Int)→Prop) (hp:∀ p∈pre_Z21 p0 p1,p) (h:K (s_Z21 p0 p1)):w_Z21 p0 p1 K := by
 unfold w_Z21
 unfold s_Z21 at h
 obtain ⟨hp0,_⟩ := conj_of hp
 exact ⟨(hp0),(lenOk_of 2 rfl (by decide)),h⟩
abbrev con_Z21:Con := ⟨P_Z21,R_Z21,fun x => pre_Z21 x.1 x.2,fun x => s_Z21 x.1 x.2⟩
theorem ok_Z21:ConOk Tryz.prog 48 con_Z21 := okG k_Z21 e_Z21 hC_Z21 fun x hx => tf_of (w_Z21_eq x.1 x.2 _) (d_Z21 x.1 x.2 _ hx rfl)
def C_Z1e:Cons := [(48,[],con_Z21),(49,[],con_Zl)]
theorem hC_Z1e:ConsOk Tryz.prog C_Z1e := cC ok_Z21 <| cC ok_Zl <| ConsOk.nil
def w_Z1e (p0:gA) (p1:gB) (K:((List Int)×Int)→Prop):Prop := ((v_few p0) ∧(((((v_first ((v_cc p0).2 :: ((v_cd p1).2 :: ([]:List Int)))) != 0)=true) →(K (([]:List Int),(v_first ((v_cc p0).2 :: ((v_cd p1).2 :: ([]:List Int))))))) ∧((((v_first ((v_cc p0).2 :: ((v_cd p1).2 :: ([]:List Int)))) != 0)=false) →((v_clok p0) ∧((v_dat p1) ∧(K ((v_expn p1 (v_mdls p0)),zz0)))))))
theorem w_Z1e_eq (p0:gA) (p1:gB) (K:((List Int)×Int)→Prop):tfn F_Z1e A_Z1e C_Z1e P_Z1e R_Z1e (p0,p1) K = w_Z1e p0 p1 K := by kernel_rfl
def s_Z1e (p0:gA) (p1:gB):((List Int)×Int) := (cond ((v_first ((v_cc p0).2 :: ((v_cd p1).2 :: ([]:List Int)))) != 0) (([]:List Int),(v_first ((v_cc p0).2 :: ((v_cd p1).2 :: ([]:List Int))))) ((v_expn p1 (v_mdls p0)),(0:Int)))
abbrev pre_Z1e (p0:gA) (p1:gB):List Prop := [(v_few p0),((((v_first ((v_cc p0).2 :: ((v_cd p1).2 :: ([]:List Int)))) != 0)=false)→(v_clok p0)),((((v_first ((v_cc p0).2 :: ((v_cd p1).2 :: ([]:List Int)))) != 0)=false)→(v_dat p1))]
theorem d_Z1e (p0:gA) (p1:gB) (K:((List Int)×Int)→Prop) (hp:∀ p∈pre_Z1e p0 p1,p) (h:K (s_Z1e p0 p1)):w_Z1e p0 p1 K := by
 unfold w_Z1e
 unfold s_Z1e at h
 obtain ⟨hp0,hp1,hp2,_⟩ := conj_of hp
 exact ⟨(hp0),(br' h (fun e0 h => h)
  (fun e0 h => ⟨(hp1 e0),(hp2 e0),h⟩))⟩
def v_exin (c:gA) (d:gB):List Int×Int := cond ((v_cc c).2 != 0) ([],(v_cc c).2) (cond ((v_cd d).2 != 0) ([],(v_cd d).2) (v_expn d (v_mdls c),0))
abbrev t_Z1e (p0:gA) (p1:gB):List Int×Int := v_exin p0 p1
abbrev qre_Z1e (p0:gA) (_p1:gB):List Prop := [v_few p0]
theorem pp_Z1e (p0:gA) (p1:gB) (hq:∀ p∈qre_Z1e p0 p1,p):∀ p∈pre_Z1e p0 p1,p := by
 obtain ⟨h1,_⟩ := conj_of hq
 simp only [pre_Z1e,fM]
 exact ⟨h1,fun h => tx_cc_ok h1 (tx_first1 h).1,fun h => (tx_cd_ok (tx_first1 h).2).1,(by intro p hp; cases hp)⟩
theorem tt_Z1e (p0:gA) (p1:gB) (_hq:∀ p∈qre_Z1e p0 p1,p):s_Z1e p0 p1 = t_Z1e p0 p1 := by
 unfold s_Z1e t_Z1e v_exin
 rw [tx_first2]
 rcases int0 (v_cc p0).2 with ⟨z,e,_⟩ | ⟨z,e,_⟩ <;> rw [e]
 ·rcases int0 (v_cd p1).2 with ⟨y,f,_⟩ | ⟨y,f,_⟩ <;> rw [cond_false,f]
  ·rfl
  ·rfl
 ·rw [cond_true,e]; rfl

abbrev con_Z1e:Con := ⟨P_Z1e,R_Z1e,fun x => qre_Z1e x.1 x.2,fun x => t_Z1e x.1 x.2⟩
theorem ok_Z1e:ConOk Tryz.prog 10 con_Z1e := okG k_Z1e e_Z1e hC_Z1e fun x hx => tf_of (w_Z1e_eq x.1 x.2 _) (d_Z1e x.1 x.2 _ (pp_Z1e x.1 x.2 hx) (tt_Z1e x.1 x.2 hx))
def C_Z2g:Cons := []
theorem hC_Z2g:ConsOk Tryz.prog C_Z2g := ConsOk.nil
def w_Z2g (p0:gG) (p1:Int) (K:(Int×Int)→Prop):Prop := (K ((min p0.1 p1),(max p0.2 p1)))
theorem w_Z2g_eq (p0:gG) (p1:Int) (K:(Int×Int)→Prop):tfn F_Z2g A_Z2g C_Z2g P_Z2g R_Z2g (p0,p1) K = w_Z2g p0 p1 K := by kernel_rfl
def s_Z2g (p0:gG) (p1:Int):(Int×Int) := ((min p0.1 p1),(max p0.2 p1))
abbrev pre_Z2g (_p0:gG) (_p1:Int):List Prop := []
theorem d_Z2g (p0:gG) (p1:Int) (K:(Int×Int)→Prop) (_hp:∀ p∈pre_Z2g p0 p1,p) (h:K (s_Z2g p0 p1)):w_Z2g p0 p1 K := by
 unfold w_Z2g
 unfold s_Z2g at h
 exact h
abbrev con_Z2g:Con := ⟨P_Z2g,R_Z2g,fun x => pre_Z2g x.1 x.2,fun x => s_Z2g x.1 x.2⟩
theorem ok_Z2g:ConOk Tryz.prog 51 con_Z2g := okG k_Z2g e_Z2g hC_Z2g fun x hx => tf_of (w_Z2g_eq x.1 x.2 _) (d_Z2g x.1 x.2 _ hx rfl)
def C_Z8:Cons := [(48,[],con_Z21),(49,[],con_Zl),(50,[],con_Zj),(51,[],con_Z2g),(52,[],con_Z4)]
theorem hC_Z8:ConsOk Tryz.prog C_Z8 := cC ok_Z21 <| cC ok_Zl <| cC ok_Zj <| cC ok_Z2g <| cC ok_Z4 <| ConsOk.nil
abbrev q1_Z8 (p0:gA) (p1:gB) (y1:((List ((Int×Int)×(Int×Int)))×Int)) (y4:(Int×(List ((Int×Int)×(Int×Int))))) := (List.getD (v_mdl p0 (List.getD (v_expn p1 (v_mdls p0)) y1.2.toNat zz0)) y4.1.toNat (zz0,zz0))
abbrev q0_Z8 (p0:gA) (p1:gB) (y1:((List ((Int×Int)×(Int×Int)))×Int)) (y4:(Int×(List ((Int×Int)×(Int×Int))))) := ((((q1_Z8 p0 p1 y1 y4).1,(q1_Z8 p0 p1 y1 y4).1),((q1_Z8 p0 p1 y1 y4).2,(q1_Z8 p0 p1 y1 y4).2)) :: ([]:List ((Int×Int)×(Int×Int))))
abbrev q2_Z8 (p0:gA) (p1:gB) (y1:((List ((Int×Int)×(Int×Int)))×Int)) (y4:(Int×(List ((Int×Int)×(Int×Int))))) := (List.getD (y4.2 ++ (q0_Z8 p0 p1 y1 y4)) y4.1.toNat ((zz0,zz0),(zz0,zz0)))
def w_Z8 (p0:gA) (p1:gB) (K:((List ((Int×Int)×(Int×Int)))×Int)→Prop):Prop := ((v_few p0) ∧(((((v_first ((v_cc p0).2 :: ((v_cd p1).2 :: ([]:List Int)))) != zz0)=true) →(K (([]:List ((Int×Int)×(Int×Int))),(v_first ((v_cc p0).2 :: ((v_cd p1).2 :: ([]:List Int))))))) ∧((((v_first ((v_cc p0).2 :: ((v_cd p1).2 :: ([]:List Int)))) != zz0)=false) →((v_clok p0) ∧((v_dat p1) ∧(∃ n0,(loopP (fun (y1:((List ((Int×Int)×(Int×Int)))×Int)) k2 => ((((decide (y1.2 < (((v_expn p1 (v_mdls p0)).length:Nat):Int)))=true) →((zz0≤y1.2) ∧((y1.2 < (((v_expn p1 (v_mdls p0)).length:Nat):Int)) ∧((v_cne p0) ∧(((zz0≤(List.getD (v_expn p1 (v_mdls p0)) y1.2.toNat zz0)) ∧((List.getD (v_expn p1 (v_mdls p0)) y1.2.toNat zz0)≤9223372036854775807)) ∧(∃ n3,(loopP (fun (y4:(Int×(List ((Int×Int)×(Int×Int))))) k5 => ((((decide (y4.1 < (((List.length (v_mdl p0 (List.getD (v_expn p1 (v_mdls p0)) y1.2.toNat zz0))):Nat):Int)))=true) →((zz0≤y4.1) ∧((y4.1 < (((List.length (v_mdl p0 (List.getD (v_expn p1 (v_mdls p0)) y1.2.toNat zz0))):Nat):Int)) ∧((((y4.1 == (y4.2.length:Int))=true) →((((y4.2.length + (List.length (q0_Z8 p0 p1 y1 y4))) * 32)≤140737488355328) ∧((zz0≤y4.1) ∧((y4.1 < (((y4.2 ++ (q0_Z8 p0 p1 y1 y4)).length:Nat):Int)) ∧((zz0≤y4.1) ∧((y4.1 < (((y4.2 ++ (q0_Z8 p0 p1 y1 y4)).length:Nat):Int)) ∧((zz0≤y4.1) ∧((y4.1 < (((y4.2 ++ (q0_Z8 p0 p1 y1 y4)).length:Nat):Int)) ∧(k5 ((wi (y4.1 + zz1)),(List.set (y4.2 ++ (q0_Z8 p0 p1 y1 y4)) y4.1.toNat (((min (q2_Z8 p0 p1 y1 y4).1.1 (q1_Z8 p0 p1 y1 y4).1),(max (q2_Z8 p0 p1 y1 y4).1.2 (q1_Z8 p0 p1 y1 y4).1)),((min (q2_Z8 p0 p1 y1 y4).2.1 (q1_Z8 p0 p1 y1 y4).2),(max (q2_Z8 p0 p1 y1 y4).2.2 (q1_Z8 p0 p1 y1 y4).2)))))))))))))) ∧(((y4.1 == (y4.2.length:Int))=false) →((zz0≤y4.1) ∧((y4.1 < (y4.2.length:Int)) ∧((zz0≤y4.1) ∧((y4.1 < (y4.2.length:Int)) ∧((zz0≤y4.1) ∧((y4.1 < (y4.2.length:Int)) ∧(k5 ((wi (y4.1 + zz1)),(List.set y4.2 y4.1.toNat (((min (y4.2.getD y4.1.toNat ((zz0,zz0),(zz0,zz0))).1.1 (q1_Z8 p0 p1 y1 y4).1),(max (y4.2.getD y4.1.toNat ((zz0,zz0),(zz0,zz0))).1.2 (q1_Z8 p0 p1 y1 y4).1)),((min (y4.2.getD y4.1.toNat ((zz0,zz0),(zz0,zz0))).2.1 (q1_Z8 p0 p1 y1 y4).2),(max (y4.2.getD y4.1.toNat ((zz0,zz0),(zz0,zz0))).2.2 (q1_Z8 p0 p1 y1 y4).2))))))))))))))))) ∧(((decide (y4.1 < (((List.length (v_mdl p0 (List.getD (v_expn p1 (v_mdls p0)) y1.2.toNat zz0))):Nat):Int)))=false) →(k2 (y4.2,(wi (y1.2 + zz1))))))) n3 (zz0,y1.1)))))))) ∧(((decide (y1.2 < (((v_expn p1 (v_mdls p0)).length:Nat):Int)))=false) →(K (y1.1,(s_Z4 (decide ((y1.1.length:Int) > zz0)) (12:Int))))))) n0 (([]:List ((Int×Int)×(Int×Int))),zz0))))))))
theorem w_Z8_eq (p0:gA) (p1:gB) (K:((List ((Int×Int)×(Int×Int)))×Int)→Prop):tfn F_Z8 A_Z8 C_Z8 P_Z8 R_Z8 (p0,p1) K = w_Z8 p0 p1 K := by kernel_rfl
def st_Z8_0 (p0:gA) (p1:gB) (y1:((List ((Int×Int)×(Int×Int)))×Int)) (y3:(Int×(List ((Int×Int)×(Int×Int))))):(Int×(List ((Int×Int)×(Int×Int)))) ⊕ (((List ((Int×Int)×(Int×Int)))×Int) ⊕ ((List ((Int×Int)×(Int×Int)))×Int)) := (cond (decide (y3.1 < (((List.length (v_mdl p0 (List.getD (v_expn p1 (v_mdls p0)) y1.2.toNat (0:Int)))):Nat):Int))) (cond (y3.1 == (y3.2.length:Int)) (Sum.inl ((IntKind.i64.wrap (y3.1 + 1)),(List.set (y3.2 ++ ((((List.getD (v_mdl p0 (List.getD (v_expn p1 (v_mdls p0)) y1.2.toNat (0:Int))) y3.1.toNat (0,0)).1,(List.getD (v_mdl p0 (List.getD (v_expn p1 (v_mdls p0)) y1.2.toNat (0:Int))) y3.1.toNat (0,0)).1),((List.getD (v_mdl p0 (List.getD (v_expn p1 (v_mdls p0)) y1.2.toNat (0:Int))) y3.1.toNat (0,0)).2,(List.getD (v_mdl p0 (List.getD (v_expn p1 (v_mdls p0)) y1.2.toNat (0:Int))) y3.1.toNat (0,0)).2)) :: ([]:List ((Int×Int)×(Int×Int))))) y3.1.toNat (((min (List.getD (y3.2 ++ ((((List.getD (v_mdl p0 (List.getD (v_expn p1 (v_mdls p0)) y1.2.toNat (0:Int))) y3.1.toNat (0,0)).1,(List.getD (v_mdl p0 (List.getD (v_expn p1 (v_mdls p0)) y1.2.toNat (0:Int))) y3.1.toNat (0,0)).1),((List.getD (v_mdl p0 (List.getD (v_expn p1 (v_mdls p0)) y1.2.toNat (0:Int))) y3.1.toNat (0,0)).2,(List.getD (v_mdl p0 (List.getD (v_expn p1 (v_mdls p0)) y1.2.toNat (0:Int))) y3.1.toNat (0,0)).2)) :: ([]:List ((Int×Int)×(Int×Int))))) y3.1.toNat ((0,0),(0,0))).1.1 (List.getD (v_mdl p0 (List.getD (v_expn p1 (v_mdls p0)) y1.2.toNat (0:Int))) y3.1.toNat (0,0)).1),(max (List.getD (y3.2 ++ ((((List.getD (v_mdl p0 (List.getD (v_expn p1 (v_mdls p0)) y1.2.toNat (0:Int))) y3.1.toNat (0,0)).1,(List.getD (v_mdl p0 (List.getD (v_expn p1 (v_mdls p0)) y1.2.toNat (0:Int))) y3.1.toNat (0,0)).1),((List.getD (v_mdl p0 (List.getD (v_expn p1 (v_mdls p0)) y1.2.toNat (0:Int))) y3.1.toNat (0,0)).2,(List.getD (v_mdl p0 (List.getD (v_expn p1 (v_mdls p0)) y1.2.toNat (0:Int))) y3.1.toNat (0,0)).2)) :: ([]:List ((Int×Int)×(Int×Int))))) y3.1.toNat ((0,0),(0,0))).1.2 (List.getD (v_mdl p0 (List.getD (v_expn p1 (v_mdls p0)) y1.2.toNat (0:Int))) y3.1.toNat (0,0)).1)),((min (List.getD (y3.2 ++ ((((List.getD (v_mdl p0 (List.getD (v_expn p1 (v_mdls p0)) y1.2.toNat (0:Int))) y3.1.toNat (0,0)).1,(List.getD (v_mdl p0 (List.getD (v_expn p1 (v_mdls p0)) y1.2.toNat (0:Int))) y3.1.toNat (0,0)).1),((List.getD (v_mdl p0 (List.getD (v_expn p1 (v_mdls p0)) y1.2.toNat (0:Int))) y3.1.toNat (0,0)).2,(List.getD (v_mdl p0 (List.getD (v_expn p1 (v_mdls p0)) y1.2.toNat (0:Int))) y3.1.toNat (0,0)).2)) :: ([]:List ((Int×Int)×(Int×Int))))) y3.1.toNat ((0,0),(0,0))).2.1 (List.getD (v_mdl p0 (List.getD (v_expn p1 (v_mdls p0)) y1.2.toNat (0:Int))) y3.1.toNat (0,0)).2),(max (List.getD (y3.2 ++ ((((List.getD (v_mdl p0 (List.getD (v_expn p1 (v_mdls p0)) y1.2.toNat (0:Int))) y3.1.toNat (0,0)).1,(List.getD (v_mdl p0 (List.getD (v_expn p1 (v_mdls p0)) y1.2.toNat (0:Int))) y3.1.toNat (0,0)).1),((List.getD (v_mdl p0 (List.getD (v_expn p1 (v_mdls p0)) y1.2.toNat (0:Int))) y3.1.toNat (0,0)).2,(List.getD (v_mdl p0 (List.getD (v_expn p1 (v_mdls p0)) y1.2.toNat (0:Int))) y3.1.toNat (0,0)).2)) :: ([]:List ((Int×Int)×(Int×Int))))) y3.1.toNat ((0,0),(0,0))).2.2 (List.getD (v_mdl p0 (List.getD (v_expn p1 (v_mdls p0)) y1.2.toNat (0:Int))) y3.1.toNat (0,0)).2)))))) (Sum.inl ((IntKind.i64.wrap (y3.1 + 1)),(List.set y3.2 y3.1.toNat (((min (y3.2.getD y3.1.toNat ((0,0),(0,0))).1.1 (List.getD (v_mdl p0 (List.getD (v_expn p1 (v_mdls p0)) y1.2.toNat (0:Int))) y3.1.toNat (0,0)).1),(max (y3.2.getD y3.1.toNat ((0,0),(0,0))).1.2 (List.getD (v_mdl p0 (List.getD (v_expn p1 (v_mdls p0)) y1.2.toNat (0:Int))) y3.1.toNat (0,0)).1)),((min (y3.2.getD y3.1.toNat ((0,0),(0,0))).2.1 (List.getD (v_mdl p0 (List.getD (v_expn p1 (v_mdls p0)) y1.2.toNat (0:Int))) y3.1.toNat (0,0)).2),(max (y3.2.getD y3.1.toNat ((0,0),(0,0))).2.2 (List.getD (v_mdl p0 (List.getD (v_expn p1 (v_mdls p0)) y1.2.toNat (0:Int))) y3.1.toNat (0,0)).2))))))) (Sum.inr (Sum.inl (y3.2,(IntKind.i64.wrap (y1.2 + 1))))))
abbrev sp_Z8_0 (p0:gA) (p1:gB) (y1:((List ((Int×Int)×(Int×Int)))×Int)) (y3:(Int×(List ((Int×Int)×(Int×Int))))):List Prop := [(((decide (y3.1 < (((List.length (v_mdl p0 (List.getD (v_expn p1 (v_mdls p0)) y1.2.toNat (0:Int)))):Nat):Int)))=true)→((0:Int)≤y3.1)),(((decide (y3.1 < (((List.length (v_mdl p0 (List.getD (v_expn p1 (v_mdls p0)) y1.2.toNat (0:Int)))):Nat):Int)))=true)→(y3.1 < (((List.length (v_mdl p0 (List.getD (v_expn p1 (v_mdls p0)) y1.2.toNat (0:Int)))):Nat):Int))),(((decide (y3.1 < (((List.length (v_mdl p0 (List.getD (v_expn p1 (v_mdls p0)) y1.2.toNat (0:Int)))):Nat):Int)))=true)→(((y3.1 == (y3.2.length:Int))=true)→(((y3.2.length + (List.length ((((List.getD (v_mdl p0 (List.getD (v_expn p1 (v_mdls p0)) y1.2.toNat (0:Int))) y3.1.toNat (0,0)).1,(List.getD (v_mdl p0 (List.getD (v_expn p1 (v_mdls p0)) y1.2.toNat (0:Int))) y3.1.toNat (0,0)).1),((List.getD (v_mdl p0 (List.getD (v_expn p1 (v_mdls p0)) y1.2.toNat (0:Int))) y3.1.toNat (0,0)).2,(List.getD (v_mdl p0 (List.getD (v_expn p1 (v_mdls p0)) y1.2.toNat (0:Int))) y3.1.toNat (0,0)).2)) :: ([]:List ((Int×Int)×(Int×Int)))))) * 32)≤140737488355328))),(((decide (y3.1 < (((List.length (v_mdl p0 (List.getD (v_expn p1 (v_mdls p0)) y1.2.toNat (0:Int)))):Nat):Int)))=true)→(((y3.1 == (y3.2.length:Int))=true)→((0:Int)≤y3.1))),(((decide (y3.1 < (((List.length (v_mdl p0 (List.getD (v_expn p1 (v_mdls p0)) y1.2.toNat (0:Int)))):Nat):Int)))=true)→(((y3.1 == (y3.2.length:Int))=true)→(y3.1 < (((List.length (y3.2 ++ ((((List.getD (v_mdl p0 (List.getD (v_expn p1 (v_mdls p0)) y1.2.toNat (0:Int))) y3.1.toNat (0,0)).1,(List.getD (v_mdl p0 (List.getD (v_expn p1 (v_mdls p0)) y1.2.toNat (0:Int))) y3.1.toNat (0,0)).1),((List.getD (v_mdl p0 (List.getD (v_expn p1 (v_mdls p0)) y1.2.toNat (0:Int))) y3.1.toNat (0,0)).2,(List.getD (v_mdl p0 (List.getD (v_expn p1 (v_mdls p0)) y1.2.toNat (0:Int))) y3.1.toNat (0,0)).2)) :: ([]:List ((Int×Int)×(Int×Int)))))):Nat):Int)))),(((decide (y3.1 < (((List.length (v_mdl p0 (List.getD (v_expn p1 (v_mdls p0)) y1.2.toNat (0:Int)))):Nat):Int)))=true)→(((y3.1 == (y3.2.length:Int))=false)→((0:Int)≤y3.1))),(((decide (y3.1 < (((List.length (v_mdl p0 (List.getD (v_expn p1 (v_mdls p0)) y1.2.toNat (0:Int)))):Nat):Int)))=true)→(((y3.1 == (y3.2.length:Int))=false)→(y3.1 < (y3.2.length:Int))))]
def st_Z8_1 (p0:gA) (p1:gB) (y1:((List ((Int×Int)×(Int×Int)))×Int)):((List ((Int×Int)×(Int×Int)))×Int) ⊕ ((List ((Int×Int)×(Int×Int)))×Int) := (cond (decide (y1.2 < (((v_expn p1 (v_mdls p0)).length:Nat):Int))) (lpv (Sum.inr ([],(0:Int))) (st_Z8_0 p0 p1 y1) ((0:Int),y1.1)) (Sum.inr (y1.1,(s_Z4 (decide ((y1.1.length:Int) > 0)) (12:Int)))))
abbrev sp_Z8_1 (p0:gA) (p1:gB) (y1:((List ((Int×Int)×(Int×Int)))×Int)):List Prop := [(((decide (y1.2 < (((v_expn p1 (v_mdls p0)).length:Nat):Int)))=true)→((0:Int)≤y1.2)),(((decide (y1.2 < (((v_expn p1 (v_mdls p0)).length:Nat):Int)))=true)→(y1.2 < (((v_expn p1 (v_mdls p0)).length:Nat):Int))),(((decide (y1.2 < (((v_expn p1 (v_mdls p0)).length:Nat):Int)))=true)→(v_cne p0)),(((decide (y1.2 < (((v_expn p1 (v_mdls p0)).length:Nat):Int)))=true)→(((0:Int)≤(List.getD (v_expn p1 (v_mdls p0)) y1.2.toNat (0:Int)))∧((List.getD (v_expn p1 (v_mdls p0)) y1.2.toNat (0:Int))≤9223372036854775807))),(((decide (y1.2 < (((v_expn p1 (v_mdls p0)).length:Nat):Int)))=true)→(OkL (st_Z8_0 p0 p1 y1) (sp_Z8_0 p0 p1 y1) ((0:Int),y1.1)))]
def s_Z8 (p0:gA) (p1:gB):((List ((Int×Int)×(Int×Int)))×Int) := (cond ((v_first ((v_cc p0).2 :: ((v_cd p1).2 :: ([]:List Int)))) != 0) (([]:List ((Int×Int)×(Int×Int))),(v_first ((v_cc p0).2 :: ((v_cd p1).2 :: ([]:List Int))))) (lpv ([],(0:Int)) (st_Z8_1 p0 p1) (([]:List ((Int×Int)×(Int×Int))),(0:Int))))
abbrev pre_Z8 (p0:gA) (p1:gB):List Prop := [(v_few p0),((((v_first ((v_cc p0).2 :: ((v_cd p1).2 :: ([]:List Int)))) != 0)=false)→(v_clok p0)),((((v_first ((v_cc p0).2 :: ((v_cd p1).2 :: ([]:List Int)))) != 0)=false)→(v_dat p1)),((((v_first ((v_cc p0).2 :: ((v_cd p1).2 :: ([]:List Int)))) != 0)=false)→(OkL (st_Z8_1 p0 p1) (sp_Z8_1 p0 p1) (([]:List ((Int×Int)×(Int×Int))),(0:Int))))]
theorem d_Z8 (p0:gA) (p1:gB) (K:((List ((Int×Int)×(Int×Int)))×Int)→Prop) (hp:∀ p∈pre_Z8 p0 p1,p) (h:K (s_Z8 p0 p1)):w_Z8 p0 p1 K := by
 unfold w_Z8
 unfold s_Z8 at h
 obtain ⟨hp0,hp1,hp2,hp3,_⟩ := conj_of hp
 exact ⟨(hp0),(br' h (fun e0 h => h)
  (fun e0 h => ⟨(hp1 e0),(hp2 e0),(loop_gen (hp3 e0) h (fun y1 k1 hp h => by
 unfold st_Z8_1 at h; obtain ⟨hp0,hp1,hp2,hp3,hp4,_⟩ := conj_of hp
 exact (br' h (fun e2 h => ⟨(hp0 e2),(hp1 e2),(hp2 e2),(hp3 e2),(loop_gen (hp4 e2) h (fun y3 k3 hp h => by
 unfold st_Z8_0 at h; obtain ⟨hp0,hp1,hp2,hp3,hp4,hp5,hp6,_⟩ := conj_of hp
 exact (br' h (fun e4 h => ⟨(hp0 e4),(hp1 e4),(br' h (fun e5 h => ⟨(hp2 e4 e5),(hp3 e4 e5),(hp4 e4 e5),(hp3 e4 e5),(hp4 e4 e5),(hp3 e4 e5),(hp4 e4 e5),h⟩)
  (fun e5 h => ⟨(hp5 e4 e5),(hp6 e4 e5),(hp5 e4 e5),(hp6 e4 e5),(hp5 e4 e5),(hp6 e4 e5),h⟩))⟩)
  (fun e4 h => h))))⟩)
  (fun e2 h => h))))⟩))⟩
/-- Ranges,widened by a model. -/
def v_pt (y:gG):(Int×Int)×(Int×Int) := ((y.1,y.1),(y.2,y.2))
def v_wd1 (x:(Int×Int)×(Int×Int)) (y:gG):(Int×Int)×(Int×Int) := ((min x.1.1 y.1,max x.1.2 y.1),(min x.2.1 y.2,max x.2.2 y.2))
def v_wdm (out:List ((Int×Int)×(Int×Int))) (m:gC):List ((Int×Int)×(Int×Int)) := cond out.isEmpty (m.map v_pt) (List.zipWith v_wd1 out m)
def v_rngs (c:gA):List ((Int×Int)×(Int×Int))→List Int→List ((Int×Int)×(Int×Int))
 | out,[] => out
 | out,n :: r => v_rngs c (v_wdm out (v_mdl c n)) r
def v_rof (c:gA) (d:gB):List ((Int×Int)×(Int×Int))×Int := cond ((v_cc c).2 != 0) ([],(v_cc c).2) (cond ((v_cd d).2 != 0) ([],(v_cd d).2) (v_rngs c [] (v_expn d (v_mdls c)),cond (decide (((v_rngs c [] (v_expn d (v_mdls c))).length:Int) > 0)) 0 12))
theorem v_wd1_pt (y:gG):v_wd1 (v_pt y) y = v_pt y := by unfold v_wd1 v_pt; simp
theorem v_wdm_len {out:List ((Int×Int)×(Int×Int))} {m:List (Int×Int)} (h:out = [] ∨ out.length = m.length):(v_wdm out m).length = m.length := by
 unfold v_wdm
 cases out with
 | nil => simp
 | cons x r =>
  rcases h with h | h
  ·cases h
  ·simp at h ⊢; omega
/-- A round: the next layer. -/
theorem v_wdm_step {out:List ((Int×Int)×(Int×Int))} {m:List (Int×Int)} (h:out = [] ∨ out.length = m.length) {j:Nat} (hj:j < m.length) :
  (out = []→((v_wdm out m).take j ++ out.drop j).length = j∧((((v_wdm out m).take j ++ out.drop j) ++ [v_pt (m.getD j (0,0))]).set j (v_wd1 ((((v_wdm out m).take j ++ out.drop j) ++ [v_pt (m.getD j (0,0))]).getD j ((0,0),(0,0))) (m.getD j (0,0))))=(v_wdm out m).take (j + 1) ++ out.drop (j + 1)) ∧
  (out ≠ []→((v_wdm out m).take j ++ out.drop j).length = m.length∧(((v_wdm out m).take j ++ out.drop j).set j (v_wd1 (((v_wdm out m).take j ++ out.drop j).getD j ((0,0),(0,0))) (m.getD j (0,0))))=(v_wdm out m).take (j + 1) ++ out.drop (j + 1)) := by
 have hl := v_wdm_len h
 have ht:(v_wdm out m).take (j + 1)=(v_wdm out m).take j ++ [(v_wdm out m).getD j ((0,0),(0,0))] := by
  rw [List.take_add_one,List.getD_eq_getElem?_getD,List.getElem?_eq_getElem (by omega)]; rfl
 have htl:((v_wdm out m).take j).length = j := by rw [List.length_take]; omega
 constructor
 ·rintro rfl
  have hg:(v_wdm [] m).getD j ((0,0),(0,0))=v_pt (m.getD j (0,0)) := by
   show (m.map v_pt).getD j _ = _
   rw [List.getD_eq_getElem?_getD,List.getElem?_map,List.getD_eq_getElem?_getD,List.getElem?_eq_getElem hj]; rfl
  rw [ht,hg]
  generalize (v_wdm [] m).take j = w at *
  subst htl
  simp [v_wd1_pt]
 ·intro hne
  have hlen:out.length = m.length := h.resolve_left hne
  have hg:(v_wdm out m).getD j ((0,0),(0,0))=v_wd1 (out.getD j ((0,0),(0,0))) (m.getD j (0,0)) := by
   unfold v_wdm
   rw [show out.isEmpty = false by cases out with | nil => exact (hne rfl).elim | cons => rfl,cond_false]
   rw [List.getD_eq_getElem?_getD,List.getElem?_zipWith,List.getD_eq_getElem?_getD,List.getD_eq_getElem?_getD,List.getElem?_eq_getElem hj,List.getElem?_eq_getElem (show j < out.length by omega)]; rfl
  have hd:out.drop j = out.getD j ((0,0),(0,0)) :: out.drop (j + 1) := drop_getD _ (by omega)
  rw [ht,hg,hd]
  have hdl:(out.drop (j + 1)).length = m.length - (j + 1) := by rw [List.length_drop]; omega
  generalize (v_wdm out m).take j = w at *
  generalize out.drop (j + 1)=o at *
  generalize out.getD j ((0,0),(0,0))=a at *
  subst htl
  refine ⟨by simp; omega,?_⟩
  simp
theorem v_expn_mem (d:gB):∀ (zs:List (Int×List (Int×Int))) (n:Int),n∈v_expn d zs→∃ z∈zs,z.1 = n∧v_exAll z.2 d = true
 | [],_,h => by cases h
 | z :: r,n,h => by
  have e:v_expn d (z :: r)=cond (v_exAll z.2 d) (z.1 :: v_expn d r) (v_expn d r) := rfl
  rw [e] at h
  cases c:v_exAll z.2 d <;> rw [c] at h
  ·obtain ⟨y,hy,g⟩ := v_expn_mem d r n h
   exact ⟨y,List.mem_cons_of_mem _ hy,g⟩
  ·rcases List.mem_cons.1 h with rfl | h
   ·exact ⟨z,by simp,rfl,c⟩
   ·obtain ⟨y,hy,g⟩ := v_expn_mem d r n h
    exact ⟨y,List.mem_cons_of_mem _ hy,g⟩
theorem v_expn_len (d:gB):∀ (zs:List (Int×List (Int×Int))),(v_expn d zs).length≤zs.length
 | [] => Nat.le_refl _
 | z :: r => by
  have e:v_expn d (z :: r)=cond (v_exAll z.2 d) (z.1 :: v_expn d r) (v_expn d r) := rfl
  have := v_expn_len d r
  rw [e]
  cases v_exAll z.2 d
  ·rw [cond_false,List.length_cons]; omega
  ·rw [cond_true,List.length_cons,List.length_cons]; omega
theorem v_expn_num {d:List (Int×Int×Int)} {l:List (List Int×List Int)} {n:Int} (h:n∈v_expn d (v_mdls l)):0≤n∧n < v_count l := by
 obtain ⟨z,hz,rfl,_⟩ := v_expn_mem d _ _ h
 unfold v_mdls at hz
 obtain ⟨k,hk,rfl⟩ := List.mem_map.1 hz
 have := List.mem_range.1 hk
 show (0:Int)≤(k:Int)∧(k:Int) < _
 omega
theorem l_Z8_0 (p0:gA) (p1:gB) (y1:List ((Int×Int)×(Int×Int))×Int) (hl:(v_mdl p0 ((v_expn p1 (v_mdls p0)).getD y1.2.toNat 0)).length≤4) (ho:y1.1 = [] ∨ y1.1.length = (v_mdl p0 ((v_expn p1 (v_mdls p0)).getD y1.2.toNat 0)).length) :
  OkL (st_Z8_0 p0 p1 y1) (sp_Z8_0 p0 p1 y1) (0,y1.1)∧lpv (Sum.inr ([],0)) (st_Z8_0 p0 p1 y1) (0,y1.1)=Sum.inl (v_wdm y1.1 (v_mdl p0 ((v_expn p1 (v_mdls p0)).getD y1.2.toNat 0)),IntKind.i64.wrap (y1.2 + 1)) := by
 have hw := v_wdm_len ho
 refine @for_is (List ((Int×Int)×(Int×Int))) (Int×List ((Int×Int)×(Int×Int))) ((List ((Int×Int)×(Int×Int))×Int) ⊕ (List ((Int×Int)×(Int×Int))×Int)) (Sum.inr ([],0)) (st_Z8_0 p0 p1 y1) (sp_Z8_0 p0 p1 y1) (fun i t => (i,t)) 0 (v_mdl p0 ((v_expn p1 (v_mdls p0)).getD y1.2.toNat 0)).length
  (fun j t => t = (v_wdm y1.1 (v_mdl p0 ((v_expn p1 (v_mdls p0)).getD y1.2.toNat 0))).take j ++ y1.1.drop j) (fun _ _ => Sum.inl (v_wdm y1.1 (v_mdl p0 ((v_expn p1 (v_mdls p0)).getD y1.2.toNat 0)),IntKind.i64.wrap (y1.2 + 1))) (by omega) (by omega) ?_ ?_ y1.1 (by simp)
 ·rintro t rfl
  have hd0:y1.1.drop (v_mdl p0 ((v_expn p1 (v_mdls p0)).getD y1.2.toNat 0)).length = [] := List.drop_eq_nil_of_le (by rcases ho with h | h <;> rw [h] <;> simp)
  have ht0:(v_wdm y1.1 (v_mdl p0 ((v_expn p1 (v_mdls p0)).getD y1.2.toNat 0))).take (v_mdl p0 ((v_expn p1 (v_mdls p0)).getD y1.2.toNat 0)).length = v_wdm y1.1 (v_mdl p0 ((v_expn p1 (v_mdls p0)).getD y1.2.toNat 0)) := List.take_of_length_le (by omega)
  rw [hd0,ht0,List.append_nil]
  simp only [sp_Z8_0,st_Z8_0,fM,show decide (((v_mdl p0 ((v_expn p1 (v_mdls p0)).getD y1.2.toNat 0)).length:Int) < ((v_mdl p0 ((v_expn p1 (v_mdls p0)).getD y1.2.toNat 0)).length:Int))=false from decide_eq_false (by omega),cond_false]
  refine ⟨?_,trivial⟩
  and_intros
  all_goals first
   | (intro h; cases h; done)
   | (intro p hp; cases hp)
 ·rintro j t - hj rfl
  have hd1:decide ((j:Int) < ((v_mdl p0 ((v_expn p1 (v_mdls p0)).getD y1.2.toNat 0)).length:Int))=true := decide_eq_true (by omega)
  have hw1:IntKind.i64.wrap ((j:Int) + 1)=((j + 1:Nat):Int) := wrap_id (by omega) (by omega)
  obtain ⟨s1,s2⟩ := v_wdm_step ho hj
  unfold sp_Z8_0 st_Z8_0
  simp only [fM,hd1,cond_true,Int.toNat_natCast,hw1]
  by_cases hy:y1.1 = []
  ·obtain ⟨a1,a2⟩ := s1 hy
   generalize (v_wdm y1.1 (v_mdl p0 ((v_expn p1 (v_mdls p0)).getD y1.2.toNat 0))).take j ++ y1.1.drop j = w at *
   have hb:((j:Int) == (w.length:Int))=true := beq_iff_eq.2 (by omega)
   rw [hb]
   refine ⟨?_,.inl ⟨_,rfl,a2,trivial⟩⟩
   and_intros
   all_goals first
    | (intro p hp; cases hp; done)
    | (intros; simp only [List.length_append,List.length_cons,List.length_nil]; omega)
    | (intros; omega)
    | (intro _ h; cases h)
  ·obtain ⟨a1,a2⟩ := s2 hy
   generalize (v_wdm y1.1 (v_mdl p0 ((v_expn p1 (v_mdls p0)).getD y1.2.toNat 0))).take j ++ y1.1.drop j = w at *
   have hb:((j:Int) == (w.length:Int))=false := beq_eq_false_iff_ne.2 (by omega)
   rw [hb]
   refine ⟨?_,.inl ⟨_,rfl,a2,trivial⟩⟩
   and_intros
   all_goals first
    | (intro p hp; cases hp; done)
    | (intro _ h; cases h; done)
    | (intros; omega)
theorem l_Z8_1 (p0:gA) (p1:gB) (hc:v_clok p0):OkL (st_Z8_1 p0 p1) (sp_Z8_1 p0 p1) ([],0)∧lpv ([],0) (st_Z8_1 p0 p1) ([],0)=(v_rngs p0 [] (v_expn p1 (v_mdls p0)),cond (decide (((v_rngs p0 [] (v_expn p1 (v_mdls p0))).length:Int) > 0)) 0 12) := by
 have hcnt := hc.cnt
 have hnn := v_count_nn p0
 have hel := v_expn_len p1 (v_mdls p0)
 rw [v_mdls_len] at hel
 have main := @for_is (List ((Int×Int)×(Int×Int))) (List ((Int×Int)×(Int×Int))×Int) (List ((Int×Int)×(Int×Int))×Int) ([],0) (st_Z8_1 p0 p1) (sp_Z8_1 p0 p1) (fun i t => (t,i)) 0 (v_expn p1 (v_mdls p0)).length
  (fun _ t => t = [] ∨ t.length = p0.length) (fun k t => (v_rngs p0 t ((v_expn p1 (v_mdls p0)).drop k),cond (decide (((v_rngs p0 t ((v_expn p1 (v_mdls p0)).drop k)).length:Int) > 0)) 0 12)) (by omega) (by omega) ?_ ?_ [] (.inl rfl)
 ·exact main
 ·intro t _
  simp only [sp_Z8_1,st_Z8_1,fM,show decide (((v_expn p1 (v_mdls p0)).length:Int) < ((v_expn p1 (v_mdls p0)).length:Int))=false from decide_eq_false (by omega),cond_false,List.drop_length,tx_unless]
  refine ⟨?_,rfl⟩
  and_intros
  all_goals first
   | (intro h; cases h; done)
   | (intro p hp; cases hp)
 ·intro k t _ hk ht
  have hd1:decide ((k:Int) < ((v_expn p1 (v_mdls p0)).length:Int))=true := decide_eq_true (by omega)
  have hw1:IntKind.i64.wrap ((k:Int) + 1)=((k + 1:Nat):Int) := wrap_id (by omega) (by omega)
  have hnum := v_expn_num (v_getD_mem (d := 0) hk)
  have hml:(v_mdl p0 ((v_expn p1 (v_mdls p0)).getD k 0)).length = p0.length := v_mod_len _ _
  have hl4 := hc.cne.len
  have ho:t = [] ∨ t.length = (v_mdl p0 ((v_expn p1 (v_mdls p0)).getD k 0)).length := by rw [hml]; exact ht
  obtain ⟨o1,o2⟩ := l_Z8_0 p0 p1 (t,(k:Int)) (by simp only [Int.toNat_natCast]; omega) (by simp only [Int.toNat_natCast]; exact ho)
  simp only [Int.toNat_natCast,hw1] at o1 o2
  have hdr := drop_getD (0:Int) hk
  refine ⟨?_,.inl ⟨v_wdm t (v_mdl p0 ((v_expn p1 (v_mdls p0)).getD k 0)),?_,.inr ?_,?_⟩⟩
  ·simp only [sp_Z8_1,fM,Int.toNat_natCast]
   and_intros
   all_goals first
    | (intro p hp; cases hp; done)
    | exact fun _ => o1
    | exact fun _ => hc.cne
    | (intros; omega)
  ·unfold st_Z8_1
   simp only [hd1,cond_true]
   exact o2
  ·rw [v_wdm_len ho,hml]
  ·rw [hdr]; rfl
abbrev t_Z8 (p0:gA) (p1:gB):List ((Int×Int)×(Int×Int))×Int := v_rof p0 p1
abbrev qre_Z8 (p0:gA) (_p1:gB):List Prop := [v_few p0]
theorem pp_Z8 (p0:gA) (p1:gB) (hq:∀ p∈qre_Z8 p0 p1,p):∀ p∈pre_Z8 p0 p1,p := by
 obtain ⟨h1,_⟩ := conj_of hq
 simp only [pre_Z8,fM]
 exact ⟨h1,fun h => tx_cc_ok h1 (tx_first1 h).1,fun h => (tx_cd_ok (tx_first1 h).2).1,fun h => (l_Z8_1 p0 p1 (tx_cc_ok h1 (tx_first1 h).1)).1,(by intro p hp; cases hp)⟩
theorem tt_Z8 (p0:gA) (p1:gB) (hq:∀ p∈qre_Z8 p0 p1,p):s_Z8 p0 p1 = t_Z8 p0 p1 := by
 obtain ⟨h1,_⟩ := conj_of hq
 unfold s_Z8 t_Z8 v_rof
 rw [tx_first2]
 rcases int0 (v_cc p0).2 with ⟨z,e,_⟩ | ⟨z,e,_⟩ <;> rw [e]
 ·rcases int0 (v_cd p1).2 with ⟨y,f,_⟩ | ⟨y,f,_⟩ <;> rw [cond_false,f]
  ·exact (l_Z8_1 p0 p1 (tx_cc_ok h1 z)).2
  ·rfl
 ·rw [cond_true,e]; rfl

abbrev con_Z8:Con := ⟨P_Z8,R_Z8,fun x => qre_Z8 x.1 x.2,fun x => t_Z8 x.1 x.2⟩
theorem ok_Z8:ConOk Tryz.prog 13 con_Z8 := okG k_Z8 e_Z8 hC_Z8 fun x hx => tf_of (w_Z8_eq x.1 x.2 _) (d_Z8 x.1 x.2 _ (pp_Z8 x.1 x.2 hx) (tt_Z8 x.1 x.2 hx))
def C_Z10:Cons := []
theorem hC_Z10:ConsOk Tryz.prog C_Z10 := ConsOk.nil
def w_Z10 (p0:gC) (p1:gC) (p2:Int) (K:Bool→Prop):Prop := (∃ n0,(loopP (fun (y1:Int) k2 => ((((decide (y1 < (p0.length:Int)))=true) →((zz0≤y1) ∧((y1 < (p0.length:Int)) ∧((zz0≤y1) ∧((y1 < (p1.length:Int)) ∧((((decide ((IntKind.i64.wrap ((max (p0.getD y1.toNat (zz0,zz0)).1 (p1.getD y1.toNat (zz0,zz0)).1) - (min (p0.getD y1.toNat (zz0,zz0)).1 (p1.getD y1.toNat (zz0,zz0)).1))) ≥ p2))=true) →(K true)) ∧(((decide ((IntKind.i64.wrap ((max (p0.getD y1.toNat (zz0,zz0)).1 (p1.getD y1.toNat (zz0,zz0)).1) - (min (p0.getD y1.toNat (zz0,zz0)).1 (p1.getD y1.toNat (zz0,zz0)).1))) ≥ p2))=false) →(k2 (IntKind.i64.wrap (y1 + 1)))))))))) ∧(((decide (y1 < (p0.length:Int)))=false) →(K false)))) n0 zz0))
theorem w_Z10_eq (p0:gC) (p1:gC) (p2:Int) (K:Bool→Prop):tfn F_Z10 A_Z10 C_Z10 P_Z10 R_Z10 (p0,p1,p2) K = w_Z10 p0 p1 p2 K := by kernel_rfl
def st_Z10_0 (p0:gC) (p1:gC) (p2:Int) (y0:Int):Int ⊕ Bool := (cond (decide (y0 < (p0.length:Int))) (cond (decide ((IntKind.i64.wrap ((max (p0.getD y0.toNat (0,0)).1 (p1.getD y0.toNat (0,0)).1) - (min (p0.getD y0.toNat (0,0)).1 (p1.getD y0.toNat (0,0)).1))) ≥ p2)) (Sum.inr true) (Sum.inl (IntKind.i64.wrap (y0 + 1)))) (Sum.inr false))
abbrev sp_Z10_0 (p0:gC) (p1:gC) (_p2:Int) (y0:Int):List Prop := [(((decide (y0 < (p0.length:Int)))=true)→((0:Int)≤y0)),(((decide (y0 < (p0.length:Int)))=true)→(y0 < (p0.length:Int))),(((decide (y0 < (p0.length:Int)))=true)→(y0 < (p1.length:Int)))]
def s_Z10 (p0:gC) (p1:gC) (p2:Int):Bool := (lpv false (st_Z10_0 p0 p1 p2) (0:Int))
abbrev pre_Z10 (p0:gC) (p1:gC) (p2:Int):List Prop := [(OkL (st_Z10_0 p0 p1 p2) (sp_Z10_0 p0 p1 p2) (0:Int))]
theorem d_Z10 (p0:gC) (p1:gC) (p2:Int) (K:Bool→Prop) (hp:∀ p∈pre_Z10 p0 p1 p2,p) (h:K (s_Z10 p0 p1 p2)):w_Z10 p0 p1 p2 K := by
 unfold w_Z10
 unfold s_Z10 at h
 obtain ⟨hp0,_⟩ := conj_of hp
 exact (loop_gen (hp0) h (fun y0 k0 hp h => by
 unfold st_Z10_0 at h; obtain ⟨hp0,hp1,hp2,_⟩ := conj_of hp
 exact (br' h (fun e1 h => ⟨(hp0 e1),(hp1 e1),(hp0 e1),(hp2 e1),(br' h (fun e2 h => h)
  (fun e2 h => h))⟩)
  (fun e1 h => h))))
/-- How far apart; whether two models disagree by a step. -/
def v_far (x z:Int):Int := max (x - z) (0 - (x - z))
def v_dis (p0 p1:gC) (p2:Int):Bool := v_scan (fun i x => cond (decide (p2≤v_far x.1 (p1.getD i.toNat (0,0)).1)) (some true) none) false 0 p0
theorem l_Z10_0 (p0 p1:gC) (p2:Int) (h0:v_mok p0) (h1:v_mok p1) (he:p0.length = p1.length):OkL (st_Z10_0 p0 p1 p2) (sp_Z10_0 p0 p1 p2) 0∧lpv false (st_Z10_0 p0 p1 p2) 0 = v_dis p0 p1 p2 := by
 have hl := h0.len
 refine scan_is p0 (0,0) (fun i x => cond (decide (p2≤v_far x.1 (p1.getD i.toNat (0,0)).1)) (some true) none) false (lenOk_le hl (by decide)) ?_ ?_
 ·refine ⟨by simp only [sp_Z10_0,fM,decide_eq_true_eq]; simp,by simp [st_Z10_0]⟩
 ·intro j hj
  have hj' : (j:Int) < p0.length := by omega
  refine ⟨by simp only [sp_Z10_0,fM,decide_eq_true_eq,Int.toNat_natCast]; simp <;> omega,?_⟩
  have c1 := (h0.ok _ (v_getD_mem (d := (0,0)) hj)).c
  have c2 := (h1.ok _ (v_getD_mem (d := (0,0)) (show j < p1.length by omega))).c
  simp only [st_Z10_0,hj',decide_true,Int.toNat_natCast,cond_true,wrap_nat (show (j:Int)≤9223372036854775806 by omega)]
  have key:∀ x z:Int,1≤x∧x≤20→1≤z∧z≤20→decide (IntKind.i64.wrap (max x z - min x z) ≥ p2)=decide (p2≤v_far x z) := fun x z c1 c2 => by
   rw [wrap_id (by omega) (by omega),show max x z - min x z = v_far x z by unfold v_far; omega]
  rw [key _ _ c1 c2]
  cases decide (p2≤v_far (p0.getD j (0,0)).1 (p1.getD j (0,0)).1) <;> rfl
abbrev t_Z10 (p0:gC) (p1:gC) (p2:Int):Bool := v_dis p0 p1 p2
abbrev qre_Z10 (p0:gC) (p1:gC) (_p2:Int):List Prop := [v_mok p0,v_mok p1,p0.length = p1.length]
theorem pp_Z10 (p0:gC) (p1:gC) (p2:Int) (hq:∀ p∈qre_Z10 p0 p1 p2,p):∀ p∈pre_Z10 p0 p1 p2,p := by
 obtain ⟨h0,h1,h2,_⟩ := conj_of hq
 simp only [pre_Z10,fM]
 exact ⟨(l_Z10_0 p0 p1 p2 h0 h1 h2).1,(by intro p hp; cases hp)⟩
theorem tt_Z10 (p0:gC) (p1:gC) (p2:Int) (hq:∀ p∈qre_Z10 p0 p1 p2,p):s_Z10 p0 p1 p2 = t_Z10 p0 p1 p2 := by
 obtain ⟨h0,h1,h2,_⟩ := conj_of hq
 exact (l_Z10_0 p0 p1 p2 h0 h1 h2).2

abbrev con_Z10:Con := ⟨P_Z10,R_Z10,fun x => qre_Z10 x.1 x.2.1 x.2.2,fun x => t_Z10 x.1 x.2.1 x.2.2⟩
theorem ok_Z10:ConOk Tryz.prog 55 con_Z10 := okG k_Z10 e_Z10 hC_Z10 fun x hx => tf_of (w_Z10_eq x.1 x.2.1 x.2.2 _) (d_Z10 x.1 x.2.1 x.2.2 _ (pp_Z10 x.1 x.2.1 x.2.2 hx) (tt_Z10 x.1 x.2.1 x.2.2 hx))
def C_Ze:Cons := [(48,[],con_Z21),(54,[],con_Zh),(52,[],con_Z4),(53,[],con_Zm),(49,[],con_Zl),(50,[],con_Zj),(55,[],con_Z10)]
theorem hC_Ze:ConsOk Tryz.prog C_Ze := cC ok_Z21 <| cC ok_Zh <| cC ok_Z4 <| cC ok_Zm <| cC ok_Zl <| cC ok_Zj <| cC ok_Z10 <| ConsOk.nil
abbrev q0_Ze (p0:gA) (p1:gB) (p2:Int) := ((v_first ((v_cc p0).2 :: ((v_cd p1).2 :: ([]:List Int)))) :: ((s_Z4 (s_Zh p2 zz1 (20:Int)) zz2) :: ([]:List Int)))
def w_Ze (p0:gA) (p1:gB) (p2:Int) (K:((Int×Int)×Int)→Prop):Prop := ((v_few p0) ∧((lenOk (q0_Ze p0 p1 p2)) ∧(((((v_first (q0_Ze p0 p1 p2)) != zz0)=true) →(K ((zz0,zz0),(v_first (q0_Ze p0 p1 p2))))) ∧((((v_first (q0_Ze p0 p1 p2)) != zz0)=false) →((v_clok p0) ∧((v_dat p1) ∧(∃ n0,(loopP (fun (y1:Int) k2 => ((((decide (y1 < (((v_expn p1 (v_mdls p0)).length:Nat):Int)))=true) →((zz0≤y1) ∧((y1 < (((v_expn p1 (v_mdls p0)).length:Nat):Int)) ∧((zz0≤(wi (y1 + zz1))) ∧(((wi (y1 + zz1))≤(((v_expn p1 (v_mdls p0)).length:Nat):Int)) ∧(∃ n3,(loopP (fun (y4:Int) k5 => ((((decide (y4 < (((List.length (List.drop (Int.toNat (wi (y1 + zz1))) (v_expn p1 (v_mdls p0)))):Nat):Int)))=true) →((zz0≤y4) ∧((y4 < (((List.length (List.drop (Int.toNat (wi (y1 + zz1))) (v_expn p1 (v_mdls p0)))):Nat):Int)) ∧((v_cne p0) ∧(((zz0≤(List.getD (v_expn p1 (v_mdls p0)) y1.toNat zz0)) ∧((List.getD (v_expn p1 (v_mdls p0)) y1.toNat zz0)≤9223372036854775807)) ∧((v_cne p0) ∧(((zz0≤(List.getD (List.drop (Int.toNat (wi (y1 + zz1))) (v_expn p1 (v_mdls p0))) y4.toNat zz0)) ∧((List.getD (List.drop (Int.toNat (wi (y1 + zz1))) (v_expn p1 (v_mdls p0))) y4.toNat zz0)≤9223372036854775807)) ∧((v_mok (v_mdl p0 (List.getD (v_expn p1 (v_mdls p0)) y1.toNat zz0))) ∧((v_mok (v_mdl p0 (List.getD (List.drop (Int.toNat (wi (y1 + zz1))) (v_expn p1 (v_mdls p0))) y4.toNat zz0))) ∧(((List.length (v_mdl p0 (List.getD (v_expn p1 (v_mdls p0)) y1.toNat zz0)))=(List.length (v_mdl p0 (List.getD (List.drop (Int.toNat (wi (y1 + zz1))) (v_expn p1 (v_mdls p0))) y4.toNat zz0)))) ∧((((v_dis (v_mdl p0 (List.getD (v_expn p1 (v_mdls p0)) y1.toNat zz0)) (v_mdl p0 (List.getD (List.drop (Int.toNat (wi (y1 + zz1))) (v_expn p1 (v_mdls p0))) y4.toNat zz0)) p2)=true) →(K (((List.getD (v_expn p1 (v_mdls p0)) y1.toNat zz0),(List.getD (List.drop (Int.toNat (wi (y1 + zz1))) (v_expn p1 (v_mdls p0))) y4.toNat zz0)),zz0))) ∧(((v_dis (v_mdl p0 (List.getD (v_expn p1 (v_mdls p0)) y1.toNat zz0)) (v_mdl p0 (List.getD (List.drop (Int.toNat (wi (y1 + zz1))) (v_expn p1 (v_mdls p0))) y4.toNat zz0)) p2)=false) →(k5 (wi (y4 + zz1))))))))))))))) ∧(((decide (y4 < (((List.length (List.drop (Int.toNat (wi (y1 + zz1))) (v_expn p1 (v_mdls p0)))):Nat):Int)))=false) →(k2 (wi (y1 + zz1)))))) n3 zz0))))))) ∧(((decide (y1 < (((v_expn p1 (v_mdls p0)).length:Nat):Int)))=false) →(K ((zz0,zz0),(12:Int)))))) n0 zz0))))))))
theorem w_Ze_eq (p0:gA) (p1:gB) (p2:Int) (K:((Int×Int)×Int)→Prop):tfn F_Ze A_Ze C_Ze P_Ze R_Ze (p0,p1,p2) K = w_Ze p0 p1 p2 K := by kernel_rfl
def st_Ze_0 (p0:gA) (p1:gB) (p2:Int) (y1:Int) (y3:Int):Int ⊕ (Int ⊕ ((Int×Int)×Int)) := (cond (decide (y3 < (((List.length (List.drop (Int.toNat (IntKind.i64.wrap (y1 + 1))) (v_expn p1 (v_mdls p0)))):Nat):Int))) (cond (v_dis (v_mdl p0 (List.getD (v_expn p1 (v_mdls p0)) y1.toNat (0:Int))) (v_mdl p0 (List.getD (List.drop (Int.toNat (IntKind.i64.wrap (y1 + 1))) (v_expn p1 (v_mdls p0))) y3.toNat (0:Int))) p2) (Sum.inr (Sum.inr (((List.getD (v_expn p1 (v_mdls p0)) y1.toNat (0:Int)),(List.getD (List.drop (Int.toNat (IntKind.i64.wrap (y1 + 1))) (v_expn p1 (v_mdls p0))) y3.toNat (0:Int))),(0:Int)))) (Sum.inl (IntKind.i64.wrap (y3 + 1)))) (Sum.inr (Sum.inl (IntKind.i64.wrap (y1 + 1)))))
abbrev sp_Ze_0 (p0:gA) (p1:gB) (_p2:Int) (y1:Int) (y3:Int):List Prop := [(((decide (y3 < (((List.length (List.drop (Int.toNat (IntKind.i64.wrap (y1 + 1))) (v_expn p1 (v_mdls p0)))):Nat):Int)))=true)→((0:Int)≤y3)),(((decide (y3 < (((List.length (List.drop (Int.toNat (IntKind.i64.wrap (y1 + 1))) (v_expn p1 (v_mdls p0)))):Nat):Int)))=true)→(y3 < (((List.length (List.drop (Int.toNat (IntKind.i64.wrap (y1 + 1))) (v_expn p1 (v_mdls p0)))):Nat):Int))),(((decide (y3 < (((List.length (List.drop (Int.toNat (IntKind.i64.wrap (y1 + 1))) (v_expn p1 (v_mdls p0)))):Nat):Int)))=true)→(v_cne p0)),(((decide (y3 < (((List.length (List.drop (Int.toNat (IntKind.i64.wrap (y1 + 1))) (v_expn p1 (v_mdls p0)))):Nat):Int)))=true)→(((0:Int)≤(List.getD (v_expn p1 (v_mdls p0)) y1.toNat (0:Int)))∧((List.getD (v_expn p1 (v_mdls p0)) y1.toNat (0:Int))≤9223372036854775807))),(((decide (y3 < (((List.length (List.drop (Int.toNat (IntKind.i64.wrap (y1 + 1))) (v_expn p1 (v_mdls p0)))):Nat):Int)))=true)→(((0:Int)≤(List.getD (List.drop (Int.toNat (IntKind.i64.wrap (y1 + 1))) (v_expn p1 (v_mdls p0))) y3.toNat (0:Int)))∧((List.getD (List.drop (Int.toNat (IntKind.i64.wrap (y1 + 1))) (v_expn p1 (v_mdls p0))) y3.toNat (0:Int))≤9223372036854775807))),(((decide (y3 < (((List.length (List.drop (Int.toNat (IntKind.i64.wrap (y1 + 1))) (v_expn p1 (v_mdls p0)))):Nat):Int)))=true)→(v_mok (v_mdl p0 (List.getD (v_expn p1 (v_mdls p0)) y1.toNat (0:Int))))),(((decide (y3 < (((List.length (List.drop (Int.toNat (IntKind.i64.wrap (y1 + 1))) (v_expn p1 (v_mdls p0)))):Nat):Int)))=true)→(v_mok (v_mdl p0 (List.getD (List.drop (Int.toNat (IntKind.i64.wrap (y1 + 1))) (v_expn p1 (v_mdls p0))) y3.toNat (0:Int))))),(((decide (y3 < (((List.length (List.drop (Int.toNat (IntKind.i64.wrap (y1 + 1))) (v_expn p1 (v_mdls p0)))):Nat):Int)))=true)→((List.length (v_mdl p0 (List.getD (v_expn p1 (v_mdls p0)) y1.toNat (0:Int))))=(List.length (v_mdl p0 (List.getD (List.drop (Int.toNat (IntKind.i64.wrap (y1 + 1))) (v_expn p1 (v_mdls p0))) y3.toNat (0:Int))))))]
def st_Ze_1 (p0:gA) (p1:gB) (p2:Int) (y1:Int):Int ⊕ ((Int×Int)×Int) := (cond (decide (y1 < (((v_expn p1 (v_mdls p0)).length:Nat):Int))) (lpv (Sum.inr ((0,0),(0:Int))) (st_Ze_0 p0 p1 p2 y1) (0:Int)) (Sum.inr ((0,0),(12:Int))))
abbrev sp_Ze_1 (p0:gA) (p1:gB) (p2:Int) (y1:Int):List Prop := [(((decide (y1 < (((v_expn p1 (v_mdls p0)).length:Nat):Int)))=true)→((0:Int)≤y1)),(((decide (y1 < (((v_expn p1 (v_mdls p0)).length:Nat):Int)))=true)→(y1 < (((v_expn p1 (v_mdls p0)).length:Nat):Int))),(((decide (y1 < (((v_expn p1 (v_mdls p0)).length:Nat):Int)))=true)→((0:Int)≤(IntKind.i64.wrap (y1 + 1)))),(((decide (y1 < (((v_expn p1 (v_mdls p0)).length:Nat):Int)))=true)→((IntKind.i64.wrap (y1 + 1))≤(((v_expn p1 (v_mdls p0)).length:Nat):Int))),(((decide (y1 < (((v_expn p1 (v_mdls p0)).length:Nat):Int)))=true)→(OkL (st_Ze_0 p0 p1 p2 y1) (sp_Ze_0 p0 p1 p2 y1) (0:Int)))]
def s_Ze (p0:gA) (p1:gB) (p2:Int):((Int×Int)×Int) := (cond ((v_first ((v_first ((v_cc p0).2 :: ((v_cd p1).2 :: ([]:List Int)))) :: ((s_Z4 (s_Zh p2 (1:Int) (20:Int)) (2:Int)) :: ([]:List Int)))) != 0) ((0,0),(v_first ((v_first ((v_cc p0).2 :: ((v_cd p1).2 :: ([]:List Int)))) :: ((s_Z4 (s_Zh p2 (1:Int) (20:Int)) (2:Int)) :: ([]:List Int))))) (lpv ((0,0),(0:Int)) (st_Ze_1 p0 p1 p2) (0:Int)))
abbrev pre_Ze (p0:gA) (p1:gB) (p2:Int):List Prop := [(v_few p0),((((v_first ((v_first ((v_cc p0).2 :: ((v_cd p1).2 :: ([]:List Int)))) :: ((s_Z4 (s_Zh p2 (1:Int) (20:Int)) (2:Int)) :: ([]:List Int)))) != 0)=false)→(v_clok p0)),((((v_first ((v_first ((v_cc p0).2 :: ((v_cd p1).2 :: ([]:List Int)))) :: ((s_Z4 (s_Zh p2 (1:Int) (20:Int)) (2:Int)) :: ([]:List Int)))) != 0)=false)→(v_dat p1)),((((v_first ((v_first ((v_cc p0).2 :: ((v_cd p1).2 :: ([]:List Int)))) :: ((s_Z4 (s_Zh p2 (1:Int) (20:Int)) (2:Int)) :: ([]:List Int)))) != 0)=false)→(OkL (st_Ze_1 p0 p1 p2) (sp_Ze_1 p0 p1 p2) (0:Int)))]
theorem d_Ze (p0:gA) (p1:gB) (p2:Int) (K:((Int×Int)×Int)→Prop) (hp:∀ p∈pre_Ze p0 p1 p2,p) (h:K (s_Ze p0 p1 p2)):w_Ze p0 p1 p2 K := by
 unfold w_Ze
 unfold s_Ze at h
 obtain ⟨hp0,hp1,hp2,hp3,_⟩ := conj_of hp
 exact ⟨(hp0),(lenOk_of 2 rfl (by decide)),(br' h (fun e0 h => h)
  (fun e0 h => ⟨(hp1 e0),(hp2 e0),(loop_gen (hp3 e0) h (fun y1 k1 hp h => by
 unfold st_Ze_1 at h; obtain ⟨hp0,hp1,hp2,hp3,hp4,_⟩ := conj_of hp
 exact (br' h (fun e2 h => ⟨(hp0 e2),(hp1 e2),(hp2 e2),(hp3 e2),(loop_gen (hp4 e2) h (fun y3 k3 hp h => by
 unfold st_Ze_0 at h; obtain ⟨hp0,hp1,hp2,hp3,hp4,hp5,hp6,hp7,_⟩ := conj_of hp
 exact (br' h (fun e4 h => ⟨(hp0 e4),(hp1 e4),(hp2 e4),(hp3 e4),(hp2 e4),(hp4 e4),(hp5 e4),(hp6 e4),(hp7 e4),(br' h (fun e5 h => h)
  (fun e5 h => h))⟩)
  (fun e4 h => h))))⟩)
  (fun e2 h => h))))⟩))⟩
/-- The first one that disagrees with a number; the first two that disagree. -/
def v_two1 (c:gA) (s a:Int):List Int→Option Int
 | [] => none
 | b :: r => cond (v_dis (v_mdl c a) (v_mdl c b) s) (some b) (v_two1 c s a r)
def v_two (c:gA) (s:Int):List Int→Option (Int×Int)
 | [] => none
 | a :: r => match v_two1 c s a r with
  | some b => some (a,b)
  | none => v_two c s r
def v_twoof (c:gA) (d:gB) (s:Int):(Int×Int)×Int := cond ((v_cc c).2 != 0) ((0,0),(v_cc c).2) (cond ((v_cd d).2 != 0) ((0,0),(v_cd d).2) (cond (s_Z3 s 1 20) (match v_two c s (v_expn d (v_mdls c)) with | some p => (p,0) | none => ((0,0),12)) ((0,0),2)))
theorem tx_tw {a b c:Int} (h:(v_first [v_first [a,b],c] != 0)=false):a = 0∧b = 0∧c = 0 := by
 obtain ⟨h1,h2⟩ := v_first0 (bne0' h)
 obtain ⟨h3,h4⟩ := v_first0 h1
 obtain ⟨h5,_⟩ := v_first0 h4
 obtain ⟨h6,_⟩ := v_first0 h2
 exact ⟨h3,h5,h6⟩
theorem v_expn_nn {d:List (Int×Int×Int)} {l:List (List Int×List Int)} (h:v_clok l) {n:Int} (hn:n∈v_expn d (v_mdls l)):0≤n∧n≤9223372036854775807∧v_mok (v_mdl l n) := by
 have := v_expn_num hn
 have := h.cnt
 exact ⟨by omega,by omega,v_mdl_mok h (by omega)⟩
theorem l_Ze_0 (p0:gA) (p1:gB) (p2:Int) (hc:v_clok p0) {k:Nat} (hk:k < (v_expn p1 (v_mdls p0)).length):OkL (st_Ze_0 p0 p1 p2 (k:Int)) (sp_Ze_0 p0 p1 p2 (k:Int)) 0∧lpv (Sum.inr ((0,0),0)) (st_Ze_0 p0 p1 p2 (k:Int)) 0 = match v_two1 p0 p2 ((v_expn p1 (v_mdls p0)).getD k 0) ((v_expn p1 (v_mdls p0)).drop (k + 1)) with
  | some b => Sum.inr (((v_expn p1 (v_mdls p0)).getD k 0,b),0)
  | none => Sum.inl ((k + 1:Nat):Int) := by
 have hel := v_expn_len p1 (v_mdls p0)
 rw [v_mdls_len] at hel
 have hcnt := hc.cnt
 have hwk:IntKind.i64.wrap ((k:Int) + 1)=((k + 1:Nat):Int) := wrap_id (by omega) (by omega)
 have hd:((v_expn p1 (v_mdls p0)).drop (k + 1)).length = (v_expn p1 (v_mdls p0)).length - (k + 1) := List.length_drop
 have hka := v_expn_nn hc (v_getD_mem (d := 0) hk)
 refine @for_is Unit Int (Int ⊕ ((Int×Int)×Int)) (Sum.inr ((0,0),0)) (st_Ze_0 p0 p1 p2 (k:Int)) (sp_Ze_0 p0 p1 p2 (k:Int)) (fun i _ => i) 0 ((v_expn p1 (v_mdls p0)).drop (k + 1)).length (fun _ _ => True) (fun i _ => match v_two1 p0 p2 ((v_expn p1 (v_mdls p0)).getD k 0) (((v_expn p1 (v_mdls p0)).drop (k + 1)).drop i) with
  | some b => Sum.inr (((v_expn p1 (v_mdls p0)).getD k 0,b),0)
  | none => Sum.inl ((k + 1:Nat):Int)) (by omega) (by omega) ?_ ?_ () trivial
 ·rintro u -
  rw [List.drop_length]
  simp only [sp_Ze_0,st_Ze_0,fM,hwk,Int.toNat_natCast,show decide ((((v_expn p1 (v_mdls p0)).drop (k + 1)).length:Int) < (((v_expn p1 (v_mdls p0)).drop (k + 1)).length:Int))=false from decide_eq_false (by omega),cond_false]
  refine ⟨?_,rfl⟩
  and_intros
  all_goals first
   | (intro h; cases h; done)
   | (intro p hp; cases hp)
 ·rintro j u - hj -
  have hd1:decide ((j:Int) < (((v_expn p1 (v_mdls p0)).drop (k + 1)).length:Int))=true := decide_eq_true (by omega)
  have hw1:IntKind.i64.wrap ((j:Int) + 1)=((j + 1:Nat):Int) := wrap_id (by omega) (by omega)
  have hkb := v_expn_nn hc (List.mem_of_mem_drop (v_getD_mem (d := 0) hj))
  have hdr := drop_getD (0:Int) hj
  have hlen:(v_mdl p0 ((v_expn p1 (v_mdls p0)).getD k 0)).length = (v_mdl p0 (((v_expn p1 (v_mdls p0)).drop (k + 1)).getD j 0)).length := by
   have h1:∀ n,(v_mdl p0 n).length = p0.length := fun n => v_mod_len p0 n
   rw [h1,h1]
  simp only [sp_Ze_0,st_Ze_0,fM,hwk,Int.toNat_natCast,hd1,cond_true,hw1,hdr]
  generalize ((v_expn p1 (v_mdls p0)).drop (k + 1)).getD j 0 = b at *
  generalize (v_expn p1 (v_mdls p0)).getD k 0 = a at *
  refine ⟨?_,?_⟩
  ·and_intros
   all_goals first
    | (intro p hp; cases hp; done)
    | exact fun _ => hc.cne
    | exact fun _ => hka.2.2
    | exact fun _ => hkb.2.2
    | exact fun _ => hlen
    | (intros; omega)
  ·have e:v_two1 p0 p2 a (b :: ((v_expn p1 (v_mdls p0)).drop (k + 1)).drop (j + 1))=cond (v_dis (v_mdl p0 a) (v_mdl p0 b) p2) (some b) (v_two1 p0 p2 a (((v_expn p1 (v_mdls p0)).drop (k + 1)).drop (j + 1))) := rfl
   rw [e]
   cases v_dis (v_mdl p0 a) (v_mdl p0 b) p2
   ·exact .inl ⟨(),rfl,trivial,rfl⟩
   ·exact .inr rfl
theorem l_Ze_1 (p0:gA) (p1:gB) (p2:Int) (hc:v_clok p0):OkL (st_Ze_1 p0 p1 p2) (sp_Ze_1 p0 p1 p2) 0∧lpv ((0,0),0) (st_Ze_1 p0 p1 p2) 0 = match v_two p0 p2 (v_expn p1 (v_mdls p0)) with
  | some p => (p,0)
  | none => ((0,0),12) := by
 have hel := v_expn_len p1 (v_mdls p0)
 rw [v_mdls_len] at hel
 have hcnt := hc.cnt
 refine @for_is Unit Int ((Int×Int)×Int) ((0,0),0) (st_Ze_1 p0 p1 p2) (sp_Ze_1 p0 p1 p2) (fun i _ => i) 0 (v_expn p1 (v_mdls p0)).length (fun _ _ => True) (fun i _ => match v_two p0 p2 ((v_expn p1 (v_mdls p0)).drop i) with
  | some p => (p,0)
  | none => ((0,0),12)) (by omega) (by omega) ?_ ?_ () trivial
 ·rintro u -
  rw [List.drop_length]
  simp only [sp_Ze_1,st_Ze_1,fM,show decide (((v_expn p1 (v_mdls p0)).length:Int) < ((v_expn p1 (v_mdls p0)).length:Int))=false from decide_eq_false (by omega),cond_false]
  refine ⟨?_,rfl⟩
  and_intros
  all_goals first
   | (intro h; cases h; done)
   | (intro p hp; cases hp)
 ·rintro j u - hj -
  have hd1:decide ((j:Int) < ((v_expn p1 (v_mdls p0)).length:Int))=true := decide_eq_true (by omega)
  have hw1:IntKind.i64.wrap ((j:Int) + 1)=((j + 1:Nat):Int) := wrap_id (by omega) (by omega)
  have hdr := drop_getD (0:Int) hj
  obtain ⟨o0,v0⟩ := l_Ze_0 p0 p1 p2 hc hj
  simp only [sp_Ze_1,st_Ze_1,fM,hd1,cond_true,hw1,hdr,v0]
  refine ⟨?_,?_⟩
  ·and_intros
   all_goals first
    | (intro p hp; cases hp; done)
    | exact fun _ => o0
    | (intros; omega)
  ·generalize (v_expn p1 (v_mdls p0)).getD j 0 = a at *
   have e:v_two p0 p2 (a :: (v_expn p1 (v_mdls p0)).drop (j + 1))=match v_two1 p0 p2 a ((v_expn p1 (v_mdls p0)).drop (j + 1)) with | some b => some (a,b) | none => v_two p0 p2 ((v_expn p1 (v_mdls p0)).drop (j + 1)) := rfl
   rw [e]
   cases v_two1 p0 p2 a ((v_expn p1 (v_mdls p0)).drop (j + 1)) with
   | none => exact .inl ⟨(),rfl,trivial,rfl⟩
   | some b => exact .inr rfl
abbrev t_Ze (p0:gA) (p1:gB) (p2:Int):(Int×Int)×Int := v_twoof p0 p1 p2
abbrev qre_Ze (p0:gA) (_p1:gB) (_p2:Int):List Prop := [v_few p0]
theorem pp_Ze (p0:gA) (p1:gB) (p2:Int) (hq:∀ p∈qre_Ze p0 p1 p2,p):∀ p∈pre_Ze p0 p1 p2,p := by
 obtain ⟨h1,_⟩ := conj_of hq
 simp only [pre_Ze,fM]
 exact ⟨h1,fun h => tx_cc_ok h1 (tx_tw h).1,fun h => (tx_cd_ok (tx_tw h).2.1).1,fun h => (l_Ze_1 p0 p1 p2 (tx_cc_ok h1 (tx_tw h).1)).1,(by intro p hp; cases hp)⟩
theorem tt_Ze (p0:gA) (p1:gB) (p2:Int) (hq:∀ p∈qre_Ze p0 p1 p2,p):s_Ze p0 p1 p2 = t_Ze p0 p1 p2 := by
 obtain ⟨h1,_⟩ := conj_of hq
 unfold s_Ze t_Ze v_twoof
 rcases int0 (v_cc p0).2 with ⟨z,e,_⟩ | ⟨z,e,_⟩ <;> rw [e]
 ·rcases int0 (v_cd p1).2 with ⟨y,f,_⟩ | ⟨y,f,_⟩ <;> rw [cond_false,f]
  ·rw [(l_Ze_1 p0 p1 p2 (tx_cc_ok h1 z)).2,z,y,tx_withinG]
   unfold s_Z4
   cases s_Z3 p2 1 20 <;> rfl
  ·rw [cond_true]
   have:v_first [v_first [(v_cc p0).2,(v_cd p1).2],s_Z4 (s_Zh p2 1 20) 2]=(v_cd p1).2 := by
    rw [z]
    simp [v_first,f]
   rw [this,f]; rfl
 ·rw [cond_true]
  have:v_first [v_first [(v_cc p0).2,(v_cd p1).2],s_Z4 (s_Zh p2 1 20) 2]=(v_cc p0).2 := by
   simp [v_first,e]
  rw [this,e]; rfl

abbrev con_Ze:Con := ⟨P_Ze,R_Ze,fun x => qre_Ze x.1 x.2.1 x.2.2,fun x => t_Ze x.1 x.2.1 x.2.2⟩
theorem ok_Ze:ConOk Tryz.prog 14 con_Ze := okG k_Ze e_Ze hC_Ze fun x hx => tf_of (w_Ze_eq x.1 x.2.1 x.2.2 _) (d_Ze x.1 x.2.1 x.2.2 _ (pp_Ze x.1 x.2.1 x.2.2 hx) (tt_Ze x.1 x.2.1 x.2.2 hx))
def C_Z2e:Cons := [(57,[],con_Z2)]
theorem hC_Z2e:ConsOk Tryz.prog C_Z2e := cC ok_Z2 <| ConsOk.nil
def w_Z2e (p0:gB) (K:Int→Prop):Prop := (K (v_cd p0).2)
theorem w_Z2e_eq (p0:gB) (K:Int→Prop):tfn F_Z2e A_Z2e C_Z2e P_Z2e R_Z2e p0 K = w_Z2e p0 K := by kernel_rfl
def s_Z2e (p0:gB):Int := (v_cd p0).2
abbrev pre_Z2e (_p0:gB):List Prop := []
theorem d_Z2e (p0:gB) (K:Int→Prop) (_hp:∀ p∈pre_Z2e p0,p) (h:K (s_Z2e p0)):w_Z2e p0 K := by
 unfold w_Z2e
 unfold s_Z2e at h
 exact h
abbrev con_Z2e:Con := ⟨P_Z2e,R_Z2e,fun x => pre_Z2e x,fun x => s_Z2e x⟩
theorem ok_Z2e:ConOk Tryz.prog 16 con_Z2e := okG k_Z2e e_Z2e hC_Z2e fun x hx => tf_of (w_Z2e_eq x _) (d_Z2e x _ hx rfl)
def C_Z1v:Cons := [(97,[],con_Z19),(120,[],con_Z1l)]
theorem hC_Z1v:ConsOk Tryz.prog C_Z1v := cC ok_Z19 <| cC ok_Z1l <| ConsOk.nil
def w_Z1v (p0:gD) (K:((Int×(List Int))×(Int×(List Int)))→Prop):Prop := ((v_fit (1000:Int)) ∧((v_rok p0) ∧((v_rok (v_rint (1000:Int))) ∧(K (v_rmul p0 (v_rint (1000:Int)))))))
theorem w_Z1v_eq (p0:gD) (K:((Int×(List Int))×(Int×(List Int)))→Prop):tfn F_Z1v A_Z1v C_Z1v P_Z1v R_Z1v p0 K = w_Z1v p0 K := by kernel_rfl
def s_Z1v (p0:gD):((Int×(List Int))×(Int×(List Int))) := (v_rmul p0 (v_rint (1000:Int)))
abbrev pre_Z1v (p0:gD):List Prop := [(v_fit (1000:Int)),(v_rok p0),(v_rok (v_rint (1000:Int)))]
theorem d_Z1v (p0:gD) (K:((Int×(List Int))×(Int×(List Int)))→Prop) (hp:∀ p∈pre_Z1v p0,p) (h:K (s_Z1v p0)):w_Z1v p0 K := by
 unfold w_Z1v
 unfold s_Z1v at h
 obtain ⟨hp0,hp1,hp2,_⟩ := conj_of hp
 exact ⟨(hp0),(hp1),(hp2),h⟩
/-- 1000 times a number. -/
def v_thou (p:(Int×List Int)×(Int×List Int)):(Int×List Int)×(Int×List Int) := v_rat (v_rv p * ((1000:Int):Rat))
abbrev t_Z1v (p0:(Int×List Int)×(Int×List Int)):(Int×List Int)×(Int×List Int) := v_thou p0
abbrev qre_Z1v (p0:(Int×List Int)×(Int×List Int)):List Prop := [v_rok p0]
theorem pp_Z1v (p0:(Int×List Int)×(Int×List Int)) (hq:∀ p∈qre_Z1v p0,p):∀ p∈pre_Z1v p0,p := by
 obtain ⟨h1,_⟩ := conj_of hq
 have k1:v_rok (v_rint 1000) := (v_rb_int (A := 1000) (by decide) (by decide)).ok (by decide)
 simp only [pre_Z1v,fM]
 and_intros
 all_goals first
  | (intro p hp; cases hp; done)
  | (intros; assumption)
  | (intros; rw [v_wval_wide]; assumption)
  | (intros; apply v_wok_of; omega)
  | (intros; rw [v_wide_len]; omega)
  | omega
  | (unfold v_fit at *; omega)
theorem tt_Z1v (p0:(Int×List Int)×(Int×List Int)) (_hq:∀ p∈qre_Z1v p0,p):s_Z1v p0 = t_Z1v p0 := by
 unfold s_Z1v t_Z1v v_rmul v_rint v_thou
 rw [v_rv_rat]

abbrev con_Z1v:Con := ⟨P_Z1v,R_Z1v,fun x => qre_Z1v x,fun x => t_Z1v x⟩
theorem ok_Z1v:ConOk Tryz.prog 117 con_Z1v := okG k_Z1v e_Z1v hC_Z1v fun x hx => tf_of (w_Z1v_eq x _) (d_Z1v x _ (pp_Z1v x hx) (tt_Z1v x hx))
def C_Z1j:Cons := [(101,[],con_Zc),(100,[],con_Z1k)]
theorem hC_Z1j:ConsOk Tryz.prog C_Z1j := cC ok_Zc <| cC ok_Z1k <| ConsOk.nil
def w_Z1j (p0:gD) (p1:gD) (K:Int→Prop):Prop := ((v_wok p0.1) ∧((v_wok p1.2) ∧((v_wok p1.1) ∧((v_wok p0.2) ∧((v_wok (v_wide ((v_wval p0.1) * (v_wval p1.2)))) ∧((v_wok (v_wide ((v_wval p1.1) * (v_wval p0.2)))) ∧(K (v_cmp (v_wval (v_wide ((v_wval p0.1) * (v_wval p1.2)))) (v_wval (v_wide ((v_wval p1.1) * (v_wval p0.2))))))))))))
theorem w_Z1j_eq (p0:gD) (p1:gD) (K:Int→Prop):tfn F_Z1j A_Z1j C_Z1j P_Z1j R_Z1j (p0,p1) K = w_Z1j p0 p1 K := by kernel_rfl
def s_Z1j (p0:gD) (p1:gD):Int := (v_cmp (v_wval (v_wide ((v_wval p0.1) * (v_wval p1.2)))) (v_wval (v_wide ((v_wval p1.1) * (v_wval p0.2)))))
abbrev pre_Z1j (p0:gD) (p1:gD):List Prop := [(v_wok p0.1),(v_wok p1.2),(v_wok p1.1),(v_wok p0.2),(v_wok (v_wide ((v_wval p0.1) * (v_wval p1.2)))),(v_wok (v_wide ((v_wval p1.1) * (v_wval p0.2))))]
theorem d_Z1j (p0:gD) (p1:gD) (K:Int→Prop) (hp:∀ p∈pre_Z1j p0 p1,p) (h:K (s_Z1j p0 p1)):w_Z1j p0 p1 K := by
 unfold w_Z1j
 unfold s_Z1j at h
 obtain ⟨hp0,hp1,hp2,hp3,hp4,hp5,_⟩ := conj_of hp
 exact ⟨(hp0),(hp1),(hp2),(hp3),(hp4),(hp5),h⟩
abbrev t_Z1j (p0:(Int×List Int)×(Int×List Int)) (p1:(Int×List Int)×(Int×List Int)):Int := v_rcmp p0 p1
abbrev qre_Z1j (p0:(Int×List Int)×(Int×List Int)) (p1:(Int×List Int)×(Int×List Int)):List Prop := [v_rok p0,v_rok p1]
theorem pp_Z1j (p0:(Int×List Int)×(Int×List Int)) (p1:(Int×List Int)×(Int×List Int)) (hq:∀ p∈qre_Z1j p0 p1,p):∀ p∈pre_Z1j p0 p1,p := by
 obtain ⟨h1,h2,_⟩ := conj_of hq
 obtain ⟨p,rfl,a1,a2⟩ := h1.ex
 obtain ⟨q,rfl,b1,b2⟩ := h2.ex
 have m1 := v_dl_mul p.num q.den
 have m2 := v_dl_mul q.num p.den
 simp only [pre_Z1j,fM,v_rat_1,v_rat_2,v_wval_wide]
 and_intros
 all_goals first
  | (intro p hp; cases hp; done)
  | (intros; assumption)
  | (intros; rw [v_wval_wide]; assumption)
  | (intros; apply v_wok_of; omega)
  | (intros; rw [v_wide_len]; omega)
  | omega
  | (unfold v_fit at *; omega)
theorem tt_Z1j (p0:(Int×List Int)×(Int×List Int)) (p1:(Int×List Int)×(Int×List Int)) (hq:∀ p∈qre_Z1j p0 p1,p):s_Z1j p0 p1 = t_Z1j p0 p1 := by
 obtain ⟨h1,h2,_⟩ := conj_of hq
 obtain ⟨p,rfl,a1,a2⟩ := h1.ex
 obtain ⟨q,rfl,b1,b2⟩ := h2.ex
 unfold s_Z1j t_Z1j v_rcmp v_qcmp
 simp only [v_rat_1,v_rat_2,v_rv_rat,v_wval_wide]

abbrev con_Z1j:Con := ⟨P_Z1j,R_Z1j,fun x => qre_Z1j x.1 x.2,fun x => t_Z1j x.1 x.2⟩
theorem ok_Z1j:ConOk Tryz.prog 69 con_Z1j := okG k_Z1j e_Z1j hC_Z1j fun x hx => tf_of (w_Z1j_eq x.1 x.2 _) (d_Z1j x.1 x.2 _ (pp_Z1j x.1 x.2 hx) (tt_Z1j x.1 x.2 hx))
def C_Z1x:Cons := [(138,[],con_Z1b)]
theorem hC_Z1x:ConsOk Tryz.prog C_Z1x := cC ok_Z1b <| ConsOk.nil
def w_Z1x (p0:gD) (K:((Int×(List Int))×(Int×(List Int)))→Prop):Prop := ((v_wok p0.1) ∧(K ((v_wide (-(v_wval p0.1))),p0.2)))
theorem w_Z1x_eq (p0:gD) (K:((Int×(List Int))×(Int×(List Int)))→Prop):tfn F_Z1x A_Z1x C_Z1x P_Z1x R_Z1x p0 K = w_Z1x p0 K := by kernel_rfl
def s_Z1x (p0:gD):((Int×(List Int))×(Int×(List Int))) := ((v_wide (-(v_wval p0.1))),p0.2)
abbrev pre_Z1x (p0:gD):List Prop := [(v_wok p0.1)]
theorem d_Z1x (p0:gD) (K:((Int×(List Int))×(Int×(List Int)))→Prop) (hp:∀ p∈pre_Z1x p0,p) (h:K (s_Z1x p0)):w_Z1x p0 K := by
 unfold w_Z1x
 unfold s_Z1x at h
 obtain ⟨hp0,_⟩ := conj_of hp
 exact ⟨(hp0),h⟩
abbrev t_Z1x (p0:(Int×List Int)×(Int×List Int)):(Int×List Int)×(Int×List Int) := v_rneg p0
abbrev qre_Z1x (p0:(Int×List Int)×(Int×List Int)):List Prop := [v_rok p0]
theorem pp_Z1x (p0:(Int×List Int)×(Int×List Int)) (hq:∀ p∈qre_Z1x p0,p):∀ p∈pre_Z1x p0,p := by
 obtain ⟨h1,_⟩ := conj_of hq
 obtain ⟨q,rfl,d1,d2⟩ := h1.ex
 simp only [pre_Z1x,fM,v_rat_1,v_rat_2]
 and_intros
 all_goals first
  | (intro p hp; cases hp; done)
  | (intros; assumption)
  | (intros; rw [v_wval_wide]; assumption)
  | (intros; apply v_wok_of; omega)
  | (intros; rw [v_wide_len]; omega)
  | omega
  | (unfold v_fit at *; omega)
theorem tt_Z1x (p0:(Int×List Int)×(Int×List Int)) (hq:∀ p∈qre_Z1x p0,p):s_Z1x p0 = t_Z1x p0 := by
 obtain ⟨h1,_⟩ := conj_of hq
 obtain ⟨q,rfl,d1,d2⟩ := h1.ex
 unfold s_Z1x t_Z1x v_rneg
 rw [v_rat_1,v_rat_2,v_rv_rat,v_wval_wide]
 unfold v_rat
 rw [Rat.neg_num,Rat.neg_den]

abbrev con_Z1x:Con := ⟨P_Z1x,R_Z1x,fun x => qre_Z1x x,fun x => t_Z1x x⟩
theorem ok_Z1x:ConOk Tryz.prog 135 con_Z1x := okG k_Z1x e_Z1x hC_Z1x fun x hx => tf_of (w_Z1x_eq x _) (d_Z1x x _ (pp_Z1x x hx) (tt_Z1x x hx))
def C_Z1w:Cons := [(135,[],con_Z1x),(121,[],con_Z1m)]
theorem hC_Z1w:ConsOk Tryz.prog C_Z1w := cC ok_Z1x <| cC ok_Z1m <| ConsOk.nil
def w_Z1w (p0:gD) (p1:gD) (K:((Int×(List Int))×(Int×(List Int)))→Prop):Prop := ((v_rok p1) ∧((v_rok p0) ∧((v_rok (v_rneg p1)) ∧(K (v_radd p0 (v_rneg p1))))))
theorem w_Z1w_eq (p0:gD) (p1:gD) (K:((Int×(List Int))×(Int×(List Int)))→Prop):tfn F_Z1w A_Z1w C_Z1w P_Z1w R_Z1w (p0,p1) K = w_Z1w p0 p1 K := by kernel_rfl
def s_Z1w (p0:gD) (p1:gD):((Int×(List Int))×(Int×(List Int))) := (v_radd p0 (v_rneg p1))
abbrev pre_Z1w (p0:gD) (p1:gD):List Prop := [(v_rok p1),(v_rok p0),(v_rok (v_rneg p1))]
theorem d_Z1w (p0:gD) (p1:gD) (K:((Int×(List Int))×(Int×(List Int)))→Prop) (hp:∀ p∈pre_Z1w p0 p1,p) (h:K (s_Z1w p0 p1)):w_Z1w p0 p1 K := by
 unfold w_Z1w
 unfold s_Z1w at h
 obtain ⟨hp0,hp1,hp2,_⟩ := conj_of hp
 exact ⟨(hp0),(hp1),(hp2),h⟩
abbrev t_Z1w (p0:(Int×List Int)×(Int×List Int)) (p1:(Int×List Int)×(Int×List Int)):(Int×List Int)×(Int×List Int) := v_rsub p0 p1
abbrev qre_Z1w (p0:(Int×List Int)×(Int×List Int)) (p1:(Int×List Int)×(Int×List Int)):List Prop := [v_rok p0,v_rok p1]
theorem pp_Z1w (p0:(Int×List Int)×(Int×List Int)) (p1:(Int×List Int)×(Int×List Int)) (hq:∀ p∈qre_Z1w p0 p1,p):∀ p∈pre_Z1w p0 p1,p := by
 obtain ⟨h1,h2,_⟩ := conj_of hq
 obtain ⟨p,rfl,a1,a2⟩ := h1.ex
 obtain ⟨q,rfl,b1,b2⟩ := h2.ex
 have hr:v_rok (v_rneg (v_rat q)) := by unfold v_rneg; rw [v_rv_rat]; exact v_rok_of (by rw [Rat.neg_num,v_dl_neg]; exact b1) (by rw [Rat.neg_den]; exact b2)
 simp only [pre_Z1w,fM]
 and_intros
 all_goals first
  | (intro p hp; cases hp; done)
  | (intros; assumption)
  | (intros; rw [v_wval_wide]; assumption)
  | (intros; apply v_wok_of; omega)
  | (intros; rw [v_wide_len]; omega)
  | omega
  | (unfold v_fit at *; omega)
theorem tt_Z1w (p0:(Int×List Int)×(Int×List Int)) (p1:(Int×List Int)×(Int×List Int)) (hq:∀ p∈qre_Z1w p0 p1,p):s_Z1w p0 p1 = t_Z1w p0 p1 := by
 obtain ⟨h1,h2,_⟩ := conj_of hq
 obtain ⟨p,rfl,a1,a2⟩ := h1.ex
 obtain ⟨q,rfl,b1,b2⟩ := h2.ex
 unfold s_Z1w t_Z1w v_rsub v_radd v_rneg
 rw [v_rv_rat,v_rv_rat,v_rv_rat,Rat.sub_eq_add_neg]

abbrev con_Z1w:Con := ⟨P_Z1w,R_Z1w,fun x => qre_Z1w x.1 x.2,fun x => t_Z1w x.1 x.2⟩
theorem ok_Z1w:ConOk Tryz.prog 118 con_Z1w := okG k_Z1w e_Z1w hC_Z1w fun x hx => tf_of (w_Z1w_eq x.1 x.2 _) (d_Z1w x.1 x.2 _ (pp_Z1w x.1 x.2 hx) (tt_Z1w x.1 x.2 hx))
def C_Z1s:Cons := [(117,[],con_Z1v),(97,[],con_Z19),(69,[],con_Z1j),(118,[],con_Z1w)]
theorem hC_Z1s:ConsOk Tryz.prog C_Z1s := cC ok_Z1v <| cC ok_Z19 <| cC ok_Z1j <| cC ok_Z1w <| ConsOk.nil
def w_Z1s (p0:gD) (p1:(Int×(Int×Int))) (K:((Int×(List Int))×(Int×(List Int)))→Prop):Prop := ((v_rok p0) ∧((v_fit p1.2.1) ∧((v_rok (v_thou p0)) ∧((v_rok (v_rint p1.2.1)) ∧((((decide ((v_rcmp (v_thou p0) (v_rint p1.2.1)) < 0))=true) →((v_rok (v_rint p1.2.1)) ∧((v_rok (v_thou p0)) ∧(K (v_rsub (v_rint p1.2.1) (v_thou p0)))))) ∧(((decide ((v_rcmp (v_thou p0) (v_rint p1.2.1)) < 0))=false) →((v_fit p1.2.2) ∧((v_rok (v_thou p0)) ∧((v_rok (v_rint p1.2.2)) ∧((((decide ((v_rcmp (v_thou p0) (v_rint p1.2.2)) > 0))=true) →((v_rok (v_thou p0)) ∧((v_rok (v_rint p1.2.2)) ∧(K (v_rsub (v_thou p0) (v_rint p1.2.2)))))) ∧(((decide ((v_rcmp (v_thou p0) (v_rint p1.2.2)) > 0))=false) →((v_fit zz0) ∧(K (v_rint zz0))))))))))))))
theorem w_Z1s_eq (p0:gD) (p1:(Int×(Int×Int))) (K:((Int×(List Int))×(Int×(List Int)))→Prop):tfn F_Z1s A_Z1s C_Z1s P_Z1s R_Z1s (p0,p1) K = w_Z1s p0 p1 K := by kernel_rfl
def s_Z1s (p0:gD) (p1:(Int×(Int×Int))):((Int×(List Int))×(Int×(List Int))) := (cond (decide ((v_rcmp (v_thou p0) (v_rint p1.2.1)) < 0)) (v_rsub (v_rint p1.2.1) (v_thou p0)) (cond (decide ((v_rcmp (v_thou p0) (v_rint p1.2.2)) > 0)) (v_rsub (v_thou p0) (v_rint p1.2.2)) (v_rint (0:Int))))
abbrev pre_Z1s (p0:gD) (p1:(Int×(Int×Int))):List Prop := [(v_rok p0),(v_fit p1.2.1),(v_rok (v_thou p0)),(v_rok (v_rint p1.2.1)),(((decide ((v_rcmp (v_thou p0) (v_rint p1.2.1)) < 0))=true)→(v_rok (v_rint p1.2.1))),(((decide ((v_rcmp (v_thou p0) (v_rint p1.2.1)) < 0))=true)→(v_rok (v_thou p0))),(((decide ((v_rcmp (v_thou p0) (v_rint p1.2.1)) < 0))=false)→(v_fit p1.2.2)),(((decide ((v_rcmp (v_thou p0) (v_rint p1.2.1)) < 0))=false)→(v_rok (v_thou p0))),(((decide ((v_rcmp (v_thou p0) (v_rint p1.2.1)) < 0))=false)→(v_rok (v_rint p1.2.2))),(((decide ((v_rcmp (v_thou p0) (v_rint p1.2.1)) < 0))=false)→(((decide ((v_rcmp (v_thou p0) (v_rint p1.2.2)) > 0))=true)→(v_rok (v_thou p0)))),(((decide ((v_rcmp (v_thou p0) (v_rint p1.2.1)) < 0))=false)→(((decide ((v_rcmp (v_thou p0) (v_rint p1.2.2)) > 0))=true)→(v_rok (v_rint p1.2.2)))),(((decide ((v_rcmp (v_thou p0) (v_rint p1.2.1)) < 0))=false)→(((decide ((v_rcmp (v_thou p0) (v_rint p1.2.2)) > 0))=false)→(v_fit (0:Int))))]
theorem d_Z1s (p0:gD) (p1:(Int×(Int×Int))) (K:((Int×(List Int))×(Int×(List Int)))→Prop) (hp:∀ p∈pre_Z1s p0 p1,p) (h:K (s_Z1s p0 p1)):w_Z1s p0 p1 K := by
 unfold w_Z1s
 unfold s_Z1s at h
 obtain ⟨hp0,hp1,hp2,hp3,hp4,hp5,hp6,hp7,hp8,hp9,hp10,hp11,_⟩ := conj_of hp
 exact ⟨(hp0),(hp1),(hp2),(hp3),(br' h (fun e0 h => ⟨(hp4 e0),(hp5 e0),h⟩)
  (fun e0 h => ⟨(hp6 e0),(hp7 e0),(hp8 e0),(br' h (fun e1 h => ⟨(hp9 e0 e1),(hp10 e0 e1),h⟩)
  (fun e1 h => ⟨(hp11 e0 e1),h⟩))⟩))⟩
theorem v_resp_big {s:Int} (hs:v_sok s) {l:List (Int×Int)} (h:v_mok l):v_rb 10240000000 (v_resp s l) := by
 have := v_resp_small hs h
 unfold v_frac at this
 simp only at this
 exact ⟨by omega,by omega⟩
theorem v_resp_rok {s:Int} (hs:v_sok s) {l:List (Int×Int)} (h:v_mok l):v_rok (v_rat (v_resp s l)) := (v_resp_big hs h).ok (by decide)
theorem v_rint_ok {d:Int×Int×Int} (h:v_dok d):v_fit d.2.1∧v_fit d.2.2∧v_rb 100000 ((d.2.1:Int):Rat)∧v_rb 100000 ((d.2.2:Int):Rat) := by
 have h1 := h.lo
 have h2 := h.le
 have h3 := h.hi
 exact ⟨by unfold v_fit; omega,by unfold v_fit; omega,v_rb_int (by omega) (by omega),v_rb_int (by omega) (by omega)⟩
theorem v_thou_rb {s:Int} (hs:v_sok s) {l:List (Int×Int)} (h:v_mok l):v_rb 10240000000000 (v_resp s l * ((1000:Int):Rat)) := v_rb_mul (A := 10240000000) (B := 1000) (v_resp_big hs h) (v_rb_int (by decide) (by decide))
theorem v_thou_ok {s:Int} (hs:v_sok s) {l:List (Int×Int)} (h:v_mok l):v_rok (v_thou (v_rat (v_resp s l))) := by unfold v_thou; rw [v_rv_rat]; exact (v_thou_rb hs h).ok (by decide)
/-- How a response lies to the ends of a datum. -/
theorem v_thou_lt {q:Rat} {n:Int}:q * ((1000:Int):Rat) < (n:Rat) ↔ 1000 * q.num < n * q.den := by
 have hd:(0:Rat) < ((q.den:Int):Rat) := v_rpos (by have := q.den_pos; omega)
 rw [← Rat.intCast_lt_intCast,Rat.intCast_mul,Rat.intCast_mul,v_qnum q,← Rat.mul_lt_mul_right hd]
 generalize ((q.den:Int):Rat)=d at *
 have:q * ((1000:Int):Rat) * d = ((1000:Int):Rat) * (q * d) := by grind
 rw [this]
theorem v_thou_gt {q:Rat} {n:Int}:(n:Rat) < q * ((1000:Int):Rat) ↔ n * q.den < 1000 * q.num := by
 have hd:(0:Rat) < ((q.den:Int):Rat) := v_rpos (by have := q.den_pos; omega)
 rw [← Rat.intCast_lt_intCast,Rat.intCast_mul,Rat.intCast_mul,v_qnum q,← Rat.mul_lt_mul_right hd]
 generalize ((q.den:Int):Rat)=d at *
 have:q * ((1000:Int):Rat) * d = ((1000:Int):Rat) * (q * d) := by grind
 rw [this]
theorem v_rcmp_lo {q:Rat} {d:Int×Int×Int}:(v_rcmp (v_thou (v_rat q)) (v_rint d.2.1) < 0) ↔ v_below (v_frac q) d = true := by
 unfold v_rcmp v_thou v_rint v_below v_frac
 rw [v_rv_rat,v_rv_rat,v_rv_rat,v_qcmp_lt,v_thou_lt,decide_eq_true_eq]
theorem v_rcmp_hi {q:Rat} {d:Int×Int×Int}:(0 < v_rcmp (v_thou (v_rat q)) (v_rint d.2.2)) ↔ v_beyond (v_frac q) d = true := by
 unfold v_rcmp v_thou v_rint v_beyond v_frac
 rw [v_rv_rat,v_rv_rat,v_rv_rat,v_qcmp_gt,v_thou_gt,decide_eq_true_eq]
theorem v_rcmp_lo_d {q:Rat} {d:Int×Int×Int}:decide (v_rcmp (v_thou (v_rat q)) (v_rint d.2.1) < 0)=v_below (v_frac q) d∧decide (v_rcmp (v_thou (v_rat q)) (v_rint d.2.1) ≥ 0) = !(v_below (v_frac q) d) := by
 have h := v_rcmp_lo (q := q) (d := d)
 cases c:v_below (v_frac q) d <;> rw [c] at h
 ·have:¬ v_rcmp (v_thou (v_rat q)) (v_rint d.2.1) < 0 := fun e => by cases h.1 e
  exact ⟨decide_eq_false this,decide_eq_true (by omega)⟩
 ·have := h.2 rfl
  exact ⟨decide_eq_true this,decide_eq_false (by omega)⟩
theorem v_rcmp_hi_d {q:Rat} {d:Int×Int×Int}:decide (v_rcmp (v_thou (v_rat q)) (v_rint d.2.2) > 0)=v_beyond (v_frac q) d∧decide (v_rcmp (v_thou (v_rat q)) (v_rint d.2.2)≤0) = !(v_beyond (v_frac q) d) := by
 have h := v_rcmp_hi (q := q) (d := d)
 cases c:v_beyond (v_frac q) d <;> rw [c] at h
 ·have:¬ 0 < v_rcmp (v_thou (v_rat q)) (v_rint d.2.2) := fun e => by cases h.1 e
  exact ⟨decide_eq_false this,decide_eq_true (by omega)⟩
 ·have := h.2 rfl
  exact ⟨decide_eq_true this,decide_eq_false (by omega)⟩
/-- How far a response lies from a datum. -/
def v_dist (q:Rat) (d:Int×Int×Int):Rat := cond (v_below (v_frac q) d) ((d.2.1:Rat) - q * ((1000:Int):Rat)) (cond (v_beyond (v_frac q) d) (q * ((1000:Int):Rat) - (d.2.2:Rat)) ((0:Int):Rat))
theorem v_dist_rb {s:Int} (hs:v_sok s) {l:List (Int×Int)} (h:v_mok l) {d:Int×Int×Int} (hd:v_dok d):v_rb 2048000000000000000 (v_dist (v_resp s l) d) := by
 obtain ⟨_,_,b1,b2⟩ := v_rint_ok hd
 have b3 := v_thou_rb hs h
 unfold v_dist
 cases v_below (v_frac (v_resp s l)) d
 ·cases v_beyond (v_frac (v_resp s l)) d
  ·exact v_rb_int (by decide) (by decide)
  ·rw [cond_false,cond_true,Rat.sub_eq_add_neg]; exact v_rb_add b3 (v_rb_neg b2)
 ·rw [cond_true,Rat.sub_eq_add_neg]; exact v_rb_le (v_rb_add b1 (v_rb_neg b3)) (by decide)
abbrev t_Z1s (p0:(Int×List Int)×(Int×List Int)) (p1:Int×Int×Int):(Int×List Int)×(Int×List Int) := v_rat (v_dist (v_rv p0) p1)
abbrev qre_Z1s (p0:(Int×List Int)×(Int×List Int)) (p1:Int×Int×Int):List Prop := [v_rok p0,v_dok p1,v_rok (v_thou p0)]
theorem pp_Z1s (p0:(Int×List Int)×(Int×List Int)) (p1:Int×Int×Int) (hq:∀ p∈qre_Z1s p0 p1,p):∀ p∈pre_Z1s p0 p1,p := by
 obtain ⟨h1,h3,h4,_⟩ := conj_of hq
 obtain ⟨f1,f2,b1,b2⟩ := v_rint_ok h3
 have k5:v_rok (v_rint p1.2.1) := b1.ok (by decide)
 have k6:v_rok (v_rint p1.2.2) := b2.ok (by decide)
 have f11 := f1.1
 have f12 := f1.2
 have f21 := f2.1
 have f22 := f2.2
 simp only [pre_Z1s,fM]
 and_intros
 all_goals first
  | (intro p hp; cases hp; done)
  | (intros; assumption)
  | (intros; rw [v_wval_wide]; assumption)
  | (intros; apply v_wok_of; omega)
  | (intros; rw [v_wide_len]; omega)
  | omega
  | (unfold v_fit at *; omega)
theorem tt_Z1s (p0:(Int×List Int)×(Int×List Int)) (p1:Int×Int×Int) (hq:∀ p∈qre_Z1s p0 p1,p):s_Z1s p0 p1 = t_Z1s p0 p1 := by
 obtain ⟨h1,h3,h4,_⟩ := conj_of hq
 obtain ⟨q,rfl,a1,a2⟩ := h1.ex
 unfold s_Z1s t_Z1s v_dist
 rw [v_rcmp_lo_d.1,v_rcmp_hi_d.1,v_rv_rat]
 unfold v_rsub v_thou v_rint
 rw [v_rv_rat,v_rv_rat,v_rv_rat,v_rv_rat]
 cases v_below (v_frac q) p1
 ·cases v_beyond (v_frac q) p1 <;> rfl
 ·rfl

abbrev con_Z1s:Con := ⟨P_Z1s,R_Z1s,fun x => qre_Z1s x.1 x.2,fun x => t_Z1s x.1 x.2⟩
theorem ok_Z1s:ConOk Tryz.prog 98 con_Z1s := okG k_Z1s e_Z1s hC_Z1s fun x hx => tf_of (w_Z1s_eq x.1 x.2 _) (d_Z1s x.1 x.2 _ (pp_Z1s x.1 x.2 hx) (tt_Z1s x.1 x.2 hx))
def C_Zp:Cons := [(97,[],con_Z19),(99,[],con_Z5),(98,[],con_Z1s),(69,[],con_Z1j)]
theorem hC_Zp:ConsOk Tryz.prog C_Zp := cC ok_Z19 <| cC ok_Z5 <| cC ok_Z1s <| cC ok_Z1j <| ConsOk.nil
abbrev q0_Zp (p0:gC) (p1:gB) (y1:(Int×(Int×((List Int)×(Int×(List Int)))))) := (v_rat (v_dist (v_rv (v_rat (v_resp (p1.getD y1.1.toNat (zz0,(zz0,zz0))).1 p0))) (p1.getD y1.1.toNat (zz0,(zz0,zz0)))))
def w_Zp (p0:gC) (p1:gB) (K:((Int×(List Int))×(Int×(List Int)))→Prop):Prop := ((v_fit zz0) ∧(∃ n0,(loopP (fun (y1:(Int×(Int×((List Int)×(Int×(List Int)))))) k2 => ((((decide (y1.1 < (p1.length:Int)))=true) →((zz0≤y1.1) ∧((y1.1 < (p1.length:Int)) ∧((v_mok p0) ∧((v_sok (p1.getD y1.1.toNat (zz0,(zz0,zz0))).1) ∧((zz0≤y1.1) ∧((y1.1 < (p1.length:Int)) ∧((v_rok (v_rat (v_resp (p1.getD y1.1.toNat (zz0,(zz0,zz0))).1 p0))) ∧((v_dok (p1.getD y1.1.toNat (zz0,(zz0,zz0)))) ∧((v_rok (v_thou (v_rat (v_resp (p1.getD y1.1.toNat (zz0,(zz0,zz0))).1 p0)))) ∧((v_rok (q0_Zp p0 p1 y1)) ∧((v_rok ((y1.2.1,y1.2.2.1),y1.2.2.2)) ∧((((decide ((v_rcmp (q0_Zp p0 p1 y1) ((y1.2.1,y1.2.2.1),y1.2.2.2)) > zz0))=true) →(k2 ((wi (y1.1 + zz1)),((q0_Zp p0 p1 y1).1.1,((q0_Zp p0 p1 y1).1.2,(q0_Zp p0 p1 y1).2))))) ∧(((decide ((v_rcmp (q0_Zp p0 p1 y1) ((y1.2.1,y1.2.2.1),y1.2.2.2)) > zz0))=false) →(k2 ((wi (y1.1 + zz1)),y1.2)))))))))))))))) ∧(((decide (y1.1 < (p1.length:Int)))=false) →(K ((y1.2.1,y1.2.2.1),y1.2.2.2))))) n0 (zz0,((v_rint zz0).1.1,((v_rint zz0).1.2,(v_rint zz0).2))))))
theorem w_Zp_eq (p0:gC) (p1:gB) (K:((Int×(List Int))×(Int×(List Int)))→Prop):tfn F_Zp A_Zp C_Zp P_Zp R_Zp (p0,p1) K = w_Zp p0 p1 K := by kernel_rfl
def st_Zp_0 (p0:gC) (p1:gB) (y0:(Int×(Int×((List Int)×(Int×(List Int)))))):(Int×(Int×((List Int)×(Int×(List Int))))) ⊕ ((Int×(List Int))×(Int×(List Int))) := (cond (decide (y0.1 < (p1.length:Int))) (cond (decide ((v_rcmp (v_rat (v_dist (v_rv (v_rat (v_resp (p1.getD y0.1.toNat ((0:Int),(0,0))).1 p0))) (p1.getD y0.1.toNat ((0:Int),(0,0))))) ((y0.2.1,y0.2.2.1),y0.2.2.2)) > 0)) (Sum.inl ((IntKind.i64.wrap (y0.1 + 1)),((v_rat (v_dist (v_rv (v_rat (v_resp (p1.getD y0.1.toNat ((0:Int),(0,0))).1 p0))) (p1.getD y0.1.toNat ((0:Int),(0,0))))).1.1,((v_rat (v_dist (v_rv (v_rat (v_resp (p1.getD y0.1.toNat ((0:Int),(0,0))).1 p0))) (p1.getD y0.1.toNat ((0:Int),(0,0))))).1.2,(v_rat (v_dist (v_rv (v_rat (v_resp (p1.getD y0.1.toNat ((0:Int),(0,0))).1 p0))) (p1.getD y0.1.toNat ((0:Int),(0,0))))).2)))) (Sum.inl ((IntKind.i64.wrap (y0.1 + 1)),y0.2))) (Sum.inr ((y0.2.1,y0.2.2.1),y0.2.2.2)))
abbrev sp_Zp_0 (p0:gC) (p1:gB) (y0:(Int×(Int×((List Int)×(Int×(List Int)))))):List Prop := [(((decide (y0.1 < (p1.length:Int)))=true)→((0:Int)≤y0.1)),(((decide (y0.1 < (p1.length:Int)))=true)→(y0.1 < (p1.length:Int))),(((decide (y0.1 < (p1.length:Int)))=true)→(v_mok p0)),(((decide (y0.1 < (p1.length:Int)))=true)→(v_sok (p1.getD y0.1.toNat ((0:Int),(0,0))).1)),(((decide (y0.1 < (p1.length:Int)))=true)→(v_rok (v_rat (v_resp (p1.getD y0.1.toNat ((0:Int),(0,0))).1 p0)))),(((decide (y0.1 < (p1.length:Int)))=true)→(v_dok (p1.getD y0.1.toNat ((0:Int),(0,0))))),(((decide (y0.1 < (p1.length:Int)))=true)→(v_rok (v_thou (v_rat (v_resp (p1.getD y0.1.toNat ((0:Int),(0,0))).1 p0))))),(((decide (y0.1 < (p1.length:Int)))=true)→(v_rok (v_rat (v_dist (v_rv (v_rat (v_resp (p1.getD y0.1.toNat ((0:Int),(0,0))).1 p0))) (p1.getD y0.1.toNat ((0:Int),(0,0))))))),(((decide (y0.1 < (p1.length:Int)))=true)→(v_rok ((y0.2.1,y0.2.2.1),y0.2.2.2)))]
def s_Zp (p0:gC) (p1:gB):((Int×(List Int))×(Int×(List Int))) := (lpv (((0:Int),[]),((0:Int),[])) (st_Zp_0 p0 p1) ((0:Int),((v_rint (0:Int)).1.1,((v_rint (0:Int)).1.2,(v_rint (0:Int)).2))))
abbrev pre_Zp (p0:gC) (p1:gB):List Prop := [(v_fit (0:Int)),(OkL (st_Zp_0 p0 p1) (sp_Zp_0 p0 p1) ((0:Int),((v_rint (0:Int)).1.1,((v_rint (0:Int)).1.2,(v_rint (0:Int)).2))))]
theorem d_Zp (p0:gC) (p1:gB) (K:((Int×(List Int))×(Int×(List Int)))→Prop) (hp:∀ p∈pre_Zp p0 p1,p) (h:K (s_Zp p0 p1)):w_Zp p0 p1 K := by
 unfold w_Zp
 unfold s_Zp at h
 obtain ⟨hp0,hp1,_⟩ := conj_of hp
 exact ⟨(hp0),(loop_gen (hp1) h (fun y0 k0 hp h => by
 unfold st_Zp_0 at h; obtain ⟨hp0,hp1,hp2,hp3,hp4,hp5,hp6,hp7,hp8,_⟩ := conj_of hp
 exact (br' h (fun e1 h => ⟨(hp0 e1),(hp1 e1),(hp2 e1),(hp3 e1),(hp0 e1),(hp1 e1),(hp4 e1),(hp5 e1),(hp6 e1),(hp7 e1),(hp8 e1),(br' h (fun e2 h => h)
  (fun e2 h => h))⟩)
  (fun e1 h => h))))⟩
/-- The greatest distance. -/
def v_rmax (w x:Rat):Rat := cond (decide (w < x)) x w
def v_misf (m:gC):Rat→List (Int×Int×Int)→Rat
 | w,[] => w
 | w,d :: r => v_misf m (v_rmax w (v_dist (v_resp d.1 m) d)) r
def v_unfl (t:Int×(List Int×(Int×List Int))):(Int×List Int)×(Int×List Int) := ((t.1,t.2.1),t.2.2)
theorem v_unfl_fl (q:Rat):v_unfl (v_fl q)=v_rat q := rfl
theorem l_Zp_0 (p0:gC) (p1:gB) (hm:v_mok p0) (hd:v_dat p1):OkL (st_Zp_0 p0 p1) (sp_Zp_0 p0 p1) (0,v_fl ((0:Int):Rat))∧lpv ((0,[]),(0,[])) (st_Zp_0 p0 p1) (0,v_fl ((0:Int):Rat))=v_rat (v_misf p0 ((0:Int):Rat) p1) := by
 have hl := hd.len
 have main := @for_is (Int×(List Int×(Int×List Int))) (Int×(Int×(List Int×(Int×List Int)))) ((Int×List Int)×(Int×List Int)) ((0,[]),(0,[])) (st_Zp_0 p0 p1) (sp_Zp_0 p0 p1) (fun i t => (i,t)) 0 p1.length
  (fun _ t => ∃ w,t = v_fl w∧v_rb 2048000000000000000 w) (fun j t => v_rat (v_misf p0 (v_rv (v_unfl t)) (p1.drop j))) (by omega) (by omega) ?_ ?_ (v_fl ((0:Int):Rat)) ⟨_,rfl,v_rb_int (by decide) (by decide)⟩
 ·rw [v_unfl_fl,v_rv_rat,List.drop_zero] at main; exact main
 ·rintro t ⟨w,rfl,hw⟩
  simp only [sp_Zp_0,st_Zp_0,fM,show decide ((p1.length:Int) < (p1.length:Int))=false from decide_eq_false (by omega),cond_false]
  refine ⟨?_,?_⟩
  ·and_intros
   all_goals first
    | (intro h; cases h; done)
    | (intro p hp; cases hp)
  ·rw [v_unfl_fl,v_rv_rat,List.drop_length]; rfl
 ·rintro j t - hj ⟨w,rfl,hw⟩
  have hd1:decide ((j:Int) < (p1.length:Int))=true := decide_eq_true (by omega)
  have hw1:IntKind.i64.wrap ((j:Int) + 1)=((j + 1:Nat):Int) := wrap_id (by omega) (by omega)
  have hx:v_dok (p1.getD j (0,0,0)) := hd.ok _ (v_getD_mem (by omega))
  have s0:v_sok (p1.getD j (0,0,0)).1 := hx.s
  have k1 := v_resp_rok s0 hm
  have k3 := v_thou_ok s0 hm
  have bd := v_dist_rb s0 hm hx
  have k4 := bd.ok (by decide)
  have k5 := hw.ok (by decide)
  have s1 := s0.1
  have s2 := s0.2
  have eg:(((v_fl w).1,(v_fl w).2.1),(v_fl w).2.2)=v_rat w := rfl
  simp only [sp_Zp_0,st_Zp_0,fM,hd1,cond_true,Int.toNat_natCast,hw1,v_rv_rat]
  rw [eg]
  refine ⟨?_,.inl ?_⟩
  ·and_intros
   all_goals first
    | (intro p hp; cases hp; done)
    | (intros; assumption)
    | (intros; omega)
  ·have hc:decide (v_rcmp (v_rat (v_dist (v_resp (p1.getD j (0,0,0)).1 p0) (p1.getD j (0,0,0)))) (v_rat w) > 0)=decide (w < v_dist (v_resp (p1.getD j (0,0,0)).1 p0) (p1.getD j (0,0,0))) := by
    unfold v_rcmp
    rw [v_rv_rat,v_rv_rat]
    exact decide_eq_decide.2 v_qcmp_gt
   rw [hc,drop_getD (0,0,0) hj,v_unfl_fl,v_rv_rat]
   rcases Decidable.em (w < v_dist (v_resp (p1.getD j (0,0,0)).1 p0) (p1.getD j (0,0,0))) with c | c
   ·refine ⟨v_fl (v_dist (v_resp (p1.getD j (0,0,0)).1 p0) (p1.getD j (0,0,0))),?_,⟨_,rfl,bd⟩,?_⟩
    ·rw [decide_eq_true c]; rfl
    ·rw [v_unfl_fl,v_rv_rat]
     show _ = v_rat (v_misf p0 (v_rmax w _) _)
     unfold v_rmax
     rw [decide_eq_true c]; rfl
   ·refine ⟨v_fl w,?_,⟨_,rfl,hw⟩,?_⟩
    ·rw [decide_eq_false c]; rfl
    ·rw [v_unfl_fl,v_rv_rat]
     show _ = v_rat (v_misf p0 (v_rmax w _) _)
     unfold v_rmax
     rw [decide_eq_false c]; rfl
def v_misf0 (m:gC) (l:gB):Rat := v_misf m ((0:Int):Rat) l
theorem v_misf_rb {m:List (Int×Int)} (hm:v_mok m):∀ {l:List (Int×Int×Int)} {w:Rat},(∀ x∈l,v_dok x)→v_rb 2048000000000000000 w→v_rb 2048000000000000000 (v_misf m w l)
 | [],_,_,hw => hw
 | d :: r,w,h,hw => by
  have hx := h d (by simp)
  show v_rb _ (v_misf m (v_rmax w _) r)
  refine v_misf_rb hm (fun x hx => h x (List.mem_cons_of_mem _ hx)) ?_
  unfold v_rmax
  cases decide (w < v_dist (v_resp d.1 m) d)
  ·exact hw
  ·exact v_dist_rb hx.s hm hx
abbrev t_Zp (p0:gC) (p1:gB):(Int×List Int)×(Int×List Int) := v_rat (v_misf0 p0 p1)
abbrev qre_Zp (p0:gC) (p1:gB):List Prop := [v_mok p0,v_dat p1]
theorem pp_Zp (p0:gC) (p1:gB) (hq:∀ p∈qre_Zp p0 p1,p):∀ p∈pre_Zp p0 p1,p := by
 obtain ⟨h1,h2,_⟩ := conj_of hq
 simp only [pre_Zp,fM]
 exact ⟨by unfold v_fit; omega,(l_Zp_0 p0 p1 h1 h2).1,(by intro p hp; cases hp)⟩
theorem tt_Zp (p0:gC) (p1:gB) (hq:∀ p∈qre_Zp p0 p1,p):s_Zp p0 p1 = t_Zp p0 p1 := by
 obtain ⟨h1,h2,_⟩ := conj_of hq
 exact (l_Zp_0 p0 p1 h1 h2).2

abbrev con_Zp:Con := ⟨P_Zp,R_Zp,fun x => qre_Zp x.1 x.2,fun x => t_Zp x.1 x.2⟩
theorem ok_Zp:ConOk Tryz.prog 68 con_Zp := okG k_Zp e_Zp hC_Zp fun x hx => tf_of (w_Zp_eq x.1 x.2 _) (d_Zp x.1 x.2 _ (pp_Zp x.1 x.2 hx) (tt_Zp x.1 x.2 hx))
def C_Z1r:Cons := [(70,[],con_Z24)]
theorem hC_Z1r:ConsOk Tryz.prog C_Z1r := cC ok_Z24 <| ConsOk.nil
def w_Z1r (p0:gD) (K:Int→Prop):Prop := (K p0.1.1)
theorem w_Z1r_eq (p0:gD) (K:Int→Prop):tfn F_Z1r A_Z1r C_Z1r P_Z1r R_Z1r p0 K = w_Z1r p0 K := by kernel_rfl
def s_Z1r (p0:gD):Int := p0.1.1
abbrev pre_Z1r (_p0:gD):List Prop := []
theorem d_Z1r (p0:gD) (K:Int→Prop) (_hp:∀ p∈pre_Z1r p0,p) (h:K (s_Z1r p0)):w_Z1r p0 K := by
 unfold w_Z1r
 unfold s_Z1r at h
 exact h
abbrev t_Z1r (p0:(Int×List Int)×(Int×List Int)):Int := v_rsgn p0
abbrev qre_Z1r (p0:(Int×List Int)×(Int×List Int)):List Prop := [v_rok p0]
theorem pp_Z1r (p0:(Int×List Int)×(Int×List Int)) (hq:∀ p∈qre_Z1r p0,p):∀ p∈pre_Z1r p0,p := by
 obtain ⟨h1,_⟩ := conj_of hq
 simp only [pre_Z1r,fM]
 and_intros
 all_goals first
  | (intro p hp; cases hp; done)
  | (intros; assumption)
  | (intros; rw [v_wval_wide]; assumption)
  | (intros; apply v_wok_of; omega)
  | (intros; rw [v_wide_len]; omega)
  | omega
  | (unfold v_fit at *; omega)
theorem tt_Z1r (p0:(Int×List Int)×(Int×List Int)) (hq:∀ p∈qre_Z1r p0,p):s_Z1r p0 = t_Z1r p0 := by
 obtain ⟨h1,_⟩ := conj_of hq
 obtain ⟨q,rfl,d1,d2⟩ := h1.ex
 unfold s_Z1r t_Z1r v_rsgn
 rw [v_rat_1,v_rv_rat,v_wide_1]

abbrev con_Z1r:Con := ⟨P_Z1r,R_Z1r,fun x => qre_Z1r x,fun x => t_Z1r x⟩
theorem ok_Z1r:ConOk Tryz.prog 27 con_Z1r := okG k_Z1r e_Z1r hC_Z1r fun x hx => tf_of (w_Z1r_eq x _) (d_Z1r x _ (pp_Z1r x hx) (tt_Z1r x hx))
def C_Z20:Cons := [(68,[],con_Zp),(27,[],con_Z1r)]
theorem hC_Z20:ConsOk Tryz.prog C_Z20 := cC ok_Zp <| cC ok_Z1r <| ConsOk.nil
def w_Z20 (p0:gC) (p1:gB) (K:Bool→Prop):Prop := ((v_mok p0) ∧((v_dat p1) ∧((v_rok (v_rat (v_misf0 p0 p1))) ∧(K ((v_rsgn (v_rat (v_misf0 p0 p1))) == 0)))))
theorem w_Z20_eq (p0:gC) (p1:gB) (K:Bool→Prop):tfn F_Z20 A_Z20 C_Z20 P_Z20 R_Z20 (p0,p1) K = w_Z20 p0 p1 K := by kernel_rfl
def s_Z20 (p0:gC) (p1:gB):Bool := ((v_rsgn (v_rat (v_misf0 p0 p1))) == 0)
abbrev pre_Z20 (p0:gC) (p1:gB):List Prop := [(v_mok p0),(v_dat p1),(v_rok (v_rat (v_misf0 p0 p1)))]
theorem d_Z20 (p0:gC) (p1:gB) (K:Bool→Prop) (hp:∀ p∈pre_Z20 p0 p1,p) (h:K (s_Z20 p0 p1)):w_Z20 p0 p1 K := by
 unfold w_Z20
 unfold s_Z20 at h
 obtain ⟨hp0,hp1,hp2,_⟩ := conj_of hp
 exact ⟨(hp0),(hp1),(hp2),h⟩
def v_rexpl (m:gC) (l:gB):Bool := v_rsgn (v_rat (v_misf0 m l)) == 0
abbrev t_Z20 (p0:gC) (p1:gB):Bool := v_rexpl p0 p1
abbrev qre_Z20 (p0:gC) (p1:gB):List Prop := [v_mok p0,v_dat p1]
theorem pp_Z20 (p0:gC) (p1:gB) (hq:∀ p∈qre_Z20 p0 p1,p):∀ p∈pre_Z20 p0 p1,p := by
 obtain ⟨h1,h2,_⟩ := conj_of hq
 simp only [pre_Z20,fM]
 exact ⟨h1,h2,(v_misf_rb h1 h2.ok (v_rb_int (by decide) (by decide))).ok (by decide),(by intro p hp; cases hp)⟩
theorem tt_Z20 (p0:gC) (p1:gB) (_hq:∀ p∈qre_Z20 p0 p1,p):s_Z20 p0 p1 = t_Z20 p0 p1 := by
 rfl

abbrev con_Z20:Con := ⟨P_Z20,R_Z20,fun x => qre_Z20 x.1 x.2,fun x => t_Z20 x.1 x.2⟩
theorem ok_Z20:ConOk Tryz.prog 58 con_Z20 := okG k_Z20 e_Z20 hC_Z20 fun x hx => tf_of (w_Z20_eq x.1 x.2 _) (d_Z20 x.1 x.2 _ (pp_Z20 x.1 x.2 hx) (tt_Z20 x.1 x.2 hx))
def C_Zf:Cons := []
theorem hC_Zf:ConsOk Tryz.prog C_Zf := ConsOk.nil
abbrev q0_Zf (p0:gA) (y1:(Int×(Int×(List (Int×Int))))) := (((List.length (p0.getD y1.1.toNat (([]:List Int),([]:List Int))).2):Nat):Int)
abbrev q1_Zf (p0:gA) (y1:(Int×(Int×(List (Int×Int))))) := (List.set y1.2.2 y1.1.toNat ((y1.2.2.getD y1.1.toNat (zz0,zz0)).1,(List.getD (p0.getD y1.1.toNat (([]:List Int),([]:List Int))).2 (Int.toNat (Int.tmod y1.2.1 (q0_Zf p0 y1))) zz0)))
abbrev q2_Zf (p0:gA) (y1:(Int×(Int×(List (Int×Int))))) := (((List.length (p0.getD y1.1.toNat (([]:List Int),([]:List Int))).1):Nat):Int)
def w_Zf (p0:gA) (p1:Int) (K:(List (Int×Int))→Prop):Prop := ((zz0≤(p0.length:Int)) ∧((((16:Int) * (p0.length:Int))≤281474976710656) ∧(((p0.length:Int)≤9223372036854775807) ∧(∃ n0,(loopP (fun (y1:(Int×(Int×(List (Int×Int))))) k2 => ((((decide (y1.1 ≥ zz0))=true) →((zz0≤y1.1) ∧((y1.1 < (p0.length:Int)) ∧(((q0_Zf p0 y1) ≠ zz0) ∧((zz0≤(Int.tmod y1.2.1 (q0_Zf p0 y1))) ∧(((Int.tmod y1.2.1 (q0_Zf p0 y1)) < (q0_Zf p0 y1)) ∧((zz0≤y1.1) ∧((y1.1 < (y1.2.2.length:Int)) ∧(((q0_Zf p0 y1) ≠ zz0) ∧(((q2_Zf p0 y1) ≠ zz0) ∧((zz0≤(Int.tmod (wi (Int.tdiv y1.2.1 (q0_Zf p0 y1))) (q2_Zf p0 y1))) ∧(((Int.tmod (wi (Int.tdiv y1.2.1 (q0_Zf p0 y1))) (q2_Zf p0 y1)) < (q2_Zf p0 y1)) ∧((zz0≤y1.1) ∧((y1.1 < (((q1_Zf p0 y1).length:Nat):Int)) ∧(((q2_Zf p0 y1) ≠ zz0) ∧(k2 ((wi (y1.1 - zz1)),((wi (Int.tdiv (wi (Int.tdiv y1.2.1 (q0_Zf p0 y1))) (q2_Zf p0 y1))),(List.set (q1_Zf p0 y1) y1.1.toNat ((List.getD (p0.getD y1.1.toNat (([]:List Int),([]:List Int))).1 (Int.toNat (Int.tmod (wi (Int.tdiv y1.2.1 (q0_Zf p0 y1))) (q2_Zf p0 y1))) zz0),(List.getD (q1_Zf p0 y1) y1.1.toNat (zz0,zz0)).2)))))))))))))))))))) ∧(((decide (y1.1 ≥ zz0))=false) →(K y1.2.2)))) n0 ((wi ((p0.length:Int) - zz1)),(p1,(List.replicate (Int.toNat (p0.length:Int)) (zz0,zz0)))))))))
theorem w_Zf_eq (p0:gA) (p1:Int) (K:(List (Int×Int))→Prop):tfn F_Zf A_Zf C_Zf P_Zf R_Zf (p0,p1) K = w_Zf p0 p1 K := by kernel_rfl
def st_Zf_0 (p0:gA) (_p1:Int) (y0:(Int×(Int×(List (Int×Int))))):(Int×(Int×(List (Int×Int)))) ⊕ (List (Int×Int)) := (cond (decide (y0.1 ≥ 0)) (Sum.inl ((IntKind.i64.wrap (y0.1 - 1)),((IntKind.i64.wrap (Int.tdiv (IntKind.i64.wrap (Int.tdiv y0.2.1 (((List.length (p0.getD y0.1.toNat (([]:List Int),([]:List Int))).2):Nat):Int))) (((List.length (p0.getD y0.1.toNat (([]:List Int),([]:List Int))).1):Nat):Int))),(List.set (List.set y0.2.2 y0.1.toNat ((y0.2.2.getD y0.1.toNat (0,0)).1,(List.getD (p0.getD y0.1.toNat (([]:List Int),([]:List Int))).2 (Int.toNat (Int.tmod y0.2.1 (((List.length (p0.getD y0.1.toNat (([]:List Int),([]:List Int))).2):Nat):Int))) (0:Int)))) y0.1.toNat ((List.getD (p0.getD y0.1.toNat (([]:List Int),([]:List Int))).1 (Int.toNat (Int.tmod (IntKind.i64.wrap (Int.tdiv y0.2.1 (((List.length (p0.getD y0.1.toNat (([]:List Int),([]:List Int))).2):Nat):Int))) (((List.length (p0.getD y0.1.toNat (([]:List Int),([]:List Int))).1):Nat):Int))) (0:Int)),(List.getD (List.set y0.2.2 y0.1.toNat ((y0.2.2.getD y0.1.toNat (0,0)).1,(List.getD (p0.getD y0.1.toNat (([]:List Int),([]:List Int))).2 (Int.toNat (Int.tmod y0.2.1 (((List.length (p0.getD y0.1.toNat (([]:List Int),([]:List Int))).2):Nat):Int))) (0:Int)))) y0.1.toNat (0,0)).2))))) (Sum.inr y0.2.2))
abbrev sp_Zf_0 (p0:gA) (_p1:Int) (y0:(Int×(Int×(List (Int×Int))))):List Prop := [(((decide (y0.1 ≥ 0))=true)→((0:Int)≤y0.1)),(((decide (y0.1 ≥ 0))=true)→(y0.1 < (p0.length:Int))),(((decide (y0.1 ≥ 0))=true)→((((List.length (p0.getD y0.1.toNat (([]:List Int),([]:List Int))).2):Nat):Int) ≠ (0:Int))),(((decide (y0.1 ≥ 0))=true)→((0:Int)≤(Int.tmod y0.2.1 (((List.length (p0.getD y0.1.toNat (([]:List Int),([]:List Int))).2):Nat):Int)))),(((decide (y0.1 ≥ 0))=true)→((Int.tmod y0.2.1 (((List.length (p0.getD y0.1.toNat (([]:List Int),([]:List Int))).2):Nat):Int)) < (((List.length (p0.getD y0.1.toNat (([]:List Int),([]:List Int))).2):Nat):Int))),(((decide (y0.1 ≥ 0))=true)→(y0.1 < (y0.2.2.length:Int))),(((decide (y0.1 ≥ 0))=true)→((((List.length (p0.getD y0.1.toNat (([]:List Int),([]:List Int))).1):Nat):Int) ≠ (0:Int))),(((decide (y0.1 ≥ 0))=true)→((0:Int)≤(Int.tmod (IntKind.i64.wrap (Int.tdiv y0.2.1 (((List.length (p0.getD y0.1.toNat (([]:List Int),([]:List Int))).2):Nat):Int))) (((List.length (p0.getD y0.1.toNat (([]:List Int),([]:List Int))).1):Nat):Int)))),(((decide (y0.1 ≥ 0))=true)→((Int.tmod (IntKind.i64.wrap (Int.tdiv y0.2.1 (((List.length (p0.getD y0.1.toNat (([]:List Int),([]:List Int))).2):Nat):Int))) (((List.length (p0.getD y0.1.toNat (([]:List Int),([]:List Int))).1):Nat):Int)) < (((List.length (p0.getD y0.1.toNat (([]:List Int),([]:List Int))).1):Nat):Int))),(((decide (y0.1 ≥ 0))=true)→(y0.1 < (((List.length (List.set y0.2.2 y0.1.toNat ((y0.2.2.getD y0.1.toNat (0,0)).1,(List.getD (p0.getD y0.1.toNat (([]:List Int),([]:List Int))).2 (Int.toNat (Int.tmod y0.2.1 (((List.length (p0.getD y0.1.toNat (([]:List Int),([]:List Int))).2):Nat):Int))) (0:Int))))):Nat):Int)))]
def s_Zf (p0:gA) (p1:Int):(List (Int×Int)) := (lpv [] (st_Zf_0 p0 p1) ((IntKind.i64.wrap ((p0.length:Int) - 1)),(p1,(List.replicate (Int.toNat (p0.length:Int)) (0,0)))))
abbrev pre_Zf (p0:gA) (p1:Int):List Prop := [((0:Int)≤(p0.length:Int)),(((16:Int) * (p0.length:Int))≤281474976710656),((p0.length:Int)≤9223372036854775807),(OkL (st_Zf_0 p0 p1) (sp_Zf_0 p0 p1) ((IntKind.i64.wrap ((p0.length:Int) - 1)),(p1,(List.replicate (Int.toNat (p0.length:Int)) (0,0)))))]
theorem d_Zf (p0:gA) (p1:Int) (K:(List (Int×Int))→Prop) (hp:∀ p∈pre_Zf p0 p1,p) (h:K (s_Zf p0 p1)):w_Zf p0 p1 K := by
 unfold w_Zf
 unfold s_Zf at h
 obtain ⟨hp0,hp1,hp2,hp3,_⟩ := conj_of hp
 exact ⟨(hp0),(hp1),(hp2),(loop_gen (hp3) h (fun y0 k0 hp h => by
 unfold st_Zf_0 at h; obtain ⟨hp0,hp1,hp2,hp3,hp4,hp5,hp6,hp7,hp8,hp9,_⟩ := conj_of hp
 exact (br' h (fun e1 h => ⟨(hp0 e1),(hp1 e1),(hp2 e1),(hp3 e1),(hp4 e1),(hp0 e1),(hp5 e1),(hp2 e1),(hp6 e1),(hp7 e1),(hp8 e1),(hp0 e1),(hp9 e1),(hp6 e1),h⟩)
  (fun e1 h => h))))⟩
theorem l_Zf_0 (p0:gA) (p1:Int) (hc:v_cne p0) (hk:0≤p1∧p1≤9223372036854775807):OkL (st_Zf_0 p0 p1) (sp_Zf_0 p0 p1) (IntKind.i64.wrap ((p0.length:Int) - 1),p1,List.replicate (Int.toNat (p0.length:Int)) (0,0))∧lpv [] (st_Zf_0 p0 p1) (IntKind.i64.wrap ((p0.length:Int) - 1),p1,List.replicate (Int.toNat (p0.length:Int)) (0,0))=v_mdl p0 p1 := by
 have hl := hc.len
 rw [show IntKind.i64.wrap ((p0.length:Int) - 1)=(p0.length:Int) - 1 from wrap_id (by omega) (by omega)]
 refine @down_is (Int×List (Int×Int)) (Int×Int×List (Int×Int)) (List (Int×Int)) [] (st_Zf_0 p0 p1) (sp_Zf_0 p0 p1) (fun i t => (i,t)) p0.length (fun j t => t = v_mst p0.length p1 (p0.drop j)) (fun _ _ => v_mdl p0 p1) (by omega) ?_ ?_ _ ?_
 ·rintro t rfl
  simp only [sp_Zf_0,st_Zf_0,fM,show decide ((-1:Int) ≥ 0)=false from rfl,cond_false,List.drop_zero]
  refine ⟨?_,?_⟩
  ·and_intros
   all_goals first
    | (intro h; cases h; done)
    | (intro p hp; cases hp)
  ·unfold v_mst v_mdl; simp
 ·rintro j t hj rfl
  have hd:decide ((j:Int) ≥ 0)=true := decide_eq_true (by omega)
  have hw:IntKind.i64.wrap ((j:Int) - 1)=(j:Int) - 1 := wrap_id (by omega) (by omega)
  have hdr:p0.drop j = p0.getD j ([],[]) :: p0.drop (j + 1) := drop_getD ([],[]) hj
  have e:p0 = p0.take j ++ p0.getD j ([],[]) :: p0.drop (j + 1) := by rw [← hdr,List.take_append_drop]
  have hlen:p0.length = j + 1 + (p0.drop (j + 1)).length := by rw [List.length_drop]; omega
  have e1:v_mst p0.length p1 (p0.drop (j + 1))=((v_mod (p0.drop (j + 1)) p1).1,List.replicate (j + 1) (0,0) ++ (v_mod (p0.drop (j + 1)) p1).2) := by unfold v_mst; rw [show p0.length - (p0.drop (j + 1)).length = j + 1 by omega]
  have e2:v_mst p0.length p1 (p0.drop j)=((v_mod (p0.drop (j + 1)) p1).1 / ((p0.getD j ([],[])).2.length:Int) / ((p0.getD j ([],[])).1.length:Int),List.replicate j (0,0) ++ ((p0.getD j ([],[])).1.getD ((v_mod (p0.drop (j + 1)) p1).1 / ((p0.getD j ([],[])).2.length:Int) % ((p0.getD j ([],[])).1.length:Int)).toNat 0,(p0.getD j ([],[])).2.getD ((v_mod (p0.drop (j + 1)) p1).1 % ((p0.getD j ([],[])).2.length:Int)).toNat 0) :: (v_mod (p0.drop (j + 1)) p1).2) := by unfold v_mst; rw [hdr,show p0.length - (p0.getD j ([],[]) :: p0.drop (j + 1)).length = j by rw [List.length_cons]; omega]; rfl
  have hv := v_mod_len (p0.drop (j + 1)) p1
  have hq0 := v_mod_nn (p0.drop (j + 1)) p1 hk.1
  have hxn := hc.ne _ (v_getD_mem (d := ([],[])) hj)
  have hxf := hc.few.len _ (v_getD_mem (d := ([],[])) hj)
  have z2:(0:Int) < ((p0.getD j ([],[])).2.length:Int) := by omega
  have z1:(0:Int) < ((p0.getD j ([],[])).1.length:Int) := by omega
  have d1 := Int.ediv_nonneg hq0.1 (show 0≤((p0.getD j ([],[])).2.length:Int) by omega)
  have d2 := Int.ediv_le_self ((p0.getD j ([],[])).2.length:Int) hq0.1
  have d3 := Int.ediv_nonneg d1 (show 0≤((p0.getD j ([],[])).1.length:Int) by omega)
  have d4 := Int.ediv_le_self ((p0.getD j ([],[])).1.length:Int) d1
  have m1 := Int.emod_nonneg (v_mod (p0.drop (j + 1)) p1).1 (show ((p0.getD j ([],[])).2.length:Int) ≠ 0 by omega)
  have m2 := Int.emod_lt_of_pos (v_mod (p0.drop (j + 1)) p1).1 z2
  have m3 := Int.emod_nonneg ((v_mod (p0.drop (j + 1)) p1).1 / ((p0.getD j ([],[])).2.length:Int)) (show ((p0.getD j ([],[])).1.length:Int) ≠ 0 by omega)
  have m4 := Int.emod_lt_of_pos ((v_mod (p0.drop (j + 1)) p1).1 / ((p0.getD j ([],[])).2.length:Int)) z1
  have t1:Int.tmod (v_mod (p0.drop (j + 1)) p1).1 ((p0.getD j ([],[])).2.length:Int)=(v_mod (p0.drop (j + 1)) p1).1 % ((p0.getD j ([],[])).2.length:Int) := Int.tmod_eq_emod_of_nonneg hq0.1
  have t2:Int.tdiv (v_mod (p0.drop (j + 1)) p1).1 ((p0.getD j ([],[])).2.length:Int)=(v_mod (p0.drop (j + 1)) p1).1 / ((p0.getD j ([],[])).2.length:Int) := Int.tdiv_eq_ediv_of_nonneg hq0.1
  have w1:IntKind.i64.wrap ((v_mod (p0.drop (j + 1)) p1).1 / ((p0.getD j ([],[])).2.length:Int))=(v_mod (p0.drop (j + 1)) p1).1 / ((p0.getD j ([],[])).2.length:Int) := wrap_id (by omega) (by omega)
  have t3:Int.tmod ((v_mod (p0.drop (j + 1)) p1).1 / ((p0.getD j ([],[])).2.length:Int)) ((p0.getD j ([],[])).1.length:Int)=(v_mod (p0.drop (j + 1)) p1).1 / ((p0.getD j ([],[])).2.length:Int) % ((p0.getD j ([],[])).1.length:Int) := Int.tmod_eq_emod_of_nonneg d1
  have t4:Int.tdiv ((v_mod (p0.drop (j + 1)) p1).1 / ((p0.getD j ([],[])).2.length:Int)) ((p0.getD j ([],[])).1.length:Int)=(v_mod (p0.drop (j + 1)) p1).1 / ((p0.getD j ([],[])).2.length:Int) / ((p0.getD j ([],[])).1.length:Int) := Int.tdiv_eq_ediv_of_nonneg d1
  have w2:IntKind.i64.wrap ((v_mod (p0.drop (j + 1)) p1).1 / ((p0.getD j ([],[])).2.length:Int) / ((p0.getD j ([],[])).1.length:Int))=(v_mod (p0.drop (j + 1)) p1).1 / ((p0.getD j ([],[])).2.length:Int) / ((p0.getD j ([],[])).1.length:Int) := wrap_id (by omega) (by omega)
  rw [e1,e2]
  unfold sp_Zf_0 st_Zf_0
  simp only [fM,hd,hw,cond_true,t1,t2,w1,t3,t4,w2,Int.toNat_natCast,v_rep_e,v_rep_set,v_rep_get,v_rep_len]
  refine ⟨?_,.inl ⟨_,rfl,rfl,trivial⟩⟩
  and_intros
  all_goals first
   | (intro p hp; cases hp; done)
   | (intros; omega)
 ·unfold v_mst
  rw [List.drop_length]
  unfold v_mod
  simp
abbrev t_Zf (p0:gA) (p1:Int):List (Int×Int) := v_mdl p0 p1
abbrev qre_Zf (p0:gA) (p1:Int):List Prop := [v_cne p0,0≤p1∧p1≤9223372036854775807]
theorem pp_Zf (p0:gA) (p1:Int) (hq:∀ p∈qre_Zf p0 p1,p):∀ p∈pre_Zf p0 p1,p := by
 obtain ⟨h1,h2,_⟩ := conj_of hq
 have hl := h1.len
 simp only [pre_Zf,fM]
 exact ⟨by omega,by omega,by omega,(l_Zf_0 p0 p1 h1 h2).1,by intro p hp; cases hp⟩
theorem tt_Zf (p0:gA) (p1:Int) (hq:∀ p∈qre_Zf p0 p1,p):s_Zf p0 p1 = t_Zf p0 p1 := by
 obtain ⟨h1,h2,_⟩ := conj_of hq
 exact (l_Zf_0 p0 p1 h1 h2).2

abbrev con_Zf:Con := ⟨P_Zf,R_Zf,fun x => qre_Zf x.1 x.2,fun x => t_Zf x.1 x.2⟩
theorem ok_Zf:ConOk Tryz.prog 59 con_Zf := okG k_Zf e_Zf hC_Zf fun x hx => tf_of (w_Zf_eq x.1 x.2 _) (d_Zf x.1 x.2 _ (pp_Zf x.1 x.2 hx) (tt_Zf x.1 x.2 hx))
def C_Z14:Cons := [(47,[],con_Zv),(59,[],con_Zf),(58,[],con_Z20)]
theorem hC_Z14:ConsOk Tryz.prog C_Z14 := cC ok_Zv <| cC ok_Zf <| cC ok_Z20 <| ConsOk.nil
def w_Z14 (p0:gA) (p1:gB) (K:(List Int)→Prop):Prop := (∃ n0,(loopP (fun (y1:gE) k2 => ((v_few p0) ∧((p0.length≤4) ∧((((decide (y1.1 < (v_count p0)))=true) →((v_cne p0) ∧(((zz0≤y1.1) ∧(y1.1≤9223372036854775807)) ∧((v_mok (v_mdl p0 y1.1)) ∧((v_dat p1) ∧((((v_rexpl (v_mdl p0 y1.1) p1)=true) →((((y1.2.length + (List.length (y1.1 :: ([]:List Int)))) * 8)≤140737488355328) ∧(k2 ((IntKind.i64.wrap (y1.1 + 1)),(y1.2 ++ (y1.1 :: ([]:List Int))))))) ∧(((v_rexpl (v_mdl p0 y1.1) p1)=false) →(k2 ((IntKind.i64.wrap (y1.1 + 1)),y1.2))))))))) ∧(((decide (y1.1 < (v_count p0)))=false) →(K y1.2)))))) n0 (zz0,([]:List Int))))
theorem w_Z14_eq (p0:gA) (p1:gB) (K:(List Int)→Prop):tfn F_Z14 A_Z14 C_Z14 P_Z14 R_Z14 (p0,p1) K = w_Z14 p0 p1 K := by kernel_rfl
def st_Z14_0 (p0:gA) (p1:gB) (y0:gE):(Int×(List Int)) ⊕ (List Int) := (cond (decide (y0.1 < (v_count p0))) (cond (v_rexpl (v_mdl p0 y0.1) p1) (Sum.inl ((IntKind.i64.wrap (y0.1 + 1)),(y0.2 ++ (y0.1 :: ([]:List Int))))) (Sum.inl ((IntKind.i64.wrap (y0.1 + 1)),y0.2))) (Sum.inr y0.2))
abbrev sp_Z14_0 (p0:gA) (p1:gB) (y0:gE):List Prop := [(v_few p0),(p0.length≤4),(((decide (y0.1 < (v_count p0)))=true)→(v_cne p0)),(((decide (y0.1 < (v_count p0)))=true)→(((0:Int)≤y0.1)∧(y0.1≤9223372036854775807))),(((decide (y0.1 < (v_count p0)))=true)→(v_mok (v_mdl p0 y0.1))),(((decide (y0.1 < (v_count p0)))=true)→(v_dat p1)),(((decide (y0.1 < (v_count p0)))=true)→(((v_rexpl (v_mdl p0 y0.1) p1)=true)→(((y0.2.length + (List.length (y0.1 :: ([]:List Int)))) * 8)≤140737488355328)))]
def s_Z14 (p0:gA) (p1:gB):(List Int) := (lpv [] (st_Z14_0 p0 p1) ((0:Int),([]:List Int)))
abbrev pre_Z14 (p0:gA) (p1:gB):List Prop := [(OkL (st_Z14_0 p0 p1) (sp_Z14_0 p0 p1) ((0:Int),([]:List Int)))]
theorem d_Z14 (p0:gA) (p1:gB) (K:(List Int)→Prop) (hp:∀ p∈pre_Z14 p0 p1,p) (h:K (s_Z14 p0 p1)):w_Z14 p0 p1 K := by
 unfold w_Z14
 unfold s_Z14 at h
 obtain ⟨hp0,_⟩ := conj_of hp
 exact (loop_gen (hp0) h (fun y0 k0 hp h => by
 unfold st_Z14_0 at h; obtain ⟨hp0,hp1,hp2,hp3,hp4,hp5,hp6,_⟩ := conj_of hp
 exact ⟨(hp0),(hp1),(br' h (fun e1 h => ⟨(hp2 e1),(hp3 e1),(hp4 e1),(hp5 e1),(br' h (fun e2 h => ⟨(hp6 e1 e2),h⟩)
  (fun e2 h => h))⟩)
  (fun e1 h => h))⟩))
/-- The misfit is 0 exactly if all data are explained. -/
theorem v_dist_cases (q:Rat) (d:Int×Int×Int):(cond (!(v_below (v_frac q) d)) (!(v_beyond (v_frac q) d)) false = true∧v_dist q d = 0) ∨ (cond (!(v_below (v_frac q) d)) (!(v_beyond (v_frac q) d)) false = false∧0 < v_dist q d) := by
 unfold v_dist
 cases c:v_below (v_frac q) d
 ·cases c2:v_beyond (v_frac q) d
  ·exact .inl ⟨rfl,rfl⟩
  ·refine .inr ⟨rfl,?_⟩
   rw [cond_false,cond_true]
   have h:(d.2.2:Rat) < q * ((1000:Int):Rat) := v_thou_gt.2 (by unfold v_beyond v_frac at c2; exact of_decide_eq_true c2)
   generalize ((1000:Int):Rat)=t at *
   grind
 ·refine .inr ⟨by cases v_beyond (v_frac q) d <;> rfl,?_⟩
  rw [cond_true]
  have h:q * ((1000:Int):Rat) < (d.2.1:Rat) := v_thou_lt.2 (by unfold v_below v_frac at c; exact of_decide_eq_true c)
  generalize ((1000:Int):Rat)=t at *
  grind
theorem v_rmax_ge (w x:Rat):w≤v_rmax w x∧x≤v_rmax w x := by
 unfold v_rmax
 rcases Decidable.em (w < x) with c | c
 ·rw [decide_eq_true c,cond_true]; grind
 ·rw [decide_eq_false c,cond_false]; grind
theorem v_misf_ge (m:gC):∀ (l:gB) (w:Rat),w≤v_misf m w l
 | [],_ => by show _≤_; grind [v_misf]
 | d :: r,w => by
  have h1 := v_misf_ge m r (v_rmax w (v_dist (v_resp d.1 m) d))
  have h2 := (v_rmax_ge w (v_dist (v_resp d.1 m) d)).1
  show w≤v_misf m (v_rmax w (v_dist (v_resp d.1 m) d)) r
  grind
theorem v_misf_zero (m:gC):∀ (l:gB),v_misf m 0 l = 0 ↔ v_exAll m l = true
 | [] => by simp [v_misf,v_exAll]
 | d :: r => by
  have ih := v_misf_zero m r
  have e1:v_misf m 0 (d :: r)=v_misf m (v_rmax 0 (v_dist (v_resp d.1 m) d)) r := rfl
  have e2:v_exAll m (d :: r)=(v_ex m d && v_exAll m r) := rfl
  have e3:v_ex m d = cond (!(v_below (v_frac (v_resp d.1 m)) d)) (!(v_beyond (v_frac (v_resp d.1 m)) d)) false := rfl
  rw [e1,e2,e3]
  rcases v_dist_cases (v_resp d.1 m) d with ⟨c1,c2⟩ | ⟨c1,c2⟩ <;> rw [c1]
  ·rw [c2,show v_rmax 0 0 = 0 from rfl,Bool.true_and]; exact ih
  ·have h1 := v_misf_ge m r (v_rmax 0 (v_dist (v_resp d.1 m) d))
   have h2 := (v_rmax_ge 0 (v_dist (v_resp d.1 m) d)).2
   constructor
   ·intro h; rw [h] at h1; grind
   ·intro h; cases h
theorem v_misf0_zero (m:gC) (l:gB):v_misf0 m l = v_misf m 0 l := rfl
theorem v_rexpl_eq (m:gC) (l:gB):v_rexpl m l = v_exAll m l := by
 have h := v_misf_zero m l
 unfold v_rexpl v_rsgn
 rw [v_rv_rat,v_misf0_zero]
 rw [Bool.eq_iff_iff,beq_iff_eq,Int.sign_eq_zero_iff_zero,Rat.num_eq_zero]
 exact h
theorem l_Z14_0 (p0:gA) (p1:gB) (hc:v_clok p0) (hd:v_dat p1):OkL (st_Z14_0 p0 p1) (sp_Z14_0 p0 p1) (0,[])∧lpv [] (st_Z14_0 p0 p1) (0,[])=v_expn p1 (v_mdls p0) := by
 have hcnt := hc.cnt
 have hnn := v_count_nn p0
 have hl4 := hc.cne.len
 have main := @for_is (List Int) (Int×List Int) (List Int) [] (st_Z14_0 p0 p1) (sp_Z14_0 p0 p1) (fun i t => (i,t)) 0 (v_count p0).toNat (fun k t => t.length≤k) (fun k t => t ++ v_expn p1 ((v_mdls p0).drop k)) (by omega) (by omega) ?_ ?_ [] (Nat.le_refl _)
 ·exact main
 ·intro t _
  have hlm:(v_mdls p0).drop (v_count p0).toNat = [] := List.drop_eq_nil_of_le (by rw [v_mdls_len]; exact Nat.le_refl _)
  rw [hlm]
  simp only [sp_Z14_0,st_Z14_0,fM,show decide (((v_count p0).toNat:Int) < v_count p0)=false from decide_eq_false (by omega),cond_false]
  refine ⟨?_,by show Sum.inr t = Sum.inr (t ++ []); rw [List.append_nil]⟩
  and_intros
  all_goals first
   | exact hc.cne.few
   | omega
   | (intro h; cases h; done)
   | (intro p hp; cases hp)
 ·intro j t _ hj ht
  have hd1:decide ((j:Int) < v_count p0)=true := decide_eq_true (by omega)
  have hw1:IntKind.i64.wrap ((j:Int) + 1)=((j + 1:Nat):Int) := wrap_id (by omega) (by omega)
  have hm := v_mdl_mok hc (k := (j:Int)) (by omega)
  rw [v_mdls_drop hj]
  have e:v_expn p1 (((j:Int),v_mdl p0 j) :: (v_mdls p0).drop (j + 1))=cond (v_exAll (v_mdl p0 j) p1) ((j:Int) :: v_expn p1 ((v_mdls p0).drop (j + 1))) (v_expn p1 ((v_mdls p0).drop (j + 1))) := rfl
  rw [e]
  simp only [sp_Z14_0,st_Z14_0,fM,hd1,cond_true,hw1,v_rexpl_eq]
  refine ⟨?_,?_⟩
  ·and_intros
   all_goals first
    | exact hc.cne.few
    | exact fun _ => hc.cne
    | exact fun _ => hm
    | exact fun _ => hd
    | (intro p hp; cases hp; done)
    | (intros; simp only [List.length_cons,List.length_nil]; omega)
    | (intros; omega)
  ·cases v_exAll (v_mdl p0 j) p1
   ·exact .inl ⟨t,rfl,by omega,rfl⟩
   ·exact .inl ⟨t ++ [(j:Int)],rfl,by rw [List.length_append,List.length_singleton]; omega,by rw [List.append_assoc]; rfl⟩
abbrev t_Z14 (p0:gA) (p1:gB):List Int := v_expn p1 (v_mdls p0)
abbrev qre_Z14 (p0:gA) (p1:gB):List Prop := [v_clok p0,v_dat p1]
theorem pp_Z14 (p0:gA) (p1:gB) (hq:∀ p∈qre_Z14 p0 p1,p):∀ p∈pre_Z14 p0 p1,p := by
 obtain ⟨h1,h2,_⟩ := conj_of hq
 simp only [pre_Z14,fM]
 exact ⟨(l_Z14_0 p0 p1 h1 h2).1,(by intro p hp; cases hp)⟩
theorem tt_Z14 (p0:gA) (p1:gB) (hq:∀ p∈qre_Z14 p0 p1,p):s_Z14 p0 p1 = t_Z14 p0 p1 := by
 obtain ⟨h1,h2,_⟩ := conj_of hq
 exact (l_Z14_0 p0 p1 h1 h2).2

abbrev con_Z14:Con := ⟨P_Z14,R_Z14,fun x => qre_Z14 x.1 x.2,fun x => t_Z14 x.1 x.2⟩
theorem ok_Z14:ConOk Tryz.prog 17 con_Z14 := okG k_Z14 e_Z14 hC_Z14 fun x hx => tf_of (w_Z14_eq x.1 x.2 _) (d_Z14 x.1 x.2 _ (pp_Z14 x.1 x.2 hx) (tt_Z14 x.1 x.2 hx))
def C_Zb:Cons := [(59,[],con_Zf)]
theorem hC_Zb:ConsOk Tryz.prog C_Zb := cC ok_Zf <| ConsOk.nil
abbrev q0_Zb (p0:gA) (p1:gF) (y1:(Int×(List ((Int×Int)×(Int×Int))))) := (List.getD (v_mdl p0 (p1.getD (Int.toNat zz0) zz0)) y1.1.toNat (zz0,zz0))
abbrev q1_Zb (p0:gA) (p1:gF) (y1:(Int×(List ((Int×Int)×(Int×Int))))) (y4:(Int×((Int×Int)×(Int×(Int×(Int×Int)))))) := (List.getD (v_mdl p0 (p1.getD y4.1.toNat zz0)) y1.1.toNat (zz0,zz0))
def w_Zb (p0:gA) (p1:gF) (K:(List ((Int×Int)×(Int×Int)))→Prop):Prop := (∃ n0,(loopP (fun (y1:(Int×(List ((Int×Int)×(Int×Int))))) k2 => ((((decide (y1.1 < (p0.length:Int)))=true) →((zz0 < (p1.length:Int)) ∧((v_cne p0) ∧(((zz0≤(p1.getD (Int.toNat zz0) zz0)) ∧((p1.getD (Int.toNat zz0) zz0)≤9223372036854775807)) ∧((zz0≤y1.1) ∧((y1.1 < (((List.length (v_mdl p0 (p1.getD (Int.toNat zz0) zz0))):Nat):Int)) ∧(∃ n3,(loopP (fun (y4:(Int×((Int×Int)×(Int×(Int×(Int×Int)))))) k5 => ((((decide (y4.1 < (p1.length:Int)))=true) →((zz0≤y4.1) ∧((y4.1 < (p1.length:Int)) ∧((v_cne p0) ∧(((zz0≤(p1.getD y4.1.toNat zz0)) ∧((p1.getD y4.1.toNat zz0)≤9223372036854775807)) ∧((zz0≤y1.1) ∧((y1.1 < (((v_mdl p0 (p1.getD y4.1.toNat zz0)).length:Nat):Int)) ∧(k5 ((wi (y4.1 + zz1)),((q1_Zb p0 p1 y1 y4),((min y4.2.2.1 (q1_Zb p0 p1 y1 y4).1),((max y4.2.2.2.1 (q1_Zb p0 p1 y1 y4).1),((min y4.2.2.2.2.1 (q1_Zb p0 p1 y1 y4).2),(max y4.2.2.2.2.2 (q1_Zb p0 p1 y1 y4).2)))))))))))))) ∧(((decide (y4.1 < (p1.length:Int)))=false) →((((y1.2.length + (List.length (((y4.2.2.1,y4.2.2.2.1),y4.2.2.2.2) :: ([]:List ((Int×Int)×(Int×Int)))))) * 32)≤140737488355328) ∧(k2 ((wi (y1.1 + zz1)),(y1.2 ++ (((y4.2.2.1,y4.2.2.2.1),y4.2.2.2.2) :: ([]:List ((Int×Int)×(Int×Int))))))))))) n3 (zz1,((q0_Zb p0 p1 y1),((q0_Zb p0 p1 y1).1,((q0_Zb p0 p1 y1).1,((q0_Zb p0 p1 y1).2,(q0_Zb p0 p1 y1).2))))))))))))) ∧(((decide (y1.1 < (p0.length:Int)))=false) →(K y1.2)))) n0 (zz0,([]:List ((Int×Int)×(Int×Int))))))
theorem w_Zb_eq (p0:gA) (p1:gF) (K:(List ((Int×Int)×(Int×Int)))→Prop):tfn F_Zb A_Zb C_Zb P_Zb R_Zb (p0,p1) K = w_Zb p0 p1 K := by kernel_rfl
def st_Zb_0 (p0:gA) (p1:gF) (y0:(Int×(List ((Int×Int)×(Int×Int))))) (y2:(Int×((Int×Int)×(Int×(Int×(Int×Int)))))):(Int×((Int×Int)×(Int×(Int×(Int×Int))))) ⊕ ((Int×(List ((Int×Int)×(Int×Int)))) ⊕ (List ((Int×Int)×(Int×Int)))) := (cond (decide (y2.1 < (p1.length:Int))) (Sum.inl ((IntKind.i64.wrap (y2.1 + 1)),((List.getD (v_mdl p0 (p1.getD y2.1.toNat (0:Int))) y0.1.toNat (0,0)),((min y2.2.2.1 (List.getD (v_mdl p0 (p1.getD y2.1.toNat (0:Int))) y0.1.toNat (0,0)).1),((max y2.2.2.2.1 (List.getD (v_mdl p0 (p1.getD y2.1.toNat (0:Int))) y0.1.toNat (0,0)).1),((min y2.2.2.2.2.1 (List.getD (v_mdl p0 (p1.getD y2.1.toNat (0:Int))) y0.1.toNat (0,0)).2),(max y2.2.2.2.2.2 (List.getD (v_mdl p0 (p1.getD y2.1.toNat (0:Int))) y0.1.toNat (0,0)).2))))))) (Sum.inr (Sum.inl ((IntKind.i64.wrap (y0.1 + 1)),(y0.2 ++ (((y2.2.2.1,y2.2.2.2.1),y2.2.2.2.2) :: ([]:List ((Int×Int)×(Int×Int)))))))))
abbrev sp_Zb_0 (p0:gA) (p1:gF) (y0:(Int×(List ((Int×Int)×(Int×Int))))) (y2:(Int×((Int×Int)×(Int×(Int×(Int×Int)))))):List Prop := [(((decide (y2.1 < (p1.length:Int)))=true)→((0:Int)≤y2.1)),(((decide (y2.1 < (p1.length:Int)))=true)→(y2.1 < (p1.length:Int))),(((decide (y2.1 < (p1.length:Int)))=true)→(v_cne p0)),(((decide (y2.1 < (p1.length:Int)))=true)→(((0:Int)≤(p1.getD y2.1.toNat (0:Int)))∧((p1.getD y2.1.toNat (0:Int))≤9223372036854775807))),(((decide (y2.1 < (p1.length:Int)))=true)→((0:Int)≤y0.1)),(((decide (y2.1 < (p1.length:Int)))=true)→(y0.1 < (((List.length (v_mdl p0 (p1.getD y2.1.toNat (0:Int)))):Nat):Int))),(((decide (y2.1 < (p1.length:Int)))=false)→(((y0.2.length + (List.length (((y2.2.2.1,y2.2.2.2.1),y2.2.2.2.2) :: ([]:List ((Int×Int)×(Int×Int)))))) * 32)≤140737488355328))]
def st_Zb_1 (p0:gA) (p1:gF) (y0:(Int×(List ((Int×Int)×(Int×Int))))):(Int×(List ((Int×Int)×(Int×Int)))) ⊕ (List ((Int×Int)×(Int×Int))) := (cond (decide (y0.1 < (p0.length:Int))) (lpv (Sum.inr []) (st_Zb_0 p0 p1 y0) ((1:Int),((List.getD (v_mdl p0 (p1.getD (Int.toNat (0:Int)) (0:Int))) y0.1.toNat (0,0)),((List.getD (v_mdl p0 (p1.getD (Int.toNat (0:Int)) (0:Int))) y0.1.toNat (0,0)).1,((List.getD (v_mdl p0 (p1.getD (Int.toNat (0:Int)) (0:Int))) y0.1.toNat (0,0)).1,((List.getD (v_mdl p0 (p1.getD (Int.toNat (0:Int)) (0:Int))) y0.1.toNat (0,0)).2,(List.getD (v_mdl p0 (p1.getD (Int.toNat (0:Int)) (0:Int))) y0.1.toNat (0,0)).2)))))) (Sum.inr y0.2))
abbrev sp_Zb_1 (p0:gA) (p1:gF) (y0:(Int×(List ((Int×Int)×(Int×Int))))):List Prop := [(((decide (y0.1 < (p0.length:Int)))=true)→((0:Int) < (p1.length:Int))),(((decide (y0.1 < (p0.length:Int)))=true)→(v_cne p0)),(((decide (y0.1 < (p0.length:Int)))=true)→(((0:Int)≤(p1.getD (Int.toNat (0:Int)) (0:Int)))∧((p1.getD (Int.toNat (0:Int)) (0:Int))≤9223372036854775807))),(((decide (y0.1 < (p0.length:Int)))=true)→((0:Int)≤y0.1)),(((decide (y0.1 < (p0.length:Int)))=true)→(y0.1 < (((List.length (v_mdl p0 (p1.getD (Int.toNat (0:Int)) (0:Int)))):Nat):Int))),(((decide (y0.1 < (p0.length:Int)))=true)→(OkL (st_Zb_0 p0 p1 y0) (sp_Zb_0 p0 p1 y0) ((1:Int),((List.getD (v_mdl p0 (p1.getD (Int.toNat (0:Int)) (0:Int))) y0.1.toNat (0,0)),((List.getD (v_mdl p0 (p1.getD (Int.toNat (0:Int)) (0:Int))) y0.1.toNat (0,0)).1,((List.getD (v_mdl p0 (p1.getD (Int.toNat (0:Int)) (0:Int))) y0.1.toNat (0,0)).1,((List.getD (v_mdl p0 (p1.getD (Int.toNat (0:Int)) (0:Int))) y0.1.toNat (0,0)).2,(List.getD (v_mdl p0 (p1.getD (Int.toNat (0:Int)) (0:Int))) y0.1.toNat (0,0)).2)))))))]
def s_Zb (p0:gA) (p1:gF):(List ((Int×Int)×(Int×Int))) := (lpv [] (st_Zb_1 p0 p1) ((0:Int),([]:List ((Int×Int)×(Int×Int)))))
abbrev pre_Zb (p0:gA) (p1:gF):List Prop := [(OkL (st_Zb_1 p0 p1) (sp_Zb_1 p0 p1) ((0:Int),([]:List ((Int×Int)×(Int×Int)))))]
theorem d_Zb (p0:gA) (p1:gF) (K:(List ((Int×Int)×(Int×Int)))→Prop) (hp:∀ p∈pre_Zb p0 p1,p) (h:K (s_Zb p0 p1)):w_Zb p0 p1 K := by
 unfold w_Zb
 unfold s_Zb at h
 obtain ⟨hp0,_⟩ := conj_of hp
 exact (loop_gen (hp0) h (fun y0 k0 hp h => by
 unfold st_Zb_1 at h; obtain ⟨hp0,hp1,hp2,hp3,hp4,hp5,_⟩ := conj_of hp
 exact (br' h (fun e1 h => ⟨(hp0 e1),(hp1 e1),(hp2 e1),(hp3 e1),(hp4 e1),(loop_gen (hp5 e1) h (fun y2 k2 hp h => by
 unfold st_Zb_0 at h; obtain ⟨hp0,hp1,hp2,hp3,hp4,hp5,hp6,_⟩ := conj_of hp
 exact (br' h (fun e3 h => ⟨(hp0 e3),(hp1 e3),(hp2 e3),(hp3 e3),(hp4 e3),(hp5 e3),h⟩)
  (fun e3 h => ⟨(hp6 e3),h⟩))))⟩)
  (fun e1 h => h))))
/-- Ranges over models,layer by layer. -/
abbrev RGT:Type := (Int×Int)×(Int×Int)
def v_rj (c:gA) (j:Nat) (x:RGT) (l:gF):RGT := l.foldl (fun a n => v_wd1 a ((v_mdl c n).getD j (0,0))) x
theorem v_rngs_len (c:gA):∀ (l:gF) (out:List RGT),(out = [] ∨ out.length = c.length)→(l ≠ [] ∨ out.length = c.length)→(v_rngs c out l).length = c.length
 | [],out,h1,h2 => by
  rcases h2 with h2 | h2
  ·exact (h2 rfl).elim
  ·exact h2
 | n :: r,out,h1,h2 => by
  have hm:(v_mdl c n).length = c.length := v_mod_len c n
  have hw:(v_wdm out (v_mdl c n)).length = c.length := by rw [v_wdm_len (by rw [hm]; exact h1),hm]
  exact v_rngs_len c r (v_wdm out (v_mdl c n)) (.inr hw) (.inr hw)
theorem v_rngs_get (c:gA) {j:Nat} (hj:j < c.length):∀ (l:gF) (out:List RGT),out.length = c.length→(v_rngs c out l).getD j ((0,0),(0,0))=v_rj c j (out.getD j ((0,0),(0,0))) l
 | [],out,_ => rfl
 | n :: r,out,h => by
  have hm:(v_mdl c n).length = c.length := v_mod_len c n
  have hw:(v_wdm out (v_mdl c n)).length = c.length := by rw [v_wdm_len (by rw [hm]; exact .inr h),hm]
  have ih := v_rngs_get c hj r (v_wdm out (v_mdl c n)) hw
  have e:(v_wdm out (v_mdl c n)).getD j ((0,0),(0,0))=v_wd1 (out.getD j ((0,0),(0,0))) ((v_mdl c n).getD j (0,0)) := by
   unfold v_wdm
   rw [show out.isEmpty = false by cases out with | nil => simp at h; omega | cons => rfl,cond_false]
   rw [List.getD_eq_getElem?_getD,List.getElem?_zipWith,List.getD_eq_getElem?_getD,List.getD_eq_getElem?_getD,List.getElem?_eq_getElem (show j < (v_mdl c n).length by omega),List.getElem?_eq_getElem (show j < out.length by omega)]; rfl
  show (v_rngs c (v_wdm out (v_mdl c n)) r).getD j _ = v_rj c j (v_wd1 (out.getD j ((0,0),(0,0))) ((v_mdl c n).getD j (0,0))) r
  rw [ih,e]
/-- What a widened range contains,and what its ends are. -/
structure v_rin (z:RGT) (y:gG):Prop where
 a:z.1.1≤y.1
 b:y.1≤z.1.2
 c:z.2.1≤y.2
 d:y.2≤z.2.2
/-- Numbers that may be those of models. -/
structure v_nums (l:gF):Prop where
 len:l.length≤300
 mem:∀ n∈l,0≤n∧n≤9223372036854775807
theorem l_Zb_0 (p0:gA) (p1:gF) (hc:v_cne p0) (hn:v_nums p1) (h0:0 < p1.length) {j:Nat} (hj:j < p0.length) (o:List RGT) (ho:o.length≤4) (x:(Int×Int)×Int×Int×Int×Int):OkL (st_Zb_0 p0 p1 ((j:Int),o)) (sp_Zb_0 p0 p1 ((j:Int),o)) (1,x)∧lpv (Sum.inr []) (st_Zb_0 p0 p1 ((j:Int),o)) (1,x)=Sum.inl (((j + 1:Nat):Int),o ++ [v_rj p0 j ((x.2.1,x.2.2.1),x.2.2.2) (p1.drop 1)]) := by
 have hl := hc.len
 have hnl := hn.len
 have hwj:IntKind.i64.wrap ((j:Int) + 1)=((j + 1:Nat):Int) := wrap_id (by omega) (by omega)
 refine @for_is ((Int×Int)×Int×Int×Int×Int) (Int×(Int×Int)×Int×Int×Int×Int) ((Int×List RGT) ⊕ List RGT) (Sum.inr []) (st_Zb_0 p0 p1 ((j:Int),o)) (sp_Zb_0 p0 p1 ((j:Int),o)) (fun i t => (i,t)) 1 p1.length (fun _ _ => True) (fun i t => Sum.inl (((j + 1:Nat):Int),o ++ [v_rj p0 j ((t.2.1,t.2.2.1),t.2.2.2) (p1.drop i)])) (by omega) (by omega) ?_ ?_ x trivial
 ·intro t _
  rw [List.drop_length]
  simp only [sp_Zb_0,st_Zb_0,fM,hwj,show decide ((p1.length:Int) < (p1.length:Int))=false from decide_eq_false (by omega),cond_false]
  refine ⟨?_,rfl⟩
  and_intros
  all_goals first
   | (intro h; cases h; done)
   | (intro p hp; cases hp; done)
   | (intros; simp only [List.length_cons,List.length_nil]; omega)
 ·intro i t _ hi _
  have hd1:decide ((i:Int) < (p1.length:Int))=true := decide_eq_true (by omega)
  have hw1:IntKind.i64.wrap ((i:Int) + 1)=((i + 1:Nat):Int) := wrap_id (by omega) (by omega)
  have hm := hn.mem _ (v_getD_mem (d := 0) hi)
  have hml:(v_mdl p0 (p1.getD i 0)).length = p0.length := v_mod_len _ _
  rw [drop_getD (0:Int) hi]
  simp only [sp_Zb_0,st_Zb_0,fM,hd1,cond_true,hw1,Int.toNat_natCast]
  refine ⟨?_,.inl ⟨_,rfl,trivial,rfl⟩⟩
  and_intros
  all_goals first
   | exact fun _ => hc
   | (intro p hp; cases hp; done)
   | (intro h; cases h; done)
   | (intros; omega)
theorem l_Zb_1 (p0:gA) (p1:gF) (hc:v_cne p0) (hne:p1 ≠ []) (hn:v_nums p1):OkL (st_Zb_1 p0 p1) (sp_Zb_1 p0 p1) (0,[])∧lpv [] (st_Zb_1 p0 p1) (0,[])=v_rngs p0 [] p1 := by
 have hl := hc.len
 have h0:0 < p1.length := List.length_pos_iff.2 hne
 have hm := hn.mem _ (v_getD_mem (d := 0) h0)
 have hml:(v_mdl p0 (p1.getD 0 0)).length = p0.length := v_mod_len _ _
 have main := @forapp_is RGT (Int×List RGT) (List RGT) [] (st_Zb_1 p0 p1) (sp_Zb_1 p0 p1) (fun i t => (i,t)) 0 p0.length (fun j => v_rj p0 j (v_pt ((v_mdl p0 (p1.getD 0 0)).getD j (0,0))) (p1.drop 1)) (fun t => t) (by omega) (by omega) ?_ ?_
 ·refine ⟨main.1,main.2.trans ?_⟩
  have hr:(v_rngs p0 [] p1).length = p0.length := v_rngs_len p0 p1 [] (.inl rfl) (.inl hne)
  refine gd_ext ((0,0),(0,0)) (by rw [hr]; simp) fun j hj0 => ?_
  have hj:j < p0.length := by simpa using hj0
  rw [gd_map_range (by omega),Nat.zero_add]
  cases p1 with
  | nil => exact (hne rfl).elim
  | cons n r =>
   have e:v_rngs p0 [] (n :: r)=v_rngs p0 ((v_mdl p0 n).map v_pt) r := rfl
   have hml:(v_mdl p0 n).length = p0.length := v_mod_len _ _
   rw [e,v_rngs_get p0 hj r _ (by rw [List.length_map,hml]),gd_map (0,0) (by omega)]; rfl
 ·intro t ht
  simp only [sp_Zb_1,st_Zb_1,fM,show decide ((p0.length:Int) < (p0.length:Int))=false from decide_eq_false (by omega),cond_false]
  refine ⟨?_,trivial⟩
  and_intros
  all_goals first
   | (intro h; cases h; done)
   | (intro p hp; cases hp)
 ·intro j t _ hj ht
  have hd1:decide ((j:Int) < (p0.length:Int))=true := decide_eq_true (by omega)
  have ho := fun x => l_Zb_0 p0 p1 hc hn h0 hj t (by omega) x
  simp only [sp_Zb_1,st_Zb_1,fM,hd1,cond_true,show Int.toNat (0:Int)=0 from rfl,Int.toNat_natCast,(ho _).2]
  refine ⟨?_,rfl⟩
  and_intros
  all_goals first
   | exact fun _ => hc
   | exact fun _ => (ho _).1
   | (intro p hp; cases hp; done)
   | (intros; omega)
abbrev t_Zb (p0:gA) (p1:gF):List ((Int×Int)×(Int×Int)) := v_rngs p0 [] p1
abbrev qre_Zb (p0:gA) (p1:gF):List Prop := [v_cne p0,p1 ≠ [],v_nums p1]
theorem pp_Zb (p0:gA) (p1:gF) (hq:∀ p∈qre_Zb p0 p1,p):∀ p∈pre_Zb p0 p1,p := by
 obtain ⟨h1,h2,h3,_⟩ := conj_of hq
 simp only [pre_Zb,fM]
 exact ⟨(l_Zb_1 p0 p1 h1 h2 h3).1,(by intro p hp; cases hp)⟩
theorem tt_Zb (p0:gA) (p1:gF) (hq:∀ p∈qre_Zb p0 p1,p):s_Zb p0 p1 = t_Zb p0 p1 := by
 obtain ⟨h1,h2,h3,_⟩ := conj_of hq
 exact (l_Zb_1 p0 p1 h1 h2 h3).2

abbrev con_Zb:Con := ⟨P_Zb,R_Zb,fun x => qre_Zb x.1 x.2,fun x => t_Zb x.1 x.2⟩
theorem ok_Zb:ConOk Tryz.prog 20 con_Zb := okG k_Zb e_Zb hC_Zb fun x hx => tf_of (w_Zb_eq x.1 x.2 _) (d_Zb x.1 x.2 _ (pp_Zb x.1 x.2 hx) (tt_Zb x.1 x.2 hx))
def C_Zt:Cons := []
theorem hC_Zt:ConsOk Tryz.prog C_Zt := ConsOk.nil
abbrev q0_Zt (p0:(List ((Int×Int)×(Int×Int)))) (p1:(List ((Int×Int)×(Int×Int)))) (y1:Int) := (!(((p0.getD y1.toNat ((zz0,zz0),(zz0,zz0))).1.1 == (p1.getD y1.toNat ((zz0,zz0),(zz0,zz0))).1.1) && (((p0.getD y1.toNat ((zz0,zz0),(zz0,zz0))).1.2 == (p1.getD y1.toNat ((zz0,zz0),(zz0,zz0))).1.2) && (((p0.getD y1.toNat ((zz0,zz0),(zz0,zz0))).2.1 == (p1.getD y1.toNat ((zz0,zz0),(zz0,zz0))).2.1) && (((p0.getD y1.toNat ((zz0,zz0),(zz0,zz0))).2.2 == (p1.getD y1.toNat ((zz0,zz0),(zz0,zz0))).2.2) && true)))))
def w_Zt (p0:(List ((Int×Int)×(Int×Int)))) (p1:(List ((Int×Int)×(Int×Int)))) (K:Bool→Prop):Prop := (((((p0.length:Int) != (p1.length:Int))=true) →(K false)) ∧((((p0.length:Int) != (p1.length:Int))=false) →(∃ n0,(loopP (fun (y1:Int) k2 => ((((decide (y1 < (p0.length:Int)))=true) →((zz0≤y1) ∧((y1 < (p0.length:Int)) ∧((zz0≤y1) ∧((y1 < (p1.length:Int)) ∧((((q0_Zt p0 p1 y1)=true) →(K false)) ∧(((q0_Zt p0 p1 y1)=false) →(k2 (wi (y1 + zz1)))))))))) ∧(((decide (y1 < (p0.length:Int)))=false) →(K true)))) n0 zz0))))
theorem w_Zt_eq (p0:(List ((Int×Int)×(Int×Int)))) (p1:(List ((Int×Int)×(Int×Int)))) (K:Bool→Prop):tfn F_Zt A_Zt C_Zt P_Zt R_Zt (p0,p1) K = w_Zt p0 p1 K := by kernel_rfl
def st_Zt_0 (p0:(List ((Int×Int)×(Int×Int)))) (p1:(List ((Int×Int)×(Int×Int)))) (y1:Int):Int ⊕ Bool := (cond (decide (y1 < (p0.length:Int))) (cond (!(((p0.getD y1.toNat ((0,0),(0,0))).1.1 == (p1.getD y1.toNat ((0,0),(0,0))).1.1) && (((p0.getD y1.toNat ((0,0),(0,0))).1.2 == (p1.getD y1.toNat ((0,0),(0,0))).1.2) && (((p0.getD y1.toNat ((0,0),(0,0))).2.1 == (p1.getD y1.toNat ((0,0),(0,0))).2.1) && (((p0.getD y1.toNat ((0,0),(0,0))).2.2 == (p1.getD y1.toNat ((0,0),(0,0))).2.2) && true))))) (Sum.inr false) (Sum.inl (IntKind.i64.wrap (y1 + 1)))) (Sum.inr true))
abbrev sp_Zt_0 (p0:(List ((Int×Int)×(Int×Int)))) (p1:(List ((Int×Int)×(Int×Int)))) (y1:Int):List Prop := [(((decide (y1 < (p0.length:Int)))=true)→((0:Int)≤y1)),(((decide (y1 < (p0.length:Int)))=true)→(y1 < (p0.length:Int))),(((decide (y1 < (p0.length:Int)))=true)→(y1 < (p1.length:Int)))]
def s_Zt (p0:(List ((Int×Int)×(Int×Int)))) (p1:(List ((Int×Int)×(Int×Int)))):Bool := (cond ((p0.length:Int) != (p1.length:Int)) false (lpv false (st_Zt_0 p0 p1) (0:Int)))
abbrev pre_Zt (p0:(List ((Int×Int)×(Int×Int)))) (p1:(List ((Int×Int)×(Int×Int)))):List Prop := [((((p0.length:Int) != (p1.length:Int))=false)→(OkL (st_Zt_0 p0 p1) (sp_Zt_0 p0 p1) (0:Int)))]
theorem d_Zt (p0:(List ((Int×Int)×(Int×Int)))) (p1:(List ((Int×Int)×(Int×Int)))) (K:Bool→Prop) (hp:∀ p∈pre_Zt p0 p1,p) (h:K (s_Zt p0 p1)):w_Zt p0 p1 K := by
 unfold w_Zt
 unfold s_Zt at h
 obtain ⟨hp0,_⟩ := conj_of hp
 exact (br' h (fun e0 h => h)
  (fun e0 h => (loop_gen (hp0 e0) h (fun y1 k1 hp h => by
 unfold st_Zt_0 at h; obtain ⟨hp0,hp1,hp2,_⟩ := conj_of hp
 exact (br' h (fun e2 h => ⟨(hp0 e2),(hp1 e2),(hp0 e2),(hp2 e2),(br' h (fun e3 h => h)
  (fun e3 h => h))⟩)
  (fun e2 h => h))))))
theorem l_Zt_0 (p0 p1:List ((Int×Int)×Int×Int)) (hl:lenOk p0) (he:p0.length = p1.length):OkL (st_Zt_0 p0 p1) (sp_Zt_0 p0 p1) 0∧lpv false (st_Zt_0 p0 p1) 0 = v_scan (fun i x => cond (!(((x.1.1 == (p1.getD i.toNat ((0,0),(0,0))).1.1) && ((x.1.2 == (p1.getD i.toNat ((0,0),(0,0))).1.2) && ((x.2.1 == (p1.getD i.toNat ((0,0),(0,0))).2.1) && ((x.2.2 == (p1.getD i.toNat ((0,0),(0,0))).2.2) && true)))))) (some false) none) true 0 p0 := by
 refine scan_is p0 ((0,0),(0,0)) (fun i x => cond (!(((x.1.1 == (p1.getD i.toNat ((0,0),(0,0))).1.1) && ((x.1.2 == (p1.getD i.toNat ((0,0),(0,0))).1.2) && ((x.2.1 == (p1.getD i.toNat ((0,0),(0,0))).2.1) && ((x.2.2 == (p1.getD i.toNat ((0,0),(0,0))).2.2) && true)))))) (some false) none) true hl ?_ ?_
 ·refine ⟨by simp only [sp_Zt_0,fM,decide_eq_true_eq]; simp,by simp [st_Zt_0]⟩
 ·intro j hj
  have hj' : (j:Int) < p0.length := by omega
  refine ⟨by simp only [sp_Zt_0,fM,decide_eq_true_eq,Int.toNat_natCast]; simp <;> omega,?_⟩
  simp only [st_Zt_0,hj',decide_true,Int.toNat_natCast,cond_true,wrap_nat (show (j:Int)≤9223372036854775806 by unfold lenOk at hl; omega)]
  generalize p0.getD j ((0,0),(0,0))=x
  generalize p1.getD j ((0,0),(0,0))=z
  cases (x.1.1 == z.1.1 && (x.1.2 == z.1.2 && (x.2.1 == z.2.1 && (x.2.2 == z.2.2 && true)))) <;> rfl
abbrev t_Zt (p0:List ((Int×Int)×(Int×Int))) (p1:List ((Int×Int)×(Int×Int))):Bool := decide (p0 = p1)
abbrev qre_Zt (p0:List ((Int×Int)×(Int×Int))) (_p1:List ((Int×Int)×(Int×Int))):List Prop := [lenOk p0]
theorem pp_Zt (p0:List ((Int×Int)×(Int×Int))) (p1:List ((Int×Int)×(Int×Int))) (hq:∀ p∈qre_Zt p0 p1,p):∀ p∈pre_Zt p0 p1,p := by
 simp only [pre_Zt,fM]
 refine ⟨fun h => (l_Zt_0 p0 p1 (conj_of hq).1 ?_).1,by simp⟩
 have h' : (p0.length:Int)=p1.length := by simpa using h
 omega
theorem tt_Zt (p0:List ((Int×Int)×(Int×Int))) (p1:List ((Int×Int)×(Int×Int))) (hq:∀ p∈qre_Zt p0 p1,p):s_Zt p0 p1 = t_Zt p0 p1 := by
 unfold s_Zt t_Zt
 by_cases h:p0.length = p1.length
 ·rw [show ((p0.length:Int) != (p1.length:Int))=false by simp [h]]
  refine (l_Zt_0 p0 p1 (conj_of hq).1 h).2.trans ?_
  exact v_scan_eq ((0,0),(0,0)) (fun x y => ((x.1.1 == y.1.1) && ((x.1.2 == y.1.2) && ((x.2.1 == y.2.1) && ((x.2.2 == y.2.2) && true))))) (fun x y => by
   obtain ⟨⟨a,b⟩,e,f⟩ := x
   obtain ⟨⟨c,d⟩,g,i⟩ := y
   by_cases h1:a = c <;> by_cases h2:b = d <;> by_cases h3:e = g <;> by_cases h4:f = i <;> simp [h1,h2,h3,h4]) p0 p1 h
 ·rw [show ((p0.length:Int) != (p1.length:Int))=true by simp; omega]
  have:p0 ≠ p1 := fun e => h (congrArg List.length e)
  simp [this]

abbrev con_Zt:Con := ⟨P_Zt,R_Zt,fun x => qre_Zt x.1 x.2,fun x => t_Zt x.1 x.2⟩
theorem ok_Zt:ConOk Tryz.prog 19 con_Zt := okG k_Zt e_Zt hC_Zt fun x hx => tf_of (w_Zt_eq x.1 x.2 _) (d_Zt x.1 x.2 _ (pp_Zt x.1 x.2 hx) (tt_Zt x.1 x.2 hx))
def C_Z17:Cons := [(91,[],con_Z1c)]
theorem hC_Z17:ConsOk Tryz.prog C_Z17 := cC ok_Z1c <| ConsOk.nil
def w_Z17 (p0:gC) (p1:gC) (p2:Int) (K:Bool→Prop):Prop := (∃ n0,(loopP (fun (y1:Int) k2 => ((((decide (y1 < (p0.length:Int)))=true) →((zz0≤y1) ∧((y1 < (p0.length:Int)) ∧((zz0≤y1) ∧((y1 < (p1.length:Int)) ∧((((decide ((s_Z1c (IntKind.i64.wrap ((p0.getD y1.toNat (zz0,zz0)).1 - (p1.getD y1.toNat (zz0,zz0)).1))) ≥ p2))=true) →(K true)) ∧(((decide ((s_Z1c (IntKind.i64.wrap ((p0.getD y1.toNat (zz0,zz0)).1 - (p1.getD y1.toNat (zz0,zz0)).1))) ≥ p2))=false) →(k2 (IntKind.i64.wrap (y1 + 1)))))))))) ∧(((decide (y1 < (p0.length:Int)))=false) →(K false)))) n0 zz0))
theorem w_Z17_eq (p0:gC) (p1:gC) (p2:Int) (K:Bool→Prop):tfn F_Z17 A_Z17 C_Z17 P_Z17 R_Z17 (p0,p1,p2) K = w_Z17 p0 p1 p2 K := by kernel_rfl
def st_Z17_0 (p0:gC) (p1:gC) (p2:Int) (y0:Int):Int ⊕ Bool := (cond (decide (y0 < (p0.length:Int))) (cond (decide ((s_Z1c (IntKind.i64.wrap ((p0.getD y0.toNat (0,0)).1 - (p1.getD y0.toNat (0,0)).1))) ≥ p2)) (Sum.inr true) (Sum.inl (IntKind.i64.wrap (y0 + 1)))) (Sum.inr false))
abbrev sp_Z17_0 (p0:gC) (p1:gC) (_p2:Int) (y0:Int):List Prop := [(((decide (y0 < (p0.length:Int)))=true)→((0:Int)≤y0)),(((decide (y0 < (p0.length:Int)))=true)→(y0 < (p0.length:Int))),(((decide (y0 < (p0.length:Int)))=true)→(y0 < (p1.length:Int)))]
def s_Z17 (p0:gC) (p1:gC) (p2:Int):Bool := (lpv false (st_Z17_0 p0 p1 p2) (0:Int))
abbrev pre_Z17 (p0:gC) (p1:gC) (p2:Int):List Prop := [(OkL (st_Z17_0 p0 p1 p2) (sp_Z17_0 p0 p1 p2) (0:Int))]
theorem d_Z17 (p0:gC) (p1:gC) (p2:Int) (K:Bool→Prop) (hp:∀ p∈pre_Z17 p0 p1 p2,p) (h:K (s_Z17 p0 p1 p2)):w_Z17 p0 p1 p2 K := by
 unfold w_Z17
 unfold s_Z17 at h
 obtain ⟨hp0,_⟩ := conj_of hp
 exact (loop_gen (hp0) h (fun y0 k0 hp h => by
 unfold st_Z17_0 at h; obtain ⟨hp0,hp1,hp2,_⟩ := conj_of hp
 exact (br' h (fun e1 h => ⟨(hp0 e1),(hp1 e1),(hp0 e1),(hp2 e1),(br' h (fun e2 h => h)
  (fun e2 h => h))⟩)
  (fun e1 h => h))))
theorem l_Z17_0 (p0 p1:gC) (p2:Int) (h0:v_mok p0) (h1:v_mok p1) (he:p0.length = p1.length):OkL (st_Z17_0 p0 p1 p2) (sp_Z17_0 p0 p1 p2) 0∧lpv false (st_Z17_0 p0 p1 p2) 0 = v_dis p0 p1 p2 := by
 have hl := h0.len
 refine scan_is p0 (0,0) (fun i x => cond (decide (p2≤v_far x.1 (p1.getD i.toNat (0,0)).1)) (some true) none) false (lenOk_le hl (by decide)) ?_ ?_
 ·refine ⟨by simp only [sp_Z17_0,fM,decide_eq_true_eq]; simp,by simp [st_Z17_0]⟩
 ·intro j hj
  have hj' : (j:Int) < p0.length := by omega
  refine ⟨by simp only [sp_Z17_0,fM,decide_eq_true_eq,Int.toNat_natCast]; simp <;> omega,?_⟩
  have c1 := (h0.ok _ (v_getD_mem (d := (0,0)) hj)).c
  have c2 := (h1.ok _ (v_getD_mem (d := (0,0)) (show j < p1.length by omega))).c
  simp only [st_Z17_0,hj',decide_true,Int.toNat_natCast,cond_true,wrap_nat (show (j:Int)≤9223372036854775806 by omega)]
  have key:∀ x z:Int,1≤x∧x≤20→1≤z∧z≤20→decide (s_Z1c (IntKind.i64.wrap (x - z)) ≥ p2)=decide (p2≤v_far x z) := fun x z c1 c2 => by
   unfold s_Z1c
   rw [wrap_id (n := x - z) (by omega) (by omega),wrap_id (by omega) (by omega)]; rfl
  rw [key _ _ c1 c2]
  cases decide (p2≤v_far (p0.getD j (0,0)).1 (p1.getD j (0,0)).1) <;> rfl
abbrev t_Z17 (p0:gC) (p1:gC) (p2:Int):Bool := v_dis p0 p1 p2
abbrev qre_Z17 (p0:gC) (p1:gC) (_p2:Int):List Prop := [v_mok p0,v_mok p1,p0.length = p1.length]
theorem pp_Z17 (p0:gC) (p1:gC) (p2:Int) (hq:∀ p∈qre_Z17 p0 p1 p2,p):∀ p∈pre_Z17 p0 p1 p2,p := by
 obtain ⟨h0,h1,h2,_⟩ := conj_of hq
 simp only [pre_Z17,fM]
 exact ⟨(l_Z17_0 p0 p1 p2 h0 h1 h2).1,(by intro p hp; cases hp)⟩
theorem tt_Z17 (p0:gC) (p1:gC) (p2:Int) (hq:∀ p∈qre_Z17 p0 p1 p2,p):s_Z17 p0 p1 p2 = t_Z17 p0 p1 p2 := by
 obtain ⟨h0,h1,h2,_⟩ := conj_of hq
 exact (l_Z17_0 p0 p1 p2 h0 h1 h2).2

abbrev con_Z17:Con := ⟨P_Z17,R_Z17,fun x => qre_Z17 x.1 x.2.1 x.2.2,fun x => t_Z17 x.1 x.2.1 x.2.2⟩
theorem ok_Z17:ConOk Tryz.prog 60 con_Z17 := okG k_Z17 e_Z17 hC_Z17 fun x hx => tf_of (w_Z17_eq x.1 x.2.1 x.2.2 _) (d_Z17 x.1 x.2.1 x.2.2 _ (pp_Z17 x.1 x.2.1 x.2.2 hx) (tt_Z17 x.1 x.2.1 x.2.2 hx))
end Go.Proofs.YtehblgccaiiikaaGreat
