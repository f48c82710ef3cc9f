/- What the functions that MagnetBases reaches compute: contracts, each function once. No condition. -/
import Derived.Test.YtdkhhafmidokmaaGreatWalkMagnetBasesB
import Derived.KernelRfl
namespace Go.Proofs.YtdkhhafmidokmaaGreat
open Go Go.Mx
set_option maxRecDepth 100000
set_option maxHeartbeats 4000000
def C_Z12:Cons := [(92,[],con_Z17),(90,[],con_Zz)]
theorem hC_Z12:ConsOk Tryz.prog C_Z12 := cC ok_Z17 <| cC ok_Zz <| ConsOk.nil
def w_Z12 (p0:gD) (p1:gD) (K:((Int×(List Int))×(Int×(List Int)))→Prop):Prop := ((v_rok p1) ∧((v_rok p0) ∧((v_rok (v_rneg p1)) ∧(K (v_radd p0 (v_rneg p1))))))
theorem w_Z12_eq (p0:gD) (p1:gD) (K:((Int×(List Int))×(Int×(List Int)))→Prop):tfn F_Z12 A_Z12 C_Z12 P_Z12 R_Z12 (p0,p1) K = w_Z12 p0 p1 K := by kernel_rfl
def s_Z12 (p0:gD) (p1:gD):((Int×(List Int))×(Int×(List Int))) := (v_radd p0 (v_rneg p1))
abbrev pre_Z12 (p0:gD) (p1:gD):List Prop := [(v_rok p1),(v_rok p0),(v_rok (v_rneg p1))]
theorem d_Z12 (p0:gD) (p1:gD) (K:((Int×(List Int))×(Int×(List Int)))→Prop) (hp:∀ p∈pre_Z12 p0 p1,p) (h:K (s_Z12 p0 p1)):w_Z12 p0 p1 K := by
 unfold w_Z12
 unfold s_Z12 at h
 obtain ⟨hp0,hp1,hp2,_⟩ := conj_of hp
 exact ⟨(hp0),(hp1),(hp2),h⟩
abbrev t_Z12 (p0:(Int×List Int)×(Int×List Int)) (p1:(Int×List Int)×(Int×List Int)):(Int×List Int)×(Int×List Int) := v_rsub p0 p1
abbrev qre_Z12 (p0:(Int×List Int)×(Int×List Int)) (p1:(Int×List Int)×(Int×List Int)):List Prop := [v_rok p0,v_rok p1]
theorem pp_Z12 (p0:(Int×List Int)×(Int×List Int)) (p1:(Int×List Int)×(Int×List Int)) (hq:∀ p∈qre_Z12 p0 p1,p):∀ p∈pre_Z12 p0 p1,p := by
 obtain ⟨h1,h2,_⟩ := conj_of hq
 obtain ⟨p,rfl,a1,a2⟩ := h1.ex
 obtain ⟨q,rfl,b1,b2⟩ := h2.ex
 have hr:v_rok (v_rneg (v_rat q)) := by unfold v_rneg; rw [v_rv_rat]; exact v_rok_of (by rw [Rat.neg_num,v_dl_neg]; exact b1) (by rw [Rat.neg_den]; exact b2)
 simp only [pre_Z12,fM]
 and_intros
 all_goals first
  | (intro p hp; cases hp; done)
  | (intros; assumption)
  | (intros; rw [v_wval_wide]; assumption)
  | (intros; apply v_wok_of; omega)
  | (intros; rw [v_wide_len]; omega)
  | omega
  | (unfold v_fit at *; omega)
theorem tt_Z12 (p0:(Int×List Int)×(Int×List Int)) (p1:(Int×List Int)×(Int×List Int)) (hq:∀ p∈qre_Z12 p0 p1,p):s_Z12 p0 p1 = t_Z12 p0 p1 := by
 obtain ⟨h1,h2,_⟩ := conj_of hq
 obtain ⟨p,rfl,a1,a2⟩ := h1.ex
 obtain ⟨q,rfl,b1,b2⟩ := h2.ex
 unfold s_Z12 t_Z12 v_rsub v_radd v_rneg
 rw [v_rv_rat,v_rv_rat,v_rv_rat,Rat.sub_eq_add_neg]

abbrev con_Z12:Con := ⟨P_Z12,R_Z12,fun x => qre_Z12 x.1 x.2,fun x => t_Z12 x.1 x.2⟩
theorem ok_Z12:ConOk Tryz.prog 46 con_Z12 := okG k_Z12 e_Z12 hC_Z12 fun x hx => tf_of (w_Z12_eq x.1 x.2 _) (d_Z12 x.1 x.2 _ (pp_Z12 x.1 x.2 hx) (tt_Z12 x.1 x.2 hx))
def C_Zb:Cons := [(14,[],con_Zv),(47,[],con_Zx),(44,[],con_Zj),(46,[],con_Z12),(43,[],con_Zw)]
theorem hC_Zb:ConsOk Tryz.prog C_Zb := cC ok_Zv <| cC ok_Zx <| cC ok_Zj <| cC ok_Z12 <| cC ok_Zw <| ConsOk.nil
abbrev q1_Zb (p1:(List (Int×(Int×(Int×(Int×Int)))))) (y1:(Int×(List (Int×Int)))) := (p1.getD y1.1.toNat (zz0,(zz0,(zz0,(zz0,zz0)))))
abbrev q0_Zb (p0:(Int×(List (Int×Int)))) (p1:(List (Int×(Int×(Int×(Int×Int)))))) (y1:(Int×(List (Int×Int)))) := (v_rsub (v_rint (q1_Zb p1 y1).2.2.2.2) (v_rat (v_chq p0 (q1_Zb p1 y1).1)))
def w_Zb (p0:(Int×(List (Int×Int)))) (p1:(List (Int×(Int×(Int×(Int×Int)))))) (K:((List (Int×Int))×Int)→Prop):Prop := (∃ n0,(loopP (fun (y1:(Int×(List (Int×Int)))) k2 => ((((decide (y1.1 < (p1.length:Int)))=true) →((zz0≤y1.1) ∧((y1.1 < (p1.length:Int)) ∧((0 < p0.2.length) ∧((p0.2.length≤1000) ∧((((!(v_iw p0 (q1_Zb p1 y1).1))=true) →(K (([]:List (Int×Int)),(14:Int)))) ∧(((!(v_iw p0 (q1_Zb p1 y1).1))=false) →((zz0≤y1.1) ∧((y1.1 < (p1.length:Int)) ∧((v_fit (q1_Zb p1 y1).2.2.2.2) ∧((zz0≤y1.1) ∧((y1.1 < (p1.length:Int)) ∧((v_bok p0) ∧(((v_iw p0 (q1_Zb p1 y1).1)=true) ∧((v_rok (v_rint (q1_Zb p1 y1).2.2.2.2)) ∧((v_rok (v_rat (v_chq p0 (q1_Zb p1 y1).1))) ∧((v_rok (q0_Zb p0 p1 y1)) ∧((((-1000000000000000000:Int) < (v_flr (v_rv (q0_Zb p0 p1 y1)))) ∧((v_flr (v_rv (q0_Zb p0 p1 y1))) < 1000000000000000000)) ∧((((-1000000000000000000:Int) < (v_cel (v_rv (q0_Zb p0 p1 y1)))) ∧((v_cel (v_rv (q0_Zb p0 p1 y1))) < 1000000000000000000)) ∧((((y1.2.length + (List.length (((v_flr (v_rv (q0_Zb p0 p1 y1))),(v_cel (v_rv (q0_Zb p0 p1 y1)))) :: ([]:List (Int×Int))))) * 16)≤140737488355328) ∧(k2 ((wi (y1.1 + zz1)),(y1.2 ++ (((v_flr (v_rv (q0_Zb p0 p1 y1))),(v_cel (v_rv (q0_Zb p0 p1 y1)))) :: ([]:List (Int×Int)))))))))))))))))))))))))) ∧(((decide (y1.1 < (p1.length:Int)))=false) →(K (y1.2,zz0))))) n0 (zz0,([]:List (Int×Int)))))
theorem w_Zb_eq (p0:(Int×(List (Int×Int)))) (p1:(List (Int×(Int×(Int×(Int×Int)))))) (K:((List (Int×Int))×Int)→Prop):tfn F_Zb A_Zb C_Zb P_Zb R_Zb (p0,p1) K = w_Zb p0 p1 K := by kernel_rfl
def st_Zb_0 (p0:(Int×(List (Int×Int)))) (p1:(List (Int×(Int×(Int×(Int×Int)))))) (y0:(Int×(List (Int×Int)))):(Int×(List (Int×Int))) ⊕ ((List (Int×Int))×Int) := (cond (decide (y0.1 < (p1.length:Int))) (cond (!(v_iw p0 (p1.getD y0.1.toNat ((0:Int),((0:Int),((0:Int),(0,0))))).1)) (Sum.inr (([]:List (Int×Int)),(14:Int))) (Sum.inl ((IntKind.i64.wrap (y0.1 + 1)),(y0.2 ++ (((v_flr (v_rv (v_rsub (v_rint (p1.getD y0.1.toNat ((0:Int),((0:Int),((0:Int),(0,0))))).2.2.2.2) (v_rat (v_chq p0 (p1.getD y0.1.toNat ((0:Int),((0:Int),((0:Int),(0,0))))).1))))),(v_cel (v_rv (v_rsub (v_rint (p1.getD y0.1.toNat ((0:Int),((0:Int),((0:Int),(0,0))))).2.2.2.2) (v_rat (v_chq p0 (p1.getD y0.1.toNat ((0:Int),((0:Int),((0:Int),(0,0))))).1)))))) :: ([]:List (Int×Int))))))) (Sum.inr (y0.2,(0:Int))))
abbrev sp_Zb_0 (p0:(Int×(List (Int×Int)))) (p1:(List (Int×(Int×(Int×(Int×Int)))))) (y0:(Int×(List (Int×Int)))):List Prop := [(((decide (y0.1 < (p1.length:Int)))=true)→((0:Int)≤y0.1)),(((decide (y0.1 < (p1.length:Int)))=true)→(y0.1 < (p1.length:Int))),(((decide (y0.1 < (p1.length:Int)))=true)→(0 < p0.2.length)),(((decide (y0.1 < (p1.length:Int)))=true)→(p0.2.length≤1000)),(((decide (y0.1 < (p1.length:Int)))=true)→(((!(v_iw p0 (p1.getD y0.1.toNat ((0:Int),((0:Int),((0:Int),(0,0))))).1))=false)→((0:Int)≤y0.1))),(((decide (y0.1 < (p1.length:Int)))=true)→(((!(v_iw p0 (p1.getD y0.1.toNat ((0:Int),((0:Int),((0:Int),(0,0))))).1))=false)→(y0.1 < (p1.length:Int)))),(((decide (y0.1 < (p1.length:Int)))=true)→(((!(v_iw p0 (p1.getD y0.1.toNat ((0:Int),((0:Int),((0:Int),(0,0))))).1))=false)→(v_fit (p1.getD y0.1.toNat ((0:Int),((0:Int),((0:Int),(0,0))))).2.2.2.2))),(((decide (y0.1 < (p1.length:Int)))=true)→(((!(v_iw p0 (p1.getD y0.1.toNat ((0:Int),((0:Int),((0:Int),(0,0))))).1))=false)→(v_bok p0))),(((decide (y0.1 < (p1.length:Int)))=true)→(((!(v_iw p0 (p1.getD y0.1.toNat ((0:Int),((0:Int),((0:Int),(0,0))))).1))=false)→((v_iw p0 (p1.getD y0.1.toNat ((0:Int),((0:Int),((0:Int),(0,0))))).1)=true))),(((decide (y0.1 < (p1.length:Int)))=true)→(((!(v_iw p0 (p1.getD y0.1.toNat ((0:Int),((0:Int),((0:Int),(0,0))))).1))=false)→(v_rok (v_rint (p1.getD y0.1.toNat ((0:Int),((0:Int),((0:Int),(0,0))))).2.2.2.2)))),(((decide (y0.1 < (p1.length:Int)))=true)→(((!(v_iw p0 (p1.getD y0.1.toNat ((0:Int),((0:Int),((0:Int),(0,0))))).1))=false)→(v_rok (v_rat (v_chq p0 (p1.getD y0.1.toNat ((0:Int),((0:Int),((0:Int),(0,0))))).1))))),(((decide (y0.1 < (p1.length:Int)))=true)→(((!(v_iw p0 (p1.getD y0.1.toNat ((0:Int),((0:Int),((0:Int),(0,0))))).1))=false)→(v_rok (v_rsub (v_rint (p1.getD y0.1.toNat ((0:Int),((0:Int),((0:Int),(0,0))))).2.2.2.2) (v_rat (v_chq p0 (p1.getD y0.1.toNat ((0:Int),((0:Int),((0:Int),(0,0))))).1)))))),(((decide (y0.1 < (p1.length:Int)))=true)→(((!(v_iw p0 (p1.getD y0.1.toNat ((0:Int),((0:Int),((0:Int),(0,0))))).1))=false)→(((-1000000000000000000:Int) < (v_flr (v_rv (v_rsub (v_rint (p1.getD y0.1.toNat ((0:Int),((0:Int),((0:Int),(0,0))))).2.2.2.2) (v_rat (v_chq p0 (p1.getD y0.1.toNat ((0:Int),((0:Int),((0:Int),(0,0))))).1))))))∧((v_flr (v_rv (v_rsub (v_rint (p1.getD y0.1.toNat ((0:Int),((0:Int),((0:Int),(0,0))))).2.2.2.2) (v_rat (v_chq p0 (p1.getD y0.1.toNat ((0:Int),((0:Int),((0:Int),(0,0))))).1))))) < 1000000000000000000)))),(((decide (y0.1 < (p1.length:Int)))=true)→(((!(v_iw p0 (p1.getD y0.1.toNat ((0:Int),((0:Int),((0:Int),(0,0))))).1))=false)→(((-1000000000000000000:Int) < (v_cel (v_rv (v_rsub (v_rint (p1.getD y0.1.toNat ((0:Int),((0:Int),((0:Int),(0,0))))).2.2.2.2) (v_rat (v_chq p0 (p1.getD y0.1.toNat ((0:Int),((0:Int),((0:Int),(0,0))))).1))))))∧((v_cel (v_rv (v_rsub (v_rint (p1.getD y0.1.toNat ((0:Int),((0:Int),((0:Int),(0,0))))).2.2.2.2) (v_rat (v_chq p0 (p1.getD y0.1.toNat ((0:Int),((0:Int),((0:Int),(0,0))))).1))))) < 1000000000000000000)))),(((decide (y0.1 < (p1.length:Int)))=true)→(((!(v_iw p0 (p1.getD y0.1.toNat ((0:Int),((0:Int),((0:Int),(0,0))))).1))=false)→(((y0.2.length + (List.length (((v_flr (v_rv (v_rsub (v_rint (p1.getD y0.1.toNat ((0:Int),((0:Int),((0:Int),(0,0))))).2.2.2.2) (v_rat (v_chq p0 (p1.getD y0.1.toNat ((0:Int),((0:Int),((0:Int),(0,0))))).1))))),(v_cel (v_rv (v_rsub (v_rint (p1.getD y0.1.toNat ((0:Int),((0:Int),((0:Int),(0,0))))).2.2.2.2) (v_rat (v_chq p0 (p1.getD y0.1.toNat ((0:Int),((0:Int),((0:Int),(0,0))))).1)))))) :: ([]:List (Int×Int))))) * 16)≤140737488355328)))]
def s_Zb (p0:(Int×(List (Int×Int)))) (p1:(List (Int×(Int×(Int×(Int×Int)))))):((List (Int×Int))×Int) := (lpv ([],(0:Int)) (st_Zb_0 p0 p1) ((0:Int),([]:List (Int×Int))))
abbrev pre_Zb (p0:(Int×(List (Int×Int)))) (p1:(List (Int×(Int×(Int×(Int×Int)))))):List Prop := [(OkL (st_Zb_0 p0 p1) (sp_Zb_0 p0 p1) ((0:Int),([]:List (Int×Int))))]
theorem d_Zb (p0:(Int×(List (Int×Int)))) (p1:(List (Int×(Int×(Int×(Int×Int)))))) (K:((List (Int×Int))×Int)→Prop) (hp:∀ p∈pre_Zb p0 p1,p) (h:K (s_Zb p0 p1)):w_Zb p0 p1 K := by
 unfold w_Zb
 unfold s_Zb at h
 obtain ⟨hp0,_⟩ := conj_of hp
 exact (loop_gen (hp0) h (fun y0 k0 hp h => by
 unfold st_Zb_0 at h; obtain ⟨hp0,hp1,hp2,hp3,hp4,hp5,hp6,hp7,hp8,hp9,hp10,hp11,hp12,hp13,hp14,_⟩ := conj_of hp
 exact (br' h (fun e1 h => ⟨(hp0 e1),(hp1 e1),(hp2 e1),(hp3 e1),(br' h (fun e2 h => h)
  (fun e2 h => ⟨(hp4 e1 e2),(hp5 e1 e2),(hp6 e1 e2),(hp4 e1 e2),(hp5 e1 e2),(hp7 e1 e2),(hp8 e1 e2),(hp9 e1 e2),(hp10 e1 e2),(hp11 e1 e2),(hp12 e1 e2),(hp13 e1 e2),(hp14 e1 e2),h⟩))⟩)
  (fun e1 h => h))))
theorem v_qs {v n d:Rat} (h:d ≠ 0):v - n / d = (v * d - n) / d := by grind
theorem v_crq {b:Int×List (Int×Int)} {x:Int×Int×Int×Int×Int} (hx:v_vin x) (h:v_chb b x.1):v_rv (v_rsub (v_rint x.2.2.2.2) (v_rat (v_chq b x.1)))=(v_crn b x:Rat) / (v_cd b x.1:Rat)∧v_rok (v_rsub (v_rint x.2.2.2.2) (v_rat (v_chq b x.1)))∧True := by
 have d := h.d
 have e:v_rsub (v_rint x.2.2.2.2) (v_rat (v_chq b x.1))=v_rat ((v_crn b x:Rat) / (v_cd b x.1:Rat)) := by
  unfold v_rsub v_rint
  rw [v_rv_rat,v_rv_rat]
  unfold v_chq v_crn
  rw [v_qs (v_rcast_ne (by omega)),Rat.intCast_sub,Rat.intCast_mul]
 obtain ⟨m1,m2⟩ := v_crn_in hx h
 rw [e,v_rv_rat]
 exact ⟨rfl,(v_rb_div (B := 1000000000000000000) (by omega) (by omega) (by omega)).ok (by decide),trivial⟩
theorem l_Zb_0 (p0:Int×List (Int×Int)) (p1:List (Int×Int×Int×Int×Int)) (h:v_bok p0) (hs:v_smp p1):OkL (st_Zb_0 p0 p1) (sp_Zb_0 p0 p1) (0,[])∧lpv ([],0) (st_Zb_0 p0 p1) (0,[])=v_cor p0 p1 [] := by
 have hl := hs.len
 have h2 := h.two
 have h3 := h.len
 refine list_is (fun i (t:gC) => (i,t)) p1 (0,0,0,0,0) (fun r t => (∀ x∈r,v_vin x)∧t.length + r.length≤20) (fun r t => v_cor p0 r t) (by unfold lenOk; omega) ?_ ?_ [] ⟨v_smp_vin hs,by simp only [List.length_nil]; omega⟩
 ·rintro t ⟨_,g⟩
  simp only [sp_Zb_0,st_Zb_0,fM,decide_eq_false (Int.lt_irrefl (p1.length:Int)),cond_false]
  refine ⟨?_,by first | rfl | trivial⟩
  and_intros
  all_goals first
   | (intro h; cases h; done)
   | (intro p hp; cases hp)
 ·rintro j t hj ⟨g1,g2⟩
  have hx := g1 _ List.mem_cons_self
  rw [List.length_cons] at g2
  generalize gx:p1.getD j (0,0,0,0,0)=x at *
  have hw1:IntKind.i64.wrap ((j:Int) + 1)=((j + 1:Nat):Int) := wrap_id (by omega) (by omega)
  have hd:decide ((j:Int) < (p1.length:Int))=true := decide_eq_true (by omega)
  cases c:v_iw p0 x.1
  ·simp only [sp_Zb_0,st_Zb_0,fM,hd,cond_true,Int.toNat_natCast,hw1,gx,c,Bool.not_false]
   refine ⟨⟨fun _ => (by omega),fun _ => (by omega),fun _ => (by omega),fun _ => (by omega),fun _ e => (by cases e),fun _ e => (by cases e),fun _ e => (by cases e),fun _ e => (by cases e),fun _ e => (by cases e),fun _ e => (by cases e),fun _ e => (by cases e),fun _ e => (by cases e),fun _ e => (by cases e),fun _ e => (by cases e),fun _ e => (by cases e),fun p hp => by cases hp⟩,?_⟩
   ·simp only [v_cor,c,cond_false]; exact .inr (by first | rfl | trivial)
  ·have k := v_chb_of h c
   have kd := k.d
   obtain ⟨m1,m2⟩ := v_crn_in hx k
   obtain ⟨q1,q2,q3⟩ := v_crq hx k
   obtain ⟨u1,u2⟩ := v_nat_div (n := v_crn p0 x) (d := v_cd p0 x.1) (by omega)
   have f1:v_flr (v_rv (v_rsub (v_rint x.2.2.2.2) (v_rat (v_chq p0 x.1))))=(v_crk p0 x).1 := by rw [q1,v_flr_div kd.1]; rfl
   have f2:v_cel (v_rv (v_rsub (v_rint x.2.2.2.2) (v_rat (v_chq p0 x.1))))=(v_crk p0 x).2 := by rw [q1,v_cel_div kd.1]; rfl
   simp only [sp_Zb_0,st_Zb_0,fM,hd,cond_true,Int.toNat_natCast,hw1,gx,c,Bool.not_true,cond_false,f1,f2]
   refine ⟨⟨fun _ => (by omega),fun _ => (by omega),fun _ => (by omega),fun _ => (by omega),fun _ _ => (by omega),fun _ _ => (by omega),fun _ _ => (by have := hx.2; unfold v_fit; omega),fun _ _ => h,fun _ _ => (by first | exact c | trivial),fun _ _ => (v_rb_int (A := 100000) (by have := hx.2; omega) (by omega)).ok (by decide),fun _ _ => (v_chq_rb k).ok (by decide),fun _ _ => q2,fun _ _ => u1,fun _ _ => u2,fun _ _ => (by simp only [List.length_cons,List.length_nil]; omega),fun p hp => by cases hp⟩,.inl ⟨t ++ [v_crk p0 x],rfl,⟨fun y hy => g1 y (List.mem_cons_of_mem _ hy),by rw [List.length_append,List.length_singleton]; omega⟩,?_⟩⟩
   simp only [v_cor,c,cond_true]
abbrev t_Zb (p0:Int×List (Int×Int)) (p1:List (Int×Int×Int×Int×Int)):List (Int×Int)×Int := v_cor p0 p1 []
abbrev qre_Zb (p0:Int×List (Int×Int)) (p1:List (Int×Int×Int×Int×Int)):List Prop := [v_bok p0,v_smp p1]
theorem pp_Zb (p0:Int×List (Int×Int)) (p1:List (Int×Int×Int×Int×Int)) (hq:∀ p∈qre_Zb p0 p1,p):∀ p∈pre_Zb p0 p1,p := by
 obtain ⟨h1,h2,_⟩ := conj_of hq
 simp only [pre_Zb,fM]
 exact ⟨(l_Zb_0 p0 p1 h1 h2).1,by simp⟩
theorem tt_Zb (p0:Int×List (Int×Int)) (p1:List (Int×Int×Int×Int×Int)) (hq:∀ p∈qre_Zb p0 p1,p):s_Zb p0 p1 = t_Zb p0 p1 := by
 obtain ⟨h1,h2,_⟩ := conj_of hq
 exact (l_Zb_0 p0 p1 h1 h2).2

abbrev con_Zb:Con := ⟨P_Zb,R_Zb,fun x => qre_Zb x.1 x.2,fun x => t_Zb x.1 x.2⟩
theorem ok_Zb:ConOk Tryz.prog 17 con_Zb := okG k_Zb e_Zb hC_Zb fun x hx => tf_of (w_Zb_eq x.1 x.2 _) (d_Zb x.1 x.2 _ (pp_Zb x.1 x.2 hx) (tt_Zb x.1 x.2 hx))
def C_Zi:Cons := []
theorem hC_Zi:ConsOk Tryz.prog C_Zi := ConsOk.nil
def w_Zi (p0:gC) (p1:gC) (K:Bool→Prop):Prop := (((((p0.length:Int) != (p1.length:Int))=true) →(K false)) ∧((((p0.length:Int) != (p1.length:Int))=false) →(∃ n0,(loopP (fun (y1:Int) k2 => ((((decide (y1 < (p0.length:Int)))=true) →((zz0≤y1) ∧((y1 < (p0.length:Int)) ∧((zz0≤y1) ∧((y1 < (p1.length:Int)) ∧((((!(((p0.getD y1.toNat (zz0,zz0)).1 == (p1.getD y1.toNat (zz0,zz0)).1) && (((p0.getD y1.toNat (zz0,zz0)).2 == (p1.getD y1.toNat (zz0,zz0)).2) && true)))=true) →(K false)) ∧(((!(((p0.getD y1.toNat (zz0,zz0)).1 == (p1.getD y1.toNat (zz0,zz0)).1) && (((p0.getD y1.toNat (zz0,zz0)).2 == (p1.getD y1.toNat (zz0,zz0)).2) && true)))=false) →(k2 (IntKind.i64.wrap (y1 + 1)))))))))) ∧(((decide (y1 < (p0.length:Int)))=false) →(K true)))) n0 zz0))))
theorem w_Zi_eq (p0:gC) (p1:gC) (K:Bool→Prop):tfn F_Zi A_Zi C_Zi P_Zi R_Zi (p0,p1) K = w_Zi p0 p1 K := by kernel_rfl
def st_Zi_0 (p0:gC) (p1:gC) (y1:Int):Int ⊕ Bool := (cond (decide (y1 < (p0.length:Int))) (cond (!(((p0.getD y1.toNat (0,0)).1 == (p1.getD y1.toNat (0,0)).1) && (((p0.getD y1.toNat (0,0)).2 == (p1.getD y1.toNat (0,0)).2) && true))) (Sum.inr false) (Sum.inl (IntKind.i64.wrap (y1 + 1)))) (Sum.inr true))
abbrev sp_Zi_0 (p0:gC) (p1:gC) (y1:Int):List Prop := [(((decide (y1 < (p0.length:Int)))=true)→((0:Int)≤y1)),(((decide (y1 < (p0.length:Int)))=true)→(y1 < (p0.length:Int))),(((decide (y1 < (p0.length:Int)))=true)→(y1 < (p1.length:Int)))]
def s_Zi (p0:gC) (p1:gC):Bool := (cond ((p0.length:Int) != (p1.length:Int)) false (lpv false (st_Zi_0 p0 p1) (0:Int)))
abbrev pre_Zi (p0:gC) (p1:gC):List Prop := [((((p0.length:Int) != (p1.length:Int))=false)→(OkL (st_Zi_0 p0 p1) (sp_Zi_0 p0 p1) (0:Int)))]
theorem d_Zi (p0:gC) (p1:gC) (K:Bool→Prop) (hp:∀ p∈pre_Zi p0 p1,p) (h:K (s_Zi p0 p1)):w_Zi p0 p1 K := by
 unfold w_Zi
 unfold s_Zi at h
 obtain ⟨hp0,_⟩ := conj_of hp
 exact (br' h (fun e0 h => h)
  (fun e0 h => (loop_gen (hp0 e0) h (fun y1 k1 hp h => by
 unfold st_Zi_0 at h; obtain ⟨hp0,hp1,hp2,_⟩ := conj_of hp
 exact (br' h (fun e2 h => ⟨(hp0 e2),(hp1 e2),(hp0 e2),(hp2 e2),(br' h (fun e3 h => h)
  (fun e3 h => h))⟩)
  (fun e2 h => h))))))
theorem l_Zi_0 (p0 p1:gC) (hl:lenOk p0) (he:p0.length = p1.length):OkL (st_Zi_0 p0 p1) (sp_Zi_0 p0 p1) 0∧lpv false (st_Zi_0 p0 p1) 0 = v_scan (fun i x => cond (!(((x.1 == (p1.getD i.toNat (0,0)).1) && ((x.2 == (p1.getD i.toNat (0,0)).2) && true)))) (some false) none) true 0 p0 := by
 refine scan_is p0 (0,0) (fun i x => cond (!(((x.1 == (p1.getD i.toNat (0,0)).1) && ((x.2 == (p1.getD i.toNat (0,0)).2) && true)))) (some false) none) true hl ?_ ?_
 ·refine ⟨by simp only [sp_Zi_0,fM,decide_eq_true_eq]; simp,by simp [st_Zi_0]⟩
 ·intro j hj
  have hj' : (j:Int) < p0.length := by omega
  refine ⟨by simp only [sp_Zi_0,fM,decide_eq_true_eq,Int.toNat_natCast]; simp <;> omega,?_⟩
  simp only [st_Zi_0,hj',decide_true,Int.toNat_natCast,cond_true,wrap_nat (show (j:Int)≤9223372036854775806 by unfold lenOk at hl; omega)]
  generalize p0.getD j (0,0)=x
  generalize p1.getD j (0,0)=z
  cases (x.1 == z.1) <;> cases (x.2 == z.2) <;> rfl
abbrev t_Zi (p0 p1:gC):Bool := decide (p0 = p1)
abbrev qre_Zi (p0 _p1:gC):List Prop := [lenOk p0]
theorem pp_Zi (p0 p1:gC) (hq:∀ p∈qre_Zi p0 p1,p):∀ p∈pre_Zi p0 p1,p := by
 simp only [pre_Zi,fM]
 refine ⟨fun h => (l_Zi_0 p0 p1 (conj_of hq).1 ?_).1,by simp⟩
 have h' : (p0.length:Int)=p1.length := by simpa using h
 omega
theorem tt_Zi (p0 p1:gC) (hq:∀ p∈qre_Zi p0 p1,p):s_Zi p0 p1 = t_Zi p0 p1 := by
 unfold s_Zi t_Zi
 by_cases h:p0.length = p1.length
 ·rw [show ((p0.length:Int) != (p1.length:Int))=false by simp [h]]
  refine (l_Zi_0 p0 p1 (conj_of hq).1 h).2.trans ?_
  exact v_scan_eq (0,0) (fun x y => ((x.1 == y.1) && ((x.2 == y.2) && true))) (fun x y => by by_cases h1:x.1 = y.1 <;> by_cases h2:x.2 = y.2 <;> simp [h1,h2,Prod.ext_iff]) p0 p1 h
 ·rw [show ((p0.length:Int) != (p1.length:Int))=true by simp; omega]
  have:p0 ≠ p1 := fun e => h (congrArg List.length e)
  simp [this]

abbrev con_Zi:Con := ⟨P_Zi,R_Zi,fun x => qre_Zi x.1 x.2,fun x => t_Zi x.1 x.2⟩
theorem ok_Zi:ConOk Tryz.prog 18 con_Zi := okG k_Zi e_Zi hC_Zi fun x hx => tf_of (w_Zi_eq x.1 x.2 _) (d_Zi x.1 x.2 _ (pp_Zi x.1 x.2 hx) (tt_Zi x.1 x.2 hx))
def C_Z1:Cons := [(5,[],con_Z1t),(6,[],con_Z1o),(7,[],con_Z1p),(9,[],con_Z1q),(8,[],con_Z7),(10,[],con_Zu),(12,[],con_Z1r),(11,[],con_Z8),(13,[],con_Zc),(14,[],con_Zv),(15,[],con_Z11),(16,[],con_Z1s),(17,[],con_Zb),(18,[],con_Zi)]
theorem hC_Z1:ConsOk Tryz.prog C_Z1 := cC ok_Z1t <| cC ok_Z1o <| cC ok_Z1p <| cC ok_Z1q <| cC ok_Z7 <| cC ok_Zu <| cC ok_Z1r <| cC ok_Z8 <| cC ok_Zc <| cC ok_Zv <| cC ok_Z11 <| cC ok_Z1s <| cC ok_Zb <| cC ok_Zi <| ConsOk.nil
abbrev q0_Z1 (p0:(Int×(List (Int×Int)))) (p1:Int) := (cond (v_iw p0 p1) (cond ((v_cha (p0.1,(([]:List (Int×Int)) ++ p0.2)) p1).2 != zz0) true (!(((v_cha (p0.1,(([]:List (Int×Int)) ++ p0.2)) p1).1.1 == (v_chr p0 p1).1) && (((v_cha (p0.1,(([]:List (Int×Int)) ++ p0.2)) p1).1.2 == (v_chr p0 p1).2) && true)))) false)
abbrev q9_Z1 (p0:(Int×(List (Int×Int)))) (p1:Int) := ((v_cha (p0.1,(([]:List (Int×Int)) ++ p0.2)) p1).2 == (v_cb p0).2)
abbrev q2_Z1 (p0:(Int×(List (Int×Int)))) (p2:(List (Int×(Int×(Int×(Int×Int)))))) := (v_coo (p0.1,(([]:List (Int×Int)) ++ p0.2)) (([]:List (Int×(Int×(Int×(Int×Int))))) ++ p2))
abbrev q1_Z1 (p0:(Int×(List (Int×Int)))) (p1:Int) (p2:(List (Int×(Int×(Int×(Int×Int)))))) := (cond (q9_Z1 p0 p1) ((q2_Z1 p0 p2).2 == (v_cb p0).2) false)
abbrev q3_Z1 (p0:(Int×(List (Int×Int)))) (p1:Int) (p2:(List (Int×(Int×(Int×(Int×Int)))))) := (cond (q1_Z1 p0 p1 p2) (((v_cha (p0.1,(([]:List (Int×Int)) ++ p0.2)) p1).1.1 == zz0) && (((v_cha (p0.1,(([]:List (Int×Int)) ++ p0.2)) p1).1.2 == zz0) && true)) false)
abbrev q4_Z1 (p0:(Int×(List (Int×Int)))) (p1:Int) := ((!(v_iw p0 p1)) || ((v_cha (p0.1,(([]:List (Int×Int)) ++ p0.2)) p1).2 != zz0))
abbrev q5_Z1 (p0:(Int×(List (Int×Int)))) (p1:Int) := ((!((!(q0_Z1 p0 p1)) && (!(v_iw p0 p1)))) || ((v_cha (p0.1,(([]:List (Int×Int)) ++ p0.2)) p1).2 != zz2))
abbrev q6_Z1 (p0:(Int×(List (Int×Int)))) (p2:(List (Int×(Int×(Int×(Int×Int)))))) := ((q2_Z1 p0 p2).2 == (v_cor p0 p2 ([]:List (Int×Int))).2)
abbrev q7_Z1 (p0:(Int×(List (Int×Int)))) (p1:Int) := (cond (q0_Z1 p0 p1) true (cond (!(v_iw p0 p1)) (cond ((v_cha (p0.1,(([]:List (Int×Int)) ++ p0.2)) p1).2 != zz2) true (!(((v_cha (p0.1,(([]:List (Int×Int)) ++ p0.2)) p1).1.1 == zz0) && (((v_cha (p0.1,(([]:List (Int×Int)) ++ p0.2)) p1).1.2 == zz0) && true)))) false))
abbrev q8_Z1 (p0:(Int×(List (Int×Int)))) := ((v_cb (p0.1,(([]:List (Int×Int)) ++ p0.2))).2 != (v_cb p0).2)
def w_Z1 (p0:(Int×(List (Int×Int)))) (p1:Int) (p2:(List (Int×(Int×(Int×(Int×Int)))))) (K:Bool→Prop):Prop := ((((!(s_Z1t))=true) →(K false)) ∧(((!(s_Z1t))=false) →((((!(decide ((p0.2.length:Int)≤22)))=false) →((!(decide ((p0.2.length:Int)≤22)))=(!(decide ((p0.2.length:Int)≤22))))) ∧((((!(decide ((p0.2.length:Int)≤22)))=false) →((!(decide ((p0.2.length:Int)≤22)))=(!(decide ((p0.2.length:Int)≤22))))) ∧(((!(decide ((p0.2.length:Int)≤22)))=(!(decide ((p0.2.length:Int)≤22)))) ∧((((cond (!(decide ((p0.2.length:Int)≤22))) true (!(decide ((p2.length:Int)≤22))))=true) →(K true)) ∧(((cond (!(decide ((p0.2.length:Int)≤22))) true (!(decide ((p2.length:Int)≤22))))=false) →(((((List.length ([]:List (Int×Int))) + p0.2.length) * 16)≤140737488355328) ∧(((((List.length ([]:List (Int×Int))) + p0.2.length) * 16)≤140737488355328) ∧(((((List.length ([]:List (Int×Int))) + p0.2.length) * 16)≤140737488355328) ∧(((((List.length ([]:List (Int×(Int×(Int×(Int×Int)))))) + p2.length) * 40)≤140737488355328) ∧((((q8_Z1 p0)=false) →((q8_Z1 p0)=(q8_Z1 p0))) ∧((((q8_Z1 p0)=false) →((q8_Z1 p0)=(q8_Z1 p0))) ∧(((q8_Z1 p0)=(q8_Z1 p0)) ∧((((cond (q8_Z1 p0) true ((v_cb (p0.1,(([]:List (Int×Int)) ++ p0.2))).1 != (v_cb p0).1))=true) →(K false)) ∧(((cond (q8_Z1 p0) true ((v_cb (p0.1,(([]:List (Int×Int)) ++ p0.2))).1 != (v_cb p0).1))=false) →(((((v_cb p0).2 != zz0)=true) →((((q9_Z1 p0 p1)=true) →((q9_Z1 p0 p1)=(q9_Z1 p0 p1))) ∧((((q9_Z1 p0 p1)=true) →((q9_Z1 p0 p1)=(q9_Z1 p0 p1))) ∧(((q9_Z1 p0 p1)=(q9_Z1 p0 p1)) ∧((((q1_Z1 p0 p1 p2)=true) →((q1_Z1 p0 p1 p2)=(q1_Z1 p0 p1 p2))) ∧((((q1_Z1 p0 p1 p2)=true) →((q1_Z1 p0 p1 p2)=(q1_Z1 p0 p1 p2))) ∧(((q1_Z1 p0 p1 p2)=(q1_Z1 p0 p1 p2)) ∧((((q3_Z1 p0 p1 p2)=true) →((q3_Z1 p0 p1 p2)=(q3_Z1 p0 p1 p2))) ∧((((q3_Z1 p0 p1 p2)=true) →((q3_Z1 p0 p1 p2)=(q3_Z1 p0 p1 p2))) ∧(((q3_Z1 p0 p1 p2)=(q3_Z1 p0 p1 p2)) ∧(K (cond (q3_Z1 p0 p1 p2) ((((q2_Z1 p0 p2).1.length:Nat):Int) == zz0) false)))))))))))) ∧((((v_cb p0).2 != zz0)=false) →((0 < p0.2.length) ∧((p0.2.length≤1000) ∧((((v_iw p0 p1)=true) →((v_iw p0 p1)=(v_iw p0 p1))) ∧((((v_iw p0 p1)=true) →((v_iw p0 p1)=(v_iw p0 p1))) ∧((((q4_Z1 p0 p1)=false) →((q4_Z1 p0 p1)=(q4_Z1 p0 p1))) ∧((((q4_Z1 p0 p1)=false) →((q4_Z1 p0 p1)=(q4_Z1 p0 p1))) ∧((((q4_Z1 p0 p1)=false) →(v_bok p0)) ∧((((q4_Z1 p0 p1)=false) →((v_iw p0 p1)=true)) ∧((((q4_Z1 p0 p1)=false) →((q4_Z1 p0 p1)=(q4_Z1 p0 p1))) ∧((((q4_Z1 p0 p1)=false) →((q4_Z1 p0 p1)=(q4_Z1 p0 p1))) ∧((((v_iw p0 p1)=true) →((v_iw p0 p1)=(v_iw p0 p1))) ∧((((v_iw p0 p1)=true) →((q4_Z1 p0 p1)=((v_cha (p0.1,(([]:List (Int×Int)) ++ p0.2)) p1).2 != zz0))) ∧(((v_iw p0 p1)=(v_iw p0 p1)) ∧((((q0_Z1 p0 p1)=false) →((q0_Z1 p0 p1)=(q0_Z1 p0 p1))) ∧((((q0_Z1 p0 p1)=false) →((q0_Z1 p0 p1)=(q0_Z1 p0 p1))) ∧((((q0_Z1 p0 p1)=false) →(0 < p0.2.length)) ∧((((q0_Z1 p0 p1)=false) →(p0.2.length≤1000)) ∧((((q0_Z1 p0 p1)=false) →((q0_Z1 p0 p1)=(q0_Z1 p0 p1))) ∧((((q0_Z1 p0 p1)=false) →((q0_Z1 p0 p1)=(q0_Z1 p0 p1))) ∧(((((!(q0_Z1 p0 p1)) && (!(v_iw p0 p1)))=true) →(((!(q0_Z1 p0 p1)) && (!(v_iw p0 p1)))=((!(q0_Z1 p0 p1)) && (!(v_iw p0 p1))))) ∧(((((!(q0_Z1 p0 p1)) && (!(v_iw p0 p1)))=true) →(((!(q0_Z1 p0 p1)) && (!(v_iw p0 p1)))=((!(q0_Z1 p0 p1)) && (!(v_iw p0 p1))))) ∧((((q5_Z1 p0 p1)=false) →((q5_Z1 p0 p1)=(q5_Z1 p0 p1))) ∧((((q5_Z1 p0 p1)=false) →((q5_Z1 p0 p1)=(q5_Z1 p0 p1))) ∧(((((!(q0_Z1 p0 p1)) && (!(v_iw p0 p1)))=true) →(((!(q0_Z1 p0 p1)) && (!(v_iw p0 p1)))=((!(q0_Z1 p0 p1)) && (!(v_iw p0 p1))))) ∧(((((!(q0_Z1 p0 p1)) && (!(v_iw p0 p1)))=true) →((q5_Z1 p0 p1)=((v_cha (p0.1,(([]:List (Int×Int)) ++ p0.2)) p1).2 != zz2))) ∧((((q0_Z1 p0 p1)=false) →((q0_Z1 p0 p1)=(q0_Z1 p0 p1))) ∧((((q0_Z1 p0 p1)=false) →(((!(q0_Z1 p0 p1)) && (!(v_iw p0 p1)))=(!(v_iw p0 p1)))) ∧(((q0_Z1 p0 p1)=(q0_Z1 p0 p1)) ∧((((q7_Z1 p0 p1)=true) →(K false)) ∧(((q7_Z1 p0 p1)=false) →(((((v_cs p2).2 != zz0)=true) →(((((q2_Z1 p0 p2).2 == (v_cs p2).2)=true) →(((q2_Z1 p0 p2).2 == (v_cs p2).2)=((q2_Z1 p0 p2).2 == (v_cs p2).2))) ∧(((((q2_Z1 p0 p2).2 == (v_cs p2).2)=true) →(((q2_Z1 p0 p2).2 == (v_cs p2).2)=((q2_Z1 p0 p2).2 == (v_cs p2).2))) ∧((((q2_Z1 p0 p2).2 == (v_cs p2).2)=((q2_Z1 p0 p2).2 == (v_cs p2).2)) ∧(K (cond ((q2_Z1 p0 p2).2 == (v_cs p2).2) ((((q2_Z1 p0 p2).1.length:Nat):Int) == zz0) false)))))) ∧((((v_cs p2).2 != zz0)=false) →((v_bok p0) ∧((v_smp p2) ∧((((q6_Z1 p0 p2)=true) →((q6_Z1 p0 p2)=(q6_Z1 p0 p2))) ∧((((q6_Z1 p0 p2)=true) →((q6_Z1 p0 p2)=(q6_Z1 p0 p2))) ∧((((q6_Z1 p0 p2)=true) →(lenOk (q2_Z1 p0 p2).1)) ∧(((q6_Z1 p0 p2)=(q6_Z1 p0 p2)) ∧(K (cond (q6_Z1 p0 p2) (decide ((q2_Z1 p0 p2).1 = (v_cor p0 p2 ([]:List (Int×Int))).1)) false))))))))))))))))))))))))))))))))))))))))))))))))))))))))))
theorem w_Z1_eq (p0:(Int×(List (Int×Int)))) (p1:Int) (p2:(List (Int×(Int×(Int×(Int×Int)))))) (K:Bool→Prop):tfn F_Z1 A_Z1 C_Z1 P_Z1 R_Z1 (p0,p1,p2) K = w_Z1 p0 p1 p2 K := by kernel_rfl
def s_Z1 (p0:(Int×(List (Int×Int)))) (p1:Int) (p2:(List (Int×(Int×(Int×(Int×Int)))))):Bool := (cond (cond (!(decide ((p0.2.length:Int)≤22))) true (!(decide ((p2.length:Int)≤22)))) true (cond (cond ((v_cb (p0.1,(([]:List (Int×Int)) ++ p0.2))).2 != (v_cb p0).2) true ((v_cb (p0.1,(([]:List (Int×Int)) ++ p0.2))).1 != (v_cb p0).1)) false (cond ((v_cb p0).2 != 0) (cond (cond (cond ((v_cha (p0.1,(([]:List (Int×Int)) ++ p0.2)) p1).2 == (v_cb p0).2) ((v_coo (p0.1,(([]:List (Int×Int)) ++ p0.2)) (([]:List (Int×(Int×(Int×(Int×Int))))) ++ p2)).2 == (v_cb p0).2) false) (((v_cha (p0.1,(([]:List (Int×Int)) ++ p0.2)) p1).1.1 == 0) && (((v_cha (p0.1,(([]:List (Int×Int)) ++ p0.2)) p1).1.2 == 0) && true)) false) ((((List.length (v_coo (p0.1,(([]:List (Int×Int)) ++ p0.2)) (([]:List (Int×(Int×(Int×(Int×Int))))) ++ p2)).1):Nat):Int) == 0) false) (cond (cond (cond (v_iw p0 p1) (cond ((v_cha (p0.1,(([]:List (Int×Int)) ++ p0.2)) p1).2 != 0) true (!(((v_cha (p0.1,(([]:List (Int×Int)) ++ p0.2)) p1).1.1 == (v_chr p0 p1).1) && (((v_cha (p0.1,(([]:List (Int×Int)) ++ p0.2)) p1).1.2 == (v_chr p0 p1).2) && true)))) false) true (cond (!(v_iw p0 p1)) (cond ((v_cha (p0.1,(([]:List (Int×Int)) ++ p0.2)) p1).2 != 2) true (!(((v_cha (p0.1,(([]:List (Int×Int)) ++ p0.2)) p1).1.1 == 0) && (((v_cha (p0.1,(([]:List (Int×Int)) ++ p0.2)) p1).1.2 == 0) && true)))) false)) false (cond ((v_cs p2).2 != 0) (cond ((v_coo (p0.1,(([]:List (Int×Int)) ++ p0.2)) (([]:List (Int×(Int×(Int×(Int×Int))))) ++ p2)).2 == (v_cs p2).2) ((((List.length (v_coo (p0.1,(([]:List (Int×Int)) ++ p0.2)) (([]:List (Int×(Int×(Int×(Int×Int))))) ++ p2)).1):Nat):Int) == 0) false) (cond ((v_coo (p0.1,(([]:List (Int×Int)) ++ p0.2)) (([]:List (Int×(Int×(Int×(Int×Int))))) ++ p2)).2 == (v_cor p0 p2 ([]:List (Int×Int))).2) (decide ((v_coo (p0.1,(([]:List (Int×Int)) ++ p0.2)) (([]:List (Int×(Int×(Int×(Int×Int))))) ++ p2)).1 = (v_cor p0 p2 ([]:List (Int×Int))).1)) false))))))
abbrev pre_Z1 (p0:(Int×(List (Int×Int)))) (p1:Int) (p2:(List (Int×(Int×(Int×(Int×Int)))))):List Prop := [(((cond (!(decide ((p0.2.length:Int)≤22))) true (!(decide ((p2.length:Int)≤22))))=false)→((((List.length ([]:List (Int×Int))) + p0.2.length) * 16)≤140737488355328)),(((cond (!(decide ((p0.2.length:Int)≤22))) true (!(decide ((p2.length:Int)≤22))))=false)→((((List.length ([]:List (Int×(Int×(Int×(Int×Int)))))) + p2.length) * 40)≤140737488355328)),(((cond (!(decide ((p0.2.length:Int)≤22))) true (!(decide ((p2.length:Int)≤22))))=false)→(((cond ((v_cb (p0.1,(([]:List (Int×Int)) ++ p0.2))).2 != (v_cb p0).2) true ((v_cb (p0.1,(([]:List (Int×Int)) ++ p0.2))).1 != (v_cb p0).1))=false)→((((v_cb p0).2 != 0)=false)→(0 < p0.2.length)))),(((cond (!(decide ((p0.2.length:Int)≤22))) true (!(decide ((p2.length:Int)≤22))))=false)→(((cond ((v_cb (p0.1,(([]:List (Int×Int)) ++ p0.2))).2 != (v_cb p0).2) true ((v_cb (p0.1,(([]:List (Int×Int)) ++ p0.2))).1 != (v_cb p0).1))=false)→((((v_cb p0).2 != 0)=false)→(p0.2.length≤1000)))),(((cond (!(decide ((p0.2.length:Int)≤22))) true (!(decide ((p2.length:Int)≤22))))=false)→(((cond ((v_cb (p0.1,(([]:List (Int×Int)) ++ p0.2))).2 != (v_cb p0).2) true ((v_cb (p0.1,(([]:List (Int×Int)) ++ p0.2))).1 != (v_cb p0).1))=false)→((((v_cb p0).2 != 0)=false)→((((!(v_iw p0 p1)) || ((v_cha (p0.1,(([]:List (Int×Int)) ++ p0.2)) p1).2 != 0))=false)→(v_bok p0))))),(((cond (!(decide ((p0.2.length:Int)≤22))) true (!(decide ((p2.length:Int)≤22))))=false)→(((cond ((v_cb (p0.1,(([]:List (Int×Int)) ++ p0.2))).2 != (v_cb p0).2) true ((v_cb (p0.1,(([]:List (Int×Int)) ++ p0.2))).1 != (v_cb p0).1))=false)→((((v_cb p0).2 != 0)=false)→((((!(v_iw p0 p1)) || ((v_cha (p0.1,(([]:List (Int×Int)) ++ p0.2)) p1).2 != 0))=false)→((v_iw p0 p1)=true))))),(((cond (!(decide ((p0.2.length:Int)≤22))) true (!(decide ((p2.length:Int)≤22))))=false)→(((cond ((v_cb (p0.1,(([]:List (Int×Int)) ++ p0.2))).2 != (v_cb p0).2) true ((v_cb (p0.1,(([]:List (Int×Int)) ++ p0.2))).1 != (v_cb p0).1))=false)→((((v_cb p0).2 != 0)=false)→(((v_iw p0 p1)=true)→(((!(v_iw p0 p1)) || ((v_cha (p0.1,(([]:List (Int×Int)) ++ p0.2)) p1).2 != 0))=((v_cha (p0.1,(([]:List (Int×Int)) ++ p0.2)) p1).2 != 0)))))),(((cond (!(decide ((p0.2.length:Int)≤22))) true (!(decide ((p2.length:Int)≤22))))=false)→(((cond ((v_cb (p0.1,(([]:List (Int×Int)) ++ p0.2))).2 != (v_cb p0).2) true ((v_cb (p0.1,(([]:List (Int×Int)) ++ p0.2))).1 != (v_cb p0).1))=false)→((((v_cb p0).2 != 0)=false)→(((cond (v_iw p0 p1) (cond ((v_cha (p0.1,(([]:List (Int×Int)) ++ p0.2)) p1).2 != 0) true (!(((v_cha (p0.1,(([]:List (Int×Int)) ++ p0.2)) p1).1.1 == (v_chr p0 p1).1) && (((v_cha (p0.1,(([]:List (Int×Int)) ++ p0.2)) p1).1.2 == (v_chr p0 p1).2) && true)))) false)=false)→(0 < p0.2.length))))),(((cond (!(decide ((p0.2.length:Int)≤22))) true (!(decide ((p2.length:Int)≤22))))=false)→(((cond ((v_cb (p0.1,(([]:List (Int×Int)) ++ p0.2))).2 != (v_cb p0).2) true ((v_cb (p0.1,(([]:List (Int×Int)) ++ p0.2))).1 != (v_cb p0).1))=false)→((((v_cb p0).2 != 0)=false)→(((cond (v_iw p0 p1) (cond ((v_cha (p0.1,(([]:List (Int×Int)) ++ p0.2)) p1).2 != 0) true (!(((v_cha (p0.1,(([]:List (Int×Int)) ++ p0.2)) p1).1.1 == (v_chr p0 p1).1) && (((v_cha (p0.1,(([]:List (Int×Int)) ++ p0.2)) p1).1.2 == (v_chr p0 p1).2) && true)))) false)=false)→(p0.2.length≤1000))))),(((cond (!(decide ((p0.2.length:Int)≤22))) true (!(decide ((p2.length:Int)≤22))))=false)→(((cond ((v_cb (p0.1,(([]:List (Int×Int)) ++ p0.2))).2 != (v_cb p0).2) true ((v_cb (p0.1,(([]:List (Int×Int)) ++ p0.2))).1 != (v_cb p0).1))=false)→((((v_cb p0).2 != 0)=false)→((((!(cond (v_iw p0 p1) (cond ((v_cha (p0.1,(([]:List (Int×Int)) ++ p0.2)) p1).2 != 0) true (!(((v_cha (p0.1,(([]:List (Int×Int)) ++ p0.2)) p1).1.1 == (v_chr p0 p1).1) && (((v_cha (p0.1,(([]:List (Int×Int)) ++ p0.2)) p1).1.2 == (v_chr p0 p1).2) && true)))) false)) && (!(v_iw p0 p1)))=true)→(((!((!(cond (v_iw p0 p1) (cond ((v_cha (p0.1,(([]:List (Int×Int)) ++ p0.2)) p1).2 != 0) true (!(((v_cha (p0.1,(([]:List (Int×Int)) ++ p0.2)) p1).1.1 == (v_chr p0 p1).1) && (((v_cha (p0.1,(([]:List (Int×Int)) ++ p0.2)) p1).1.2 == (v_chr p0 p1).2) && true)))) false)) && (!(v_iw p0 p1)))) || ((v_cha (p0.1,(([]:List (Int×Int)) ++ p0.2)) p1).2 != 2))=((v_cha (p0.1,(([]:List (Int×Int)) ++ p0.2)) p1).2 != 2)))))),(((cond (!(decide ((p0.2.length:Int)≤22))) true (!(decide ((p2.length:Int)≤22))))=false)→(((cond ((v_cb (p0.1,(([]:List (Int×Int)) ++ p0.2))).2 != (v_cb p0).2) true ((v_cb (p0.1,(([]:List (Int×Int)) ++ p0.2))).1 != (v_cb p0).1))=false)→((((v_cb p0).2 != 0)=false)→(((cond (v_iw p0 p1) (cond ((v_cha (p0.1,(([]:List (Int×Int)) ++ p0.2)) p1).2 != 0) true (!(((v_cha (p0.1,(([]:List (Int×Int)) ++ p0.2)) p1).1.1 == (v_chr p0 p1).1) && (((v_cha (p0.1,(([]:List (Int×Int)) ++ p0.2)) p1).1.2 == (v_chr p0 p1).2) && true)))) false)=false)→(((!(cond (v_iw p0 p1) (cond ((v_cha (p0.1,(([]:List (Int×Int)) ++ p0.2)) p1).2 != 0) true (!(((v_cha (p0.1,(([]:List (Int×Int)) ++ p0.2)) p1).1.1 == (v_chr p0 p1).1) && (((v_cha (p0.1,(([]:List (Int×Int)) ++ p0.2)) p1).1.2 == (v_chr p0 p1).2) && true)))) false)) && (!(v_iw p0 p1)))=(!(v_iw p0 p1))))))),(((cond (!(decide ((p0.2.length:Int)≤22))) true (!(decide ((p2.length:Int)≤22))))=false)→(((cond ((v_cb (p0.1,(([]:List (Int×Int)) ++ p0.2))).2 != (v_cb p0).2) true ((v_cb (p0.1,(([]:List (Int×Int)) ++ p0.2))).1 != (v_cb p0).1))=false)→((((v_cb p0).2 != 0)=false)→(((cond (cond (v_iw p0 p1) (cond ((v_cha (p0.1,(([]:List (Int×Int)) ++ p0.2)) p1).2 != 0) true (!(((v_cha (p0.1,(([]:List (Int×Int)) ++ p0.2)) p1).1.1 == (v_chr p0 p1).1) && (((v_cha (p0.1,(([]:List (Int×Int)) ++ p0.2)) p1).1.2 == (v_chr p0 p1).2) && true)))) false) true (cond (!(v_iw p0 p1)) (cond ((v_cha (p0.1,(([]:List (Int×Int)) ++ p0.2)) p1).2 != 2) true (!(((v_cha (p0.1,(([]:List (Int×Int)) ++ p0.2)) p1).1.1 == 0) && (((v_cha (p0.1,(([]:List (Int×Int)) ++ p0.2)) p1).1.2 == 0) && true)))) false))=false)→((((v_cs p2).2 != 0)=false)→(v_bok p0)))))),(((cond (!(decide ((p0.2.length:Int)≤22))) true (!(decide ((p2.length:Int)≤22))))=false)→(((cond ((v_cb (p0.1,(([]:List (Int×Int)) ++ p0.2))).2 != (v_cb p0).2) true ((v_cb (p0.1,(([]:List (Int×Int)) ++ p0.2))).1 != (v_cb p0).1))=false)→((((v_cb p0).2 != 0)=false)→(((cond (cond (v_iw p0 p1) (cond ((v_cha (p0.1,(([]:List (Int×Int)) ++ p0.2)) p1).2 != 0) true (!(((v_cha (p0.1,(([]:List (Int×Int)) ++ p0.2)) p1).1.1 == (v_chr p0 p1).1) && (((v_cha (p0.1,(([]:List (Int×Int)) ++ p0.2)) p1).1.2 == (v_chr p0 p1).2) && true)))) false) true (cond (!(v_iw p0 p1)) (cond ((v_cha (p0.1,(([]:List (Int×Int)) ++ p0.2)) p1).2 != 2) true (!(((v_cha (p0.1,(([]:List (Int×Int)) ++ p0.2)) p1).1.1 == 0) && (((v_cha (p0.1,(([]:List (Int×Int)) ++ p0.2)) p1).1.2 == 0) && true)))) false))=false)→((((v_cs p2).2 != 0)=false)→(v_smp p2)))))),(((cond (!(decide ((p0.2.length:Int)≤22))) true (!(decide ((p2.length:Int)≤22))))=false)→(((cond ((v_cb (p0.1,(([]:List (Int×Int)) ++ p0.2))).2 != (v_cb p0).2) true ((v_cb (p0.1,(([]:List (Int×Int)) ++ p0.2))).1 != (v_cb p0).1))=false)→((((v_cb p0).2 != 0)=false)→(((cond (cond (v_iw p0 p1) (cond ((v_cha (p0.1,(([]:List (Int×Int)) ++ p0.2)) p1).2 != 0) true (!(((v_cha (p0.1,(([]:List (Int×Int)) ++ p0.2)) p1).1.1 == (v_chr p0 p1).1) && (((v_cha (p0.1,(([]:List (Int×Int)) ++ p0.2)) p1).1.2 == (v_chr p0 p1).2) && true)))) false) true (cond (!(v_iw p0 p1)) (cond ((v_cha (p0.1,(([]:List (Int×Int)) ++ p0.2)) p1).2 != 2) true (!(((v_cha (p0.1,(([]:List (Int×Int)) ++ p0.2)) p1).1.1 == 0) && (((v_cha (p0.1,(([]:List (Int×Int)) ++ p0.2)) p1).1.2 == 0) && true)))) false))=false)→((((v_cs p2).2 != 0)=false)→((((v_coo (p0.1,(([]:List (Int×Int)) ++ p0.2)) (([]:List (Int×(Int×(Int×(Int×Int))))) ++ p2)).2 == (v_cor p0 p2 ([]:List (Int×Int))).2)=true)→(lenOk (v_coo (p0.1,(([]:List (Int×Int)) ++ p0.2)) (([]:List (Int×(Int×(Int×(Int×Int))))) ++ p2)).1)))))))]
theorem d_Z1 (p0:(Int×(List (Int×Int)))) (p1:Int) (p2:(List (Int×(Int×(Int×(Int×Int)))))) (K:Bool→Prop) (hp:∀ p∈pre_Z1 p0 p1 p2,p) (h:K (s_Z1 p0 p1 p2)):w_Z1 p0 p1 p2 K := by
 unfold w_Z1
 unfold s_Z1 at h
 obtain ⟨hp0,hp1,hp2,hp3,hp4,hp5,hp6,hp7,hp8,hp9,hp10,hp11,hp12,hp13,_⟩ := conj_of hp
 exact ⟨nof,fun _ => ⟨rf,rf,rfl,(br' h (fun e0 h => h)
  (fun e0 h => ⟨(hp0 e0),(hp0 e0),(hp0 e0),(hp1 e0),rf,rf,rfl,(br' h (fun e1 h => h)
  (fun e1 h => (br' h (fun e2 h => ⟨rf,rf,rfl,rf,rf,rfl,rf,rf,rfl,h⟩)
  (fun e2 h => ⟨(hp2 e0 e1 e2),(hp3 e0 e1 e2),rf,rf,rf,rf,(hp4 e0 e1 e2),(hp5 e0 e1 e2),rf,rf,rf,(hp6 e0 e1 e2),rfl,rf,rf,(hp7 e0 e1 e2),(hp8 e0 e1 e2),rf,rf,rf,rf,rf,rf,rf,(hp9 e0 e1 e2),rf,(hp10 e0 e1 e2),rfl,(br' h (fun e3 h => h)
  (fun e3 h => (br' h (fun e4 h => ⟨rf,rf,rfl,h⟩)
  (fun e4 h => ⟨(hp11 e0 e1 e2 e3 e4),(hp12 e0 e1 e2 e3 e4),rf,rf,(hp13 e0 e1 e2 e3 e4),rfl,h⟩))))⟩))))⟩))⟩⟩
abbrev con_Z1:Con := ⟨P_Z1,R_Z1,fun x => pre_Z1 x.1 x.2.1 x.2.2,fun x => s_Z1 x.1 x.2.1 x.2.2⟩
theorem ok_Z1:ConOk Tryz.prog 3 con_Z1 := okG k_Z1 e_Z1 hC_Z1 fun x hx => tf_of (w_Z1_eq x.1 x.2.1 x.2.2 _) (d_Z1 x.1 x.2.1 x.2.2 _ hx rfl)
end Go.Proofs.YtdkhhafmidokmaaGreat
