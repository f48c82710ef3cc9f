/- What the functions that GroundData reaches compute: contracts, each function once. No condition. -/
import Derived.Test.YtehblgccaiiikaaWalkGroundDataA
import Derived.KernelRfl
namespace Go.Proofs.Ytehblgccaiiikaa
open Go Go.Mx
set_option maxRecDepth 100000
/- base_WideAdd -/
def C_base_WideAdd:Cons := [(149,[],con_base_addDigits),(146,[],con_base_wideOf),(150,[],con_base_cmpDigits),(151,[],con_base_subDigits)]
theorem hC_base_WideAdd:ConsOk Try.prog C_base_WideAdd := ConsOk.cons ok_base_addDigits <| ConsOk.cons ok_base_wideOf <| ConsOk.cons ok_base_cmpDigits <| ConsOk.cons ok_base_subDigits <| ConsOk.nil
def w_base_WideAdd (p0:(Int×(List Int))) (p1:(Int×(List Int))) (K:(Int×(List Int))→Prop):Prop :=
  ((((p0.1 == 0)=true) →
 (K p1)) ∧
 (((p0.1 == 0)=false) →
 ((((p1.1 == 0)=true) →
  (K p0)) ∧
  (((p1.1 == 0)=false) →
  ((((p0.1 == p1.1)=true) →
   ((OkL (st_base_addDigits_0 p0.2 p1.2) (sp_base_addDigits_0 p0.2 p1.2) ((0:Int),(([]:List Int),(0:Int)))) ∧
    ((v_sgn p0.1 (s_base_addDigits p0.2 p1.2)) ∧
    ((v_dgok (s_base_addDigits p0.2 p1.2)) ∧
    (((List.length (s_base_addDigits p0.2 p1.2))≤10000000000000) ∧
    (K (v_wide (p0.1 * (v_val (s_base_addDigits p0.2 p1.2)))))))))) ∧
   (((p0.1 == p1.1)=false) →
   ((v_can p0.2) ∧
    ((v_can p1.2) ∧
    (((((v_cmp (v_val p0.2) (v_val p1.2)) == 0)=true) →
    (K ((0:Int),([]:List Int)))) ∧
    ((((v_cmp (v_val p0.2) (v_val p1.2)) == 0)=false) →
    ((((decide ((v_cmp (v_val p0.2) (v_val p1.2)) > 0))=true) →
     ((v_dgok p0.2) ∧
      ((v_dgok p1.2) ∧
      ((p0.2.length≤5000000000000) ∧
      (((v_val p1.2)≤(v_val p0.2)) ∧
      ((v_sgn p0.1 (v_digs (Int.toNat ((v_val p0.2) - (v_val p1.2))))) ∧
      ((v_dgok (v_digs (Int.toNat ((v_val p0.2) - (v_val p1.2))))) ∧
      (((List.length (v_digs (Int.toNat ((v_val p0.2) - (v_val p1.2)))))≤10000000000000) ∧
      (K (v_wide (p0.1 * (v_val (v_digs (Int.toNat ((v_val p0.2) - (v_val p1.2)))))))))))))))) ∧
     (((decide ((v_cmp (v_val p0.2) (v_val p1.2)) > 0))=false) →
     ((v_dgok p1.2) ∧
      ((v_dgok p0.2) ∧
      ((p1.2.length≤5000000000000) ∧
      (((v_val p0.2)≤(v_val p1.2)) ∧
      ((v_sgn p1.1 (v_digs (Int.toNat ((v_val p1.2) - (v_val p0.2))))) ∧
      ((v_dgok (v_digs (Int.toNat ((v_val p1.2) - (v_val p0.2))))) ∧
      (((List.length (v_digs (Int.toNat ((v_val p1.2) - (v_val p0.2)))))≤10000000000000) ∧
      (K (v_wide (p1.1 * (v_val (v_digs (Int.toNat ((v_val p1.2) - (v_val p0.2)))))))))))))))))))))))))))
set_option maxHeartbeats 4000000 in
theorem w_base_WideAdd_eq (p0:(Int×(List Int))) (p1:(Int×(List Int))) (K:(Int×(List Int))→Prop):tfn F_base_WideAdd A_base_WideAdd C_base_WideAdd P_base_WideAdd R_base_WideAdd (p0,p1) K = w_base_WideAdd p0 p1 K := by kernel_rfl
def s_base_WideAdd (p0:(Int×(List Int))) (p1:(Int×(List Int))):(Int×(List Int)) :=
 (cond (p0.1 == 0) p1
  (cond (p1.1 == 0) p0
  (cond (p0.1 == p1.1) (v_wide (p0.1 * (v_val (s_base_addDigits p0.2 p1.2))))
  (cond ((v_cmp (v_val p0.2) (v_val p1.2)) == 0) ((0:Int),([]:List Int))
  (cond (decide ((v_cmp (v_val p0.2) (v_val p1.2)) > 0)) (v_wide (p0.1 * (v_val (v_digs (Int.toNat ((v_val p0.2) - (v_val p1.2)))))))
  (v_wide (p1.1 * (v_val (v_digs (Int.toNat ((v_val p1.2) - (v_val p0.2))))))))))))
abbrev pre_base_WideAdd (p0:(Int×(List Int))) (p1:(Int×(List Int))):List Prop := [(((p0.1 == 0)=false)→(((p1.1 == 0)=false)→(((p0.1 == p1.1)=true)→(OkL (st_base_addDigits_0 p0.2 p1.2) (sp_base_addDigits_0 p0.2 p1.2) ((0:Int),(([]:List Int),(0:Int))))))),
  (((p0.1 == 0)=false)→(((p1.1 == 0)=false)→(((p0.1 == p1.1)=true)→(v_sgn p0.1 (s_base_addDigits p0.2 p1.2))))),
  (((p0.1 == 0)=false)→(((p1.1 == 0)=false)→(((p0.1 == p1.1)=true)→(v_dgok (s_base_addDigits p0.2 p1.2))))),
  (((p0.1 == 0)=false)→(((p1.1 == 0)=false)→(((p0.1 == p1.1)=true)→((List.length (s_base_addDigits p0.2 p1.2))≤10000000000000)))),
  (((p0.1 == 0)=false)→(((p1.1 == 0)=false)→(((p0.1 == p1.1)=false)→(v_can p0.2)))),
  (((p0.1 == 0)=false)→(((p1.1 == 0)=false)→(((p0.1 == p1.1)=false)→(v_can p1.2)))),
  (((p0.1 == 0)=false)→(((p1.1 == 0)=false)→(((p0.1 == p1.1)=false)→((((v_cmp (v_val p0.2) (v_val p1.2)) == 0)=false)→(((decide ((v_cmp (v_val p0.2) (v_val p1.2)) > 0))=true)→(v_dgok p0.2)))))),
  (((p0.1 == 0)=false)→(((p1.1 == 0)=false)→(((p0.1 == p1.1)=false)→((((v_cmp (v_val p0.2) (v_val p1.2)) == 0)=false)→(((decide ((v_cmp (v_val p0.2) (v_val p1.2)) > 0))=true)→(v_dgok p1.2)))))),
  (((p0.1 == 0)=false)→(((p1.1 == 0)=false)→(((p0.1 == p1.1)=false)→((((v_cmp (v_val p0.2) (v_val p1.2)) == 0)=false)→(((decide ((v_cmp (v_val p0.2) (v_val p1.2)) > 0))=true)→(p0.2.length≤5000000000000)))))),
  (((p0.1 == 0)=false)→(((p1.1 == 0)=false)→(((p0.1 == p1.1)=false)→((((v_cmp (v_val p0.2) (v_val p1.2)) == 0)=false)→(((decide ((v_cmp (v_val p0.2) (v_val p1.2)) > 0))=true)→((v_val p1.2)≤(v_val p0.2))))))),
  (((p0.1 == 0)=false)→(((p1.1 == 0)=false)→(((p0.1 == p1.1)=false)→((((v_cmp (v_val p0.2) (v_val p1.2)) == 0)=false)→(((decide ((v_cmp (v_val p0.2) (v_val p1.2)) > 0))=true)→(v_sgn p0.1 (v_digs (Int.toNat ((v_val p0.2) - (v_val p1.2)))))))))),
  (((p0.1 == 0)=false)→(((p1.1 == 0)=false)→(((p0.1 == p1.1)=false)→((((v_cmp (v_val p0.2) (v_val p1.2)) == 0)=false)→(((decide ((v_cmp (v_val p0.2) (v_val p1.2)) > 0))=true)→(v_dgok (v_digs (Int.toNat ((v_val p0.2) - (v_val p1.2)))))))))),
  (((p0.1 == 0)=false)→(((p1.1 == 0)=false)→(((p0.1 == p1.1)=false)→((((v_cmp (v_val p0.2) (v_val p1.2)) == 0)=false)→(((decide ((v_cmp (v_val p0.2) (v_val p1.2)) > 0))=true)→((List.length (v_digs (Int.toNat ((v_val p0.2) - (v_val p1.2)))))≤10000000000000)))))),
  (((p0.1 == 0)=false)→(((p1.1 == 0)=false)→(((p0.1 == p1.1)=false)→((((v_cmp (v_val p0.2) (v_val p1.2)) == 0)=false)→(((decide ((v_cmp (v_val p0.2) (v_val p1.2)) > 0))=false)→(v_dgok p1.2)))))),
  (((p0.1 == 0)=false)→(((p1.1 == 0)=false)→(((p0.1 == p1.1)=false)→((((v_cmp (v_val p0.2) (v_val p1.2)) == 0)=false)→(((decide ((v_cmp (v_val p0.2) (v_val p1.2)) > 0))=false)→(v_dgok p0.2)))))),
  (((p0.1 == 0)=false)→(((p1.1 == 0)=false)→(((p0.1 == p1.1)=false)→((((v_cmp (v_val p0.2) (v_val p1.2)) == 0)=false)→(((decide ((v_cmp (v_val p0.2) (v_val p1.2)) > 0))=false)→(p1.2.length≤5000000000000)))))),
  (((p0.1 == 0)=false)→(((p1.1 == 0)=false)→(((p0.1 == p1.1)=false)→((((v_cmp (v_val p0.2) (v_val p1.2)) == 0)=false)→(((decide ((v_cmp (v_val p0.2) (v_val p1.2)) > 0))=false)→((v_val p0.2)≤(v_val p1.2))))))),
  (((p0.1 == 0)=false)→(((p1.1 == 0)=false)→(((p0.1 == p1.1)=false)→((((v_cmp (v_val p0.2) (v_val p1.2)) == 0)=false)→(((decide ((v_cmp (v_val p0.2) (v_val p1.2)) > 0))=false)→(v_sgn p1.1 (v_digs (Int.toNat ((v_val p1.2) - (v_val p0.2)))))))))),
  (((p0.1 == 0)=false)→(((p1.1 == 0)=false)→(((p0.1 == p1.1)=false)→((((v_cmp (v_val p0.2) (v_val p1.2)) == 0)=false)→(((decide ((v_cmp (v_val p0.2) (v_val p1.2)) > 0))=false)→(v_dgok (v_digs (Int.toNat ((v_val p1.2) - (v_val p0.2)))))))))),
  (((p0.1 == 0)=false)→(((p1.1 == 0)=false)→(((p0.1 == p1.1)=false)→((((v_cmp (v_val p0.2) (v_val p1.2)) == 0)=false)→(((decide ((v_cmp (v_val p0.2) (v_val p1.2)) > 0))=false)→((List.length (v_digs (Int.toNat ((v_val p1.2) - (v_val p0.2)))))≤10000000000000))))))]
set_option maxHeartbeats 4000000 in
theorem d_base_WideAdd (p0:(Int×(List Int))) (p1:(Int×(List Int))) (K:(Int×(List Int))→Prop) (hp:∀ p∈pre_base_WideAdd p0 p1,p) (h:K (s_base_WideAdd p0 p1)):w_base_WideAdd p0 p1 K := by
 unfold w_base_WideAdd
 unfold s_base_WideAdd at h
 obtain ⟨hp0,hp1,hp2,hp3,hp4,hp5,hp6,hp7,hp8,hp9,hp10,hp11,hp12,hp13,hp14,hp15,hp16,hp17,hp18,hp19,_⟩ := conj_of hp
 exact (br' h (fun e0 h => h)
  (fun e0 h => (br' h (fun e1 h => h)
  (fun e1 h => (br' h (fun e2 h => ⟨(hp0 e0 e1 e2),(hp1 e0 e1 e2),(hp2 e0 e1 e2),(hp3 e0 e1 e2),h⟩)
  (fun e2 h => ⟨(hp4 e0 e1 e2),(hp5 e0 e1 e2),(br' h (fun e3 h => h)
  (fun e3 h => (br' h (fun e4 h => ⟨(hp6 e0 e1 e2 e3 e4),(hp7 e0 e1 e2 e3 e4),(hp8 e0 e1 e2 e3 e4),(hp9 e0 e1 e2 e3 e4),(hp10 e0 e1 e2 e3 e4),(hp11 e0 e1 e2 e3 e4),(hp12 e0 e1 e2 e3 e4),h⟩)
  (fun e4 h => ⟨(hp13 e0 e1 e2 e3 e4),(hp14 e0 e1 e2 e3 e4),(hp15 e0 e1 e2 e3 e4),(hp16 e0 e1 e2 e3 e4),(hp17 e0 e1 e2 e3 e4),(hp18 e0 e1 e2 e3 e4),(hp19 e0 e1 e2 e3 e4),h⟩))))⟩))))))
abbrev t_base_WideAdd (p0:Int×List Int) (p1:Int×List Int):Int×List Int := v_wide (v_wval p0 + v_wval p1)
abbrev qre_base_WideAdd (p0:Int×List Int) (p1:Int×List Int):List Prop := [v_wok p0,v_wok p1]
theorem pp_base_WideAdd (p0:Int×List Int) (p1:Int×List Int) (hq:∀ p∈qre_base_WideAdd p0 p1,p):∀ p∈pre_base_WideAdd p0 p1,p := by
 obtain ⟨h1,h2,_⟩ := conj_of hq
 obtain ⟨m,rfl,hm⟩ := h1.ex
 obtain ⟨n,rfl,hn⟩ := h2.ex
 simp only [pre_base_WideAdd,List.forall_mem_cons,v_wide_1,v_wide_val]
 obtain ⟨a1,a2,a3,a4⟩ := l_base_addDigits _ _ (v_wide_ok m) (v_wide_ok n) hm hn
 have c1 := v_wide_can hm
 have c2 := v_wide_can hn
 have k1 := v_wide_ok m
 have k2 := v_wide_ok n
 have dl1:(v_digs ((m.natAbs:Int) - n.natAbs).toNat).length≤10000000000000 := Nat.le_trans (v_digs_mono (n := m.natAbs) (by omega)) (Nat.le_trans hm (by decide))
 have dl2:(v_digs ((n.natAbs:Int) - m.natAbs).toNat).length≤10000000000000 := Nat.le_trans (v_digs_mono (n := n.natAbs) (by omega)) (Nat.le_trans hn (by decide))
 have sg:∀ (x:Int) (l:List Int),(x.sign == 0)=false→v_sgn x.sign l := fun x l h => by
  rcases v_sign3 x with ⟨_,e,f⟩ | ⟨_,e,f⟩ | ⟨_,e,f⟩
  ·exact .inr (.inl e)
  ·rw [f] at h; cases h
  ·exact .inl e
 have cgt:∀ a b:Int,decide (v_cmp a b > 0)=true→b≤a := fun a b h => by have := v_cmp_gt.1 (of_decide_eq_true h); omega
 have clt:∀ a b:Int,decide (v_cmp a b > 0)=false→a≤b := fun a b h => by
  have h := of_decide_eq_false h
  rcases Int.lt_or_le b a with k | k
  ·exact absurd (v_cmp_gt.2 k) h
  ·exact k
 have hm5:(v_wide m).2.length≤5000000000000 := Nat.le_trans hm (by decide)
 have hn5:(v_wide n).2.length≤5000000000000 := Nat.le_trans hn (by decide)
 refine ⟨fun _ _ _ => a1,fun h _ _ => sg _ _ h,fun _ _ _ => a2,fun _ _ _ => by omega,fun _ _ _ => c1,fun _ _ _ => c2,?_⟩
 refine ⟨fun _ _ _ _ _ => k1,fun _ _ _ _ _ => k2,fun _ _ _ _ _ => hm5,fun _ _ _ _ h => cgt _ _ h,fun h _ _ _ _ => sg _ _ h,fun _ _ _ _ _ => v_digs_ok _,fun _ _ _ _ _ => dl1,?_⟩
 exact ⟨fun _ _ _ _ _ => k2,fun _ _ _ _ _ => k1,fun _ _ _ _ _ => hn5,fun _ _ _ _ h => clt _ _ h,fun _ h _ _ _ => sg _ _ h,fun _ _ _ _ _ => v_digs_ok _,fun _ _ _ _ _ => dl2,by simp⟩
theorem tt_base_WideAdd (p0:Int×List Int) (p1:Int×List Int) (hq:∀ p∈qre_base_WideAdd p0 p1,p):s_base_WideAdd p0 p1 = t_base_WideAdd p0 p1 := by
 obtain ⟨h1,h2,_⟩ := conj_of hq
 obtain ⟨m,rfl,hm⟩ := h1.ex
 obtain ⟨n,rfl,hn⟩ := h2.ex
 unfold s_base_WideAdd t_base_WideAdd
 obtain ⟨_,_,a3,_⟩ := l_base_addDigits _ _ (v_wide_ok m) (v_wide_ok n) hm hn
 rw [v_wval_wide,v_wval_wide,a3]
 simp only [v_wide_1,v_wide_val,v_digs_val]
 rcases v_sign3 m with ⟨k1,e1,f1⟩ | ⟨k1,e1,f1⟩ | ⟨k1,e1,f1⟩ <;> rw [f1]
 ·rcases v_sign3 n with ⟨k2,e2,f2⟩ | ⟨k2,e2,f2⟩ | ⟨k2,e2,f2⟩ <;> rw [f2]
  ·rw [e1,e2]
   simp only [cond_false,beq_self_eq_true,cond_true]
   congr 1; omega
  ·subst k2; simp
  ·rw [e1,e2]
   simp only [cond_false,show ((-1:Int) == 1)=false from rfl]
   unfold v_cmp
   rcases Int.lt_trichotomy (m.natAbs:Int) n.natAbs with c | c | c
   ·rw [decide_eq_true c]
    simp only [cond_true,show ((-1:Int) == 0)=false from rfl,show decide ((-1:Int) > 0)=false from rfl,cond_false]
    congr 1; omega
   ·rw [decide_eq_false (show ¬ (m.natAbs:Int) < n.natAbs by omega),decide_eq_false (show ¬ (m.natAbs:Int) > n.natAbs by omega)]
    simp only [cond_false,beq_self_eq_true,cond_true]
    rw [show m + n = 0 by omega]
    unfold v_wide
    rw [show Int.natAbs 0 = 0 from rfl,v_digs_0]; rfl
   ·rw [decide_eq_false (show ¬ (m.natAbs:Int) < n.natAbs by omega),decide_eq_true (show (m.natAbs:Int) > n.natAbs from c)]
    simp only [cond_true,cond_false,show ((1:Int) == 0)=false from rfl,show decide ((1:Int) > 0)=true from rfl]
    congr 1; omega
 ·subst k1; simp
 ·rcases v_sign3 n with ⟨k2,e2,f2⟩ | ⟨k2,e2,f2⟩ | ⟨k2,e2,f2⟩ <;> rw [f2]
  ·rw [e1,e2]
   simp only [cond_false,show ((1:Int) == -1)=false from rfl]
   unfold v_cmp
   rcases Int.lt_trichotomy (m.natAbs:Int) n.natAbs with c | c | c
   ·rw [decide_eq_true c]
    simp only [cond_true,show ((-1:Int) == 0)=false from rfl,show decide ((-1:Int) > 0)=false from rfl,cond_false]
    congr 1; omega
   ·rw [decide_eq_false (show ¬ (m.natAbs:Int) < n.natAbs by omega),decide_eq_false (show ¬ (m.natAbs:Int) > n.natAbs by omega)]
    simp only [cond_false,beq_self_eq_true,cond_true]
    rw [show m + n = 0 by omega]
    unfold v_wide
    rw [show Int.natAbs 0 = 0 from rfl,v_digs_0]; rfl
   ·rw [decide_eq_false (show ¬ (m.natAbs:Int) < n.natAbs by omega),decide_eq_true (show (m.natAbs:Int) > n.natAbs from c)]
    simp only [cond_true,cond_false,show ((1:Int) == 0)=false from rfl,show decide ((1:Int) > 0)=true from rfl]
    congr 1; omega
  ·subst k2; simp
  ·rw [e1,e2]
   simp only [cond_false,beq_self_eq_true,cond_true]
   congr 1; omega

abbrev con_base_WideAdd:Con := ⟨P_base_WideAdd,R_base_WideAdd,fun x => qre_base_WideAdd x.1 x.2,fun x => t_base_WideAdd x.1 x.2⟩
theorem ok_base_WideAdd:ConOk Try.prog 130 con_base_WideAdd := ⟨k_base_WideAdd,fun x hx => ret_tf (ps := P_base_WideAdd) (rs := R_base_WideAdd) (x := x) (y := t_base_WideAdd x.1 x.2) e_base_WideAdd hC_base_WideAdd (tf_of (w_base_WideAdd_eq x.1 x.2 (fun z => z = t_base_WideAdd x.1 x.2)) (d_base_WideAdd x.1 x.2 (fun z => z = t_base_WideAdd x.1 x.2) (pp_base_WideAdd x.1 x.2 hx) (tt_base_WideAdd x.1 x.2 hx)))⟩
/- base_WideMul -/
def C_base_WideMul:Cons := [(146,[],con_base_wideOf)]
theorem hC_base_WideMul:ConsOk Try.prog C_base_WideMul := ConsOk.cons ok_base_wideOf <| ConsOk.nil
def w_base_WideMul (p0:(Int×(List Int))) (p1:(Int×(List Int))) (K:(Int×(List Int))→Prop):Prop :=
  (((0:Int)≤(IntKind.i64.wrap ((IntKind.i64.wrap ((List.length p0.2:Int) + (List.length p1.2:Int))) + 1))) ∧
 ((((8:Int) * (IntKind.i64.wrap ((IntKind.i64.wrap ((List.length p0.2:Int) + (List.length p1.2:Int))) + 1)))≤281474976710656) ∧
 (((IntKind.i64.wrap ((IntKind.i64.wrap ((List.length p0.2:Int) + (List.length p1.2:Int))) + 1))≤9223372036854775807) ∧
 (∃ n0,(loopP (fun (y1:(Int×(List Int))) k2 =>
  ((((decide (y1.1 < (List.length p0.2:Int)))=true) →
  (∃ n3,(loopP (fun (y4:(Int×(Int×(List Int)))) k5 =>
    ((((decide (y4.1 < (List.length p1.2:Int)))=true) →
    (((0:Int)≤(IntKind.i64.wrap (y1.1 + y4.1))) ∧
     (((IntKind.i64.wrap (y1.1 + y4.1)) < (List.length y4.2.2:Int)) ∧
     (((0:Int)≤y1.1) ∧
     ((y1.1 < (List.length p0.2:Int)) ∧
     (((0:Int)≤y4.1) ∧
     ((y4.1 < (List.length p1.2:Int)) ∧
     (((0:Int)≤(IntKind.i64.wrap (y1.1 + y4.1))) ∧
     (((IntKind.i64.wrap (y1.1 + y4.1)) < (List.length y4.2.2:Int)) ∧
     (k5 ((IntKind.i64.wrap (y4.1 + 1)),((IntKind.i64.wrap (Int.tdiv (IntKind.i64.wrap ((IntKind.i64.wrap ((y4.2.2.getD (Int.toNat (IntKind.i64.wrap (y1.1 + y4.1))) (0:Int)) + (IntKind.i64.wrap ((p0.2.getD y1.1.toNat 0) * (p1.2.getD y4.1.toNat 0))))) + y4.2.1)) (1000000000:Int))),(List.set y4.2.2 (Int.toNat (IntKind.i64.wrap (y1.1 + y4.1))) (Int.tmod (IntKind.i64.wrap ((IntKind.i64.wrap ((y4.2.2.getD (Int.toNat (IntKind.i64.wrap (y1.1 + y4.1))) (0:Int)) + (IntKind.i64.wrap ((p0.2.getD y1.1.toNat 0) * (p1.2.getD y4.1.toNat 0))))) + y4.2.1)) (1000000000:Int))))))))))))))) ∧
    (((decide (y4.1 < (List.length p1.2:Int)))=false) →
    (((0:Int)≤(IntKind.i64.wrap (y1.1 + (List.length p1.2:Int)))) ∧
     (((IntKind.i64.wrap (y1.1 + (List.length p1.2:Int))) < (List.length y4.2.2:Int)) ∧
     (((0:Int)≤(IntKind.i64.wrap (y1.1 + (List.length p1.2:Int)))) ∧
     (((IntKind.i64.wrap (y1.1 + (List.length p1.2:Int))) < (List.length y4.2.2:Int)) ∧
     (k2 ((IntKind.i64.wrap (y1.1 + 1)),(List.set y4.2.2 (Int.toNat (IntKind.i64.wrap (y1.1 + (List.length p1.2:Int)))) (IntKind.i64.wrap ((y4.2.2.getD (Int.toNat (IntKind.i64.wrap (y1.1 + (List.length p1.2:Int)))) (0:Int)) + y4.2.1)))))))))))) n3 ((0:Int),((0:Int),y1.2))))) ∧
  (((decide (y1.1 < (List.length p0.2:Int)))=false) →
  ((v_sgn (IntKind.i64.wrap (p0.1 * p1.1)) y1.2) ∧
   ((v_dgok y1.2) ∧
   ((y1.2.length≤10000000000000) ∧
   (K (v_wide ((IntKind.i64.wrap (p0.1 * p1.1)) * (v_val y1.2)))))))))) n0 ((0:Int),(List.replicate (Int.toNat (IntKind.i64.wrap ((IntKind.i64.wrap ((List.length p0.2:Int) + (List.length p1.2:Int))) + 1))) (0:Int))))))))
set_option maxHeartbeats 4000000 in
theorem w_base_WideMul_eq (p0:(Int×(List Int))) (p1:(Int×(List Int))) (K:(Int×(List Int))→Prop):tfn F_base_WideMul A_base_WideMul C_base_WideMul P_base_WideMul R_base_WideMul (p0,p1) K = w_base_WideMul p0 p1 K := by kernel_rfl
def st_base_WideMul_0 (p0:(Int×(List Int))) (p1:(Int×(List Int))) (y0:(Int×(List Int))) (y2:(Int×(Int×(List Int)))):(Int×(Int×(List Int))) ⊕ ((Int×(List Int)) ⊕ (Int×(List Int))) :=
 (cond (decide (y2.1 < (List.length p1.2:Int))) (Sum.inl ((IntKind.i64.wrap (y2.1 + 1)),((IntKind.i64.wrap (Int.tdiv (IntKind.i64.wrap ((IntKind.i64.wrap ((y2.2.2.getD (Int.toNat (IntKind.i64.wrap (y0.1 + y2.1))) (0:Int)) + (IntKind.i64.wrap ((p0.2.getD y0.1.toNat 0) * (p1.2.getD y2.1.toNat 0))))) + y2.2.1)) (1000000000:Int))),(List.set y2.2.2 (Int.toNat (IntKind.i64.wrap (y0.1 + y2.1))) (Int.tmod (IntKind.i64.wrap ((IntKind.i64.wrap ((y2.2.2.getD (Int.toNat (IntKind.i64.wrap (y0.1 + y2.1))) (0:Int)) + (IntKind.i64.wrap ((p0.2.getD y0.1.toNat 0) * (p1.2.getD y2.1.toNat 0))))) + y2.2.1)) (1000000000:Int))))))
  (Sum.inr (Sum.inl ((IntKind.i64.wrap (y0.1 + 1)),(List.set y2.2.2 (Int.toNat (IntKind.i64.wrap (y0.1 + (List.length p1.2:Int)))) (IntKind.i64.wrap ((y2.2.2.getD (Int.toNat (IntKind.i64.wrap (y0.1 + (List.length p1.2:Int)))) (0:Int)) + y2.2.1)))))))
abbrev sp_base_WideMul_0 (p0:(Int×(List Int))) (p1:(Int×(List Int))) (y0:(Int×(List Int))) (y2:(Int×(Int×(List Int)))):List Prop := [(((decide (y2.1 < (List.length p1.2:Int)))=true)→((0:Int)≤(IntKind.i64.wrap (y0.1 + y2.1)))),
  (((decide (y2.1 < (List.length p1.2:Int)))=true)→((IntKind.i64.wrap (y0.1 + y2.1)) < (List.length y2.2.2:Int))),
  (((decide (y2.1 < (List.length p1.2:Int)))=true)→((0:Int)≤y0.1)),
  (((decide (y2.1 < (List.length p1.2:Int)))=true)→(y0.1 < (List.length p0.2:Int))),
  (((decide (y2.1 < (List.length p1.2:Int)))=true)→((0:Int)≤y2.1)),
  (((decide (y2.1 < (List.length p1.2:Int)))=true)→(y2.1 < (List.length p1.2:Int))),
  (((decide (y2.1 < (List.length p1.2:Int)))=false)→((0:Int)≤(IntKind.i64.wrap (y0.1 + (List.length p1.2:Int))))),
  (((decide (y2.1 < (List.length p1.2:Int)))=false)→((IntKind.i64.wrap (y0.1 + (List.length p1.2:Int))) < (List.length y2.2.2:Int)))]
def st_base_WideMul_1 (p0:(Int×(List Int))) (p1:(Int×(List Int))) (y0:(Int×(List Int))):(Int×(List Int)) ⊕ (Int×(List Int)) :=
 (cond (decide (y0.1 < (List.length p0.2:Int))) (lpv (Sum.inr ((0:Int),[])) (st_base_WideMul_0 p0 p1 y0) ((0:Int),((0:Int),y0.2)))
  (Sum.inr (v_wide ((IntKind.i64.wrap (p0.1 * p1.1)) * (v_val y0.2)))))
abbrev sp_base_WideMul_1 (p0:(Int×(List Int))) (p1:(Int×(List Int))) (y0:(Int×(List Int))):List Prop := [(((decide (y0.1 < (List.length p0.2:Int)))=true)→(OkL (st_base_WideMul_0 p0 p1 y0) (sp_base_WideMul_0 p0 p1 y0) ((0:Int),((0:Int),y0.2)))),
  (((decide (y0.1 < (List.length p0.2:Int)))=false)→(v_sgn (IntKind.i64.wrap (p0.1 * p1.1)) y0.2)),
  (((decide (y0.1 < (List.length p0.2:Int)))=false)→(v_dgok y0.2)),
  (((decide (y0.1 < (List.length p0.2:Int)))=false)→(y0.2.length≤10000000000000))]
def s_base_WideMul (p0:(Int×(List Int))) (p1:(Int×(List Int))):(Int×(List Int)) :=
 (lpv ((0:Int),[]) (st_base_WideMul_1 p0 p1) ((0:Int),(List.replicate (Int.toNat (IntKind.i64.wrap ((IntKind.i64.wrap ((List.length p0.2:Int) + (List.length p1.2:Int))) + 1))) (0:Int))))
abbrev pre_base_WideMul (p0:(Int×(List Int))) (p1:(Int×(List Int))):List Prop := [((0:Int)≤(IntKind.i64.wrap ((IntKind.i64.wrap ((List.length p0.2:Int) + (List.length p1.2:Int))) + 1))),
  (((8:Int) * (IntKind.i64.wrap ((IntKind.i64.wrap ((List.length p0.2:Int) + (List.length p1.2:Int))) + 1)))≤281474976710656),
  ((IntKind.i64.wrap ((IntKind.i64.wrap ((List.length p0.2:Int) + (List.length p1.2:Int))) + 1))≤9223372036854775807),
  (OkL (st_base_WideMul_1 p0 p1) (sp_base_WideMul_1 p0 p1) ((0:Int),(List.replicate (Int.toNat (IntKind.i64.wrap ((IntKind.i64.wrap ((List.length p0.2:Int) + (List.length p1.2:Int))) + 1))) (0:Int))))]
set_option maxHeartbeats 4000000 in
theorem d_base_WideMul (p0:(Int×(List Int))) (p1:(Int×(List Int))) (K:(Int×(List Int))→Prop) (hp:∀ p∈pre_base_WideMul p0 p1,p) (h:K (s_base_WideMul p0 p1)):w_base_WideMul p0 p1 K := by
 unfold w_base_WideMul
 unfold s_base_WideMul at h
 obtain ⟨hp0,hp1,hp2,hp3,_⟩ := conj_of hp
 exact ⟨(hp0),(hp1),(hp2),(loop_gen (hp3) h (fun y0 k0 hp h => by
 unfold st_base_WideMul_1 at h; obtain ⟨hp0,hp1,hp2,hp3,_⟩ := conj_of hp
 exact (br' h (fun e1 h => (loop_gen (hp0 e1) h (fun y2 k2 hp h => by
 unfold st_base_WideMul_0 at h; obtain ⟨hp0,hp1,hp2,hp3,hp4,hp5,hp6,hp7,_⟩ := conj_of hp
 exact (br' h (fun e3 h => ⟨(hp0 e3),(hp1 e3),(hp2 e3),(hp3 e3),(hp4 e3),(hp5 e3),(hp0 e3),(hp1 e3),h⟩)
  (fun e3 h => ⟨(hp6 e3),(hp7 e3),(hp6 e3),(hp7 e3),h⟩)))))
  (fun e1 h => ⟨(hp1 e1),(hp2 e1),(hp3 e1),h⟩))))⟩
theorem l_base_WideMul_0 (p0 p1:Int×List Int) (d1:v_dgok p0.2) (d2:v_dgok p1.2) (l1:p0.2.length≤1000000000000) (l2:p1.2.length≤1000000000000) (j:Nat) (hj:j < p0.2.length) (out:List Int) (ho:out.length = p0.2.length + p1.2.length + 1) (hd:v_dgok out) (hz:∀ m,j + p1.2.length≤m→out.getD m 0 = 0) :
  OkL (st_base_WideMul_0 p0 p1 ((j:Int),out)) (sp_base_WideMul_0 p0 p1 ((j:Int),out)) (0,0,out)∧(fun (r:(Int×List Int) ⊕ (Int×List Int)) => ∃ o2:List Int,r = .inl (((j + 1:Nat):Int),o2)∧o2.length = p0.2.length + p1.2.length + 1∧v_dgok o2∧v_val o2 = v_val out + p0.2.getD j 0 * v_pow j * v_val p1.2∧(∀ m,j + 1 + p1.2.length≤m→o2.getD m 0 = 0)) (lpv (.inr (0,[])) (st_base_WideMul_0 p0 p1 ((j:Int),out)) (0,0,out)) := by
 refine @for_post (Int×List Int) (Int×Int×List Int) ((Int×List Int) ⊕ (Int×List Int)) (.inr (0,[])) (st_base_WideMul_0 p0 p1 ((j:Int),out)) (sp_base_WideMul_0 p0 p1 ((j:Int),out)) (fun i (t:Int×List Int) => (i,t)) 0 p1.2.length
  (fun k t => t.2.length = p0.2.length + p1.2.length + 1∧v_dgok t.2∧(0≤t.1∧t.1 < 1000000000)∧v_val t.2 + t.1 * v_pow (j + k)=v_val out + p0.2.getD j 0 * v_pow j * v_val (p1.2.take k)∧(∀ m,j + p1.2.length≤m→t.2.getD m 0 = 0))
  (fun r => ∃ o2:List Int,r = .inl (((j + 1:Nat):Int),o2)∧o2.length = p0.2.length + p1.2.length + 1∧v_dgok o2∧v_val o2 = v_val out + p0.2.getD j 0 * v_pow j * v_val p1.2∧(∀ m,j + 1 + p1.2.length≤m→o2.getD m 0 = 0)) (Nat.zero_le _) (by omega) ?_ ?_ (0,out) ⟨ho,hd,⟨Int.le_refl _,by simp only; omega⟩,?_,hz⟩
 ·rintro ⟨c,o⟩ ⟨g1,g2,g3,g4,g5⟩
  simp only at g1 g2 g3 g4 g5
  have hd:decide ((p1.2.length:Int) < p1.2.length)=false := decide_eq_false (by omega)
  have wi:IntKind.i64.wrap ((j:Int) + p1.2.length)=((j + p1.2.length:Nat):Int) := by rw [wrap_id (by omega) (by omega)]; omega
  have hz0 := g5 (j + p1.2.length) (Nat.le_refl _)
  simp only [sp_base_WideMul_0,st_base_WideMul_0,List.forall_mem_cons,hd,cond_false,wi,Int.toNat_natCast,hz0]
  refine ⟨by and_intros <;> first | (intro p hp; cases hp; done) | (intro h; cases h; done) | (intros; omega),_,rfl,o.set (j + p1.2.length) c,?_,by rw [List.length_set]; exact g1,v_dgok_set g2 g3,?_,fun m hm => ?_⟩
  ·rw [wrap_nat (by omega),Int.zero_add,wrap_id (n := c) (by omega) (by omega)]
  ·rw [v_val_set _ _ _ (by omega),hz0,Int.sub_zero,Int.mul_comm (v_pow _) c,g4,List.take_length]
  ·rw [gd_set (by omega),if_neg (by omega)]; exact g5 m (by omega)
 ·rintro k ⟨c,o⟩ _ hk ⟨g1,g2,g3,g4,g5⟩
  simp only at g1 g2 g3 g4 g5
  have hdd:decide ((k:Int) < p1.2.length)=true := decide_eq_true (by omega)
  have wi:IntKind.i64.wrap ((j:Int) + k)=((j + k:Nat):Int) := by rw [wrap_id (by omega) (by omega)]; omega
  obtain ⟨b1,b2,b3,b4⟩ := v_mul_small (v_dgok_get g2 (j + k)) (v_dgok_get d1 j) (v_dgok_get d2 k) g3
  have q0 := v_dgok_get g2 (j + k)
  have ws:IntKind.i64.wrap (IntKind.i64.wrap (o.getD (j + k) 0 + IntKind.i64.wrap (p0.2.getD j 0 * p1.2.getD k 0)) + c)=o.getD (j + k) 0 + p0.2.getD j 0 * p1.2.getD k 0 + c := by
   rw [w_add_r,w_add_l]; exact wrap_id (by omega) (by omega)
  simp only [sp_base_WideMul_0,st_base_WideMul_0,List.forall_mem_cons,hdd,cond_true,wi,Int.toNat_natCast,ws,wrap_nat (show (k:Int)≤9223372036854775806 by omega)]
  refine ⟨by and_intros <;> first | (intro p hp; cases hp; done) | (intro h; cases h; done) | (intros; omega),.inl ?_⟩
  rw [Int.tmod_eq_emod_of_nonneg b3,Int.tdiv_eq_ediv_of_nonneg b3]
  have r1 := Int.emod_nonneg (o.getD (j + k) 0 + p0.2.getD j 0 * p1.2.getD k 0 + c) (show (1000000000:Int) ≠ 0 by decide)
  have r2 := Int.emod_lt_of_pos (o.getD (j + k) 0 + p0.2.getD j 0 * p1.2.getD k 0 + c) (show (0:Int) < 1000000000 by decide)
  have r3:0≤(o.getD (j + k) 0 + p0.2.getD j 0 * p1.2.getD k 0 + c) / 1000000000 := Int.ediv_nonneg b3 (by decide)
  rw [wrap_id (n := (o.getD (j + k) 0 + p0.2.getD j 0 * p1.2.getD k 0 + c) / 1000000000) (by omega) (by omega)]
  refine ⟨(_,o.set (j + k) _),rfl,by rw [List.length_set]; exact g1,v_dgok_set g2 ⟨r1,r2⟩,⟨r3,b4⟩,?_,fun m hm => ?_⟩
  ·exact v_mul_round hk (by omega) rfl g4
  ·show (o.set (j + k) _).getD m 0 = 0
   rw [gd_set (by omega),if_neg (by omega)]; exact g5 m hm
 ·simp only [List.take_zero]
  show v_val out + 0 * v_pow (j + 0)=v_val out + p0.2.getD j 0 * v_pow j * 0
  omega
theorem l_base_WideMul_1 (p0 p1:Int×List Int) (h1:v_wok p0) (h2:v_wok p1):OkL (st_base_WideMul_1 p0 p1) (sp_base_WideMul_1 p0 p1) (0,List.replicate (p0.2.length + p1.2.length + 1) 0)∧lpv (0,[]) (st_base_WideMul_1 p0 p1) (0,List.replicate (p0.2.length + p1.2.length + 1) 0)=v_wide (v_wval p0 * v_wval p1) := by
 have l1 := h1.ln
 have l2 := h2.ln
 obtain ⟨a,ea,_⟩ := h1.ex
 obtain ⟨b,eb,_⟩ := h2.ex
 have d1:v_dgok p0.2 := by rw [ea]; exact v_wide_ok a
 have d2:v_dgok p1.2 := by rw [eb]; exact v_wide_ok b
 refine for_post (dd := (0,[])) (st := st_base_WideMul_1 p0 p1) (sp := sp_base_WideMul_1 p0 p1) (fun i (t:List Int) => (i,t)) 0 p0.2.length
  (fun j t => t.length = p0.2.length + p1.2.length + 1∧v_dgok t∧v_val t = v_val (p0.2.take j) * v_val p1.2∧(∀ m,j + p1.2.length≤m→t.getD m 0 = 0)) (fun r => r = v_wide (v_wval p0 * v_wval p1)) (Nat.zero_le _) (by omega) ?_ ?_ _ ⟨by simp,?_,?_,fun m _ => gd_rep'⟩
 ·rintro o ⟨g1,g2,g3,_⟩
  have hd:decide ((p0.2.length:Int) < p0.2.length)=false := decide_eq_false (by omega)
  rw [List.take_length] at g3
  have s0:p0.1 = a.sign := by rw [ea]; rfl
  have s1:p1.1 = b.sign := by rw [eb]; rfl
  have x0:v_val p0.2 = a.natAbs := by rw [ea]; exact v_wide_val a
  have x1:v_val p1.2 = b.natAbs := by rw [eb]; exact v_wide_val b
  have hs:IntKind.i64.wrap (p0.1 * p1.1)=a.sign * b.sign := by
   rw [s0,s1]
   rcases v_sign3 a with ⟨_,e,_⟩ | ⟨_,e,_⟩ | ⟨_,e,_⟩ <;> rcases v_sign3 b with ⟨_,f,_⟩ | ⟨_,f,_⟩ | ⟨_,f,_⟩ <;> rw [e,f] <;> rfl
  simp only [sp_base_WideMul_1,st_base_WideMul_1,List.forall_mem_cons,hd,cond_false,hs]
  refine ⟨⟨fun h => (by cases h),fun _ => ?_,fun _ => g2,fun _ => by omega,by simp⟩,_,rfl,?_⟩
  ·rcases v_sign3 a with ⟨_,e,_⟩ | ⟨k,e,_⟩ | ⟨_,e,_⟩ <;> rcases v_sign3 b with ⟨_,f,_⟩ | ⟨k',f,_⟩ | ⟨_,f,_⟩ <;> rw [e,f]
   ·exact .inl rfl
   ·right; right; rw [g3,x1,k']; simp
   ·exact .inr (.inl rfl)
   ·right; right; rw [g3,x0,k]; simp
   ·right; right; rw [g3,x0,k]; simp
   ·right; right; rw [g3,x0,k]; simp
   ·exact .inr (.inl rfl)
   ·right; right; rw [g3,x1,k']; simp
   ·exact .inl rfl
  ·rw [g3,x0,x1]
   have := v_sign_abs a
   have := v_sign_abs b
   congr 1
   rw [show v_wval p0 = a by rw [ea,v_wval_wide],show v_wval p1 = b by rw [eb,v_wval_wide]]
   rw [Int.mul_assoc,← Int.mul_assoc b.sign,Int.mul_comm b.sign,Int.mul_assoc,← Int.mul_assoc,v_sign_abs,v_sign_abs]
 ·rintro j o _ hj ⟨g1,g2,g3,g4⟩
  obtain ⟨i1,o2,i2,i3,i4,i5,i6⟩ := l_base_WideMul_0 p0 p1 d1 d2 l1 l2 j hj o g1 g2 g4
  have hd:decide ((j:Int) < p0.2.length)=true := decide_eq_true (by omega)
  simp only [sp_base_WideMul_1,st_base_WideMul_1,List.forall_mem_cons,hd,cond_true]
  refine ⟨⟨fun _ => i1,fun h => (by cases h),fun h => (by cases h),fun h => (by cases h),by simp⟩,.inl ⟨o2,i2,i3,i4,?_,i6⟩⟩
  rw [i5,g3,v_val_take_s hj,Int.add_mul,Int.mul_comm (v_pow j)]
 ·intro d hd
  rw [List.eq_of_mem_replicate hd]; exact ⟨Int.le_refl _,by decide⟩
 ·rw [v_val_zeros]
  show (0:Int)=0 * _
  rw [Int.zero_mul]
abbrev t_base_WideMul (p0:Int×List Int) (p1:Int×List Int):Int×List Int := v_wide (v_wval p0 * v_wval p1)
abbrev qre_base_WideMul (p0:Int×List Int) (p1:Int×List Int):List Prop := [v_wok p0,v_wok p1]
theorem pp_base_WideMul (p0:Int×List Int) (p1:Int×List Int) (hq:∀ p∈qre_base_WideMul p0 p1,p):∀ p∈pre_base_WideMul p0 p1,p := by
 obtain ⟨h1,h2,_⟩ := conj_of hq
 have l1 := h1.ln
 have l2 := h2.ln
 have e := (l_base_WideMul_1 p0 p1 h1 h2).1
 have w:IntKind.i64.wrap (IntKind.i64.wrap ((p0.2.length:Int) + p1.2.length) + 1)=((p0.2.length + p1.2.length + 1:Nat):Int) := by rw [w_add_l,wrap_id (by omega) (by omega)]; omega
 simp only [pre_base_WideMul,List.forall_mem_cons,w,Int.toNat_natCast]
 exact ⟨by omega,by omega,by omega,e,by simp⟩
theorem tt_base_WideMul (p0:Int×List Int) (p1:Int×List Int) (hq:∀ p∈qre_base_WideMul p0 p1,p):s_base_WideMul p0 p1 = t_base_WideMul p0 p1 := by
 obtain ⟨h1,h2,_⟩ := conj_of hq
 have l1 := h1.ln
 have l2 := h2.ln
 have w:IntKind.i64.wrap (IntKind.i64.wrap ((p0.2.length:Int) + p1.2.length) + 1)=((p0.2.length + p1.2.length + 1:Nat):Int) := by rw [w_add_l,wrap_id (by omega) (by omega)]; omega
 unfold s_base_WideMul t_base_WideMul
 rw [w,Int.toNat_natCast]
 exact (l_base_WideMul_1 p0 p1 h1 h2).2

abbrev con_base_WideMul:Con := ⟨P_base_WideMul,R_base_WideMul,fun x => qre_base_WideMul x.1 x.2,fun x => t_base_WideMul x.1 x.2⟩
theorem ok_base_WideMul:ConOk Try.prog 129 con_base_WideMul := ⟨k_base_WideMul,fun x hx => ret_tf (ps := P_base_WideMul) (rs := R_base_WideMul) (x := x) (y := t_base_WideMul x.1 x.2) e_base_WideMul hC_base_WideMul (tf_of (w_base_WideMul_eq x.1 x.2 (fun z => z = t_base_WideMul x.1 x.2)) (d_base_WideMul x.1 x.2 (fun z => z = t_base_WideMul x.1 x.2) (pp_base_WideMul x.1 x.2 hx) (tt_base_WideMul x.1 x.2 hx)))⟩
/- base_WideSub -/
def C_base_WideSub:Cons := [(141,[],con_base_WideNeg),(130,[],con_base_WideAdd)]
theorem hC_base_WideSub:ConsOk Try.prog C_base_WideSub := ConsOk.cons ok_base_WideNeg <| ConsOk.cons ok_base_WideAdd <| ConsOk.nil
def w_base_WideSub (p0:(Int×(List Int))) (p1:(Int×(List Int))) (K:(Int×(List Int))→Prop):Prop :=
  ((v_wok p1) ∧
 ((v_wok p0) ∧
 ((v_wok (v_wide (-(v_wval p1)))) ∧
 (K (v_wide ((v_wval p0) + (v_wval (v_wide (-(v_wval p1))))))))))
set_option maxHeartbeats 4000000 in
theorem w_base_WideSub_eq (p0:(Int×(List Int))) (p1:(Int×(List Int))) (K:(Int×(List Int))→Prop):tfn F_base_WideSub A_base_WideSub C_base_WideSub P_base_WideSub R_base_WideSub (p0,p1) K = w_base_WideSub p0 p1 K := by kernel_rfl
def s_base_WideSub (p0:(Int×(List Int))) (p1:(Int×(List Int))):(Int×(List Int)) :=
 (v_wide ((v_wval p0) + (v_wval (v_wide (-(v_wval p1))))))
abbrev pre_base_WideSub (p0:(Int×(List Int))) (p1:(Int×(List Int))):List Prop := [(v_wok p1),
  (v_wok p0),
  (v_wok (v_wide (-(v_wval p1))))]
set_option maxHeartbeats 4000000 in
theorem d_base_WideSub (p0:(Int×(List Int))) (p1:(Int×(List Int))) (K:(Int×(List Int))→Prop) (hp:∀ p∈pre_base_WideSub p0 p1,p) (h:K (s_base_WideSub p0 p1)):w_base_WideSub p0 p1 K := by
 unfold w_base_WideSub
 unfold s_base_WideSub at h
 obtain ⟨hp0,hp1,hp2,_⟩ := conj_of hp
 exact ⟨(hp0),(hp1),(hp2),h⟩
abbrev t_base_WideSub (p0:Int×List Int) (p1:Int×List Int):Int×List Int := v_wide (v_wval p0 - v_wval p1)
abbrev qre_base_WideSub (p0:Int×List Int) (p1:Int×List Int):List Prop := [v_wok p0,v_wok p1]
theorem pp_base_WideSub (p0:Int×List Int) (p1:Int×List Int) (hq:∀ p∈qre_base_WideSub p0 p1,p):∀ p∈pre_base_WideSub p0 p1,p := by
 obtain ⟨h1,h2,_⟩ := conj_of hq
 obtain ⟨n,rfl,hn⟩ := h2.ex
 simp only [pre_base_WideSub,List.forall_mem_cons]
 exact ⟨h2,h1,by rw [v_wval_wide]; exact v_wok_of (by rw [v_dl_neg]; exact hn),by simp⟩
theorem tt_base_WideSub (p0:Int×List Int) (p1:Int×List Int) (hq:∀ p∈qre_base_WideSub p0 p1,p):s_base_WideSub p0 p1 = t_base_WideSub p0 p1 := by
 obtain ⟨h1,h2,_⟩ := conj_of hq
 unfold s_base_WideSub t_base_WideSub
 rw [v_wval_wide]; rfl

abbrev con_base_WideSub:Con := ⟨P_base_WideSub,R_base_WideSub,fun x => qre_base_WideSub x.1 x.2,fun x => t_base_WideSub x.1 x.2⟩
theorem ok_base_WideSub:ConOk Try.prog 153 con_base_WideSub := ⟨k_base_WideSub,fun x hx => ret_tf (ps := P_base_WideSub) (rs := R_base_WideSub) (x := x) (y := t_base_WideSub x.1 x.2) e_base_WideSub hC_base_WideSub (tf_of (w_base_WideSub_eq x.1 x.2 (fun z => z = t_base_WideSub x.1 x.2)) (d_base_WideSub x.1 x.2 (fun z => z = t_base_WideSub x.1 x.2) (pp_base_WideSub x.1 x.2 hx) (tt_base_WideSub x.1 x.2 hx)))⟩
/- base_Size -/
def C_base_Size:Cons := []
theorem hC_base_Size:ConsOk Try.prog C_base_Size := ConsOk.nil
def w_base_Size (p0:Int) (K:Int→Prop):Prop :=
  (K (max p0 (IntKind.i64.wrap ((0:Int) - p0))))
set_option maxHeartbeats 4000000 in
theorem w_base_Size_eq (p0:Int) (K:Int→Prop):tfn F_base_Size A_base_Size C_base_Size P_base_Size R_base_Size p0 K = w_base_Size p0 K := by kernel_rfl
def s_base_Size (p0:Int):Int :=
 (max p0 (IntKind.i64.wrap ((0:Int) - p0)))
abbrev pre_base_Size (_p0:Int):List Prop := []
set_option maxHeartbeats 4000000 in
theorem d_base_Size (p0:Int) (K:Int→Prop) (_hp:∀ p∈pre_base_Size p0,p) (h:K (s_base_Size p0)):w_base_Size p0 K := by
 unfold w_base_Size
 unfold s_base_Size at h
 exact h
abbrev con_base_Size:Con := ⟨P_base_Size,R_base_Size,fun x => pre_base_Size x,fun x => s_base_Size x⟩
theorem ok_base_Size:ConOk Try.prog 131 con_base_Size := ⟨k_base_Size,fun x hx => ret_tf (ps := P_base_Size) (rs := R_base_Size) (x := x) (y := s_base_Size x) e_base_Size hC_base_Size (tf_of (w_base_Size_eq x (fun z => z = s_base_Size x)) (d_base_Size x (fun z => z = s_base_Size x) hx rfl))⟩
/- base_WideOf -/
def C_base_WideOf:Cons := [(131,[],con_base_Size),(146,[],con_base_wideOf)]
theorem hC_base_WideOf:ConsOk Try.prog C_base_WideOf := ConsOk.cons ok_base_Size <| ConsOk.cons ok_base_wideOf <| ConsOk.nil
def w_base_WideOf (p0:Int) (K:(Int×(List Int))→Prop):Prop :=
  ((((decide (p0 < 0))=true) →
 (∃ n0,(loopP (fun (y1:(Int×(List Int))) k2 =>
   ((((y1.1 != 0)=true) →
   ((((y1.2.length + (List.length ((s_base_Size (Int.tmod y1.1 (1000000000:Int))) :: ([]:List Int)))) * 8)≤140737488355328) ∧
    (k2 ((IntKind.i64.wrap (Int.tdiv y1.1 (1000000000:Int))),(y1.2 ++ ((s_base_Size (Int.tmod y1.1 (1000000000:Int))) :: ([]:List Int))))))) ∧
   (((y1.1 != 0)=false) →
   ((v_sgn (-1:Int) y1.2) ∧
    ((v_dgok y1.2) ∧
    ((y1.2.length≤10000000000000) ∧
    (K (v_wide ((-1:Int) * (v_val y1.2)))))))))) n0 (p0,([]:List Int))))) ∧
 (((decide (p0 < 0))=false) →
 (∃ n3,(loopP (fun (y4:(Int×(List Int))) k5 =>
   ((((y4.1 != 0)=true) →
   ((((y4.2.length + (List.length ((s_base_Size (Int.tmod y4.1 (1000000000:Int))) :: ([]:List Int)))) * 8)≤140737488355328) ∧
    (k5 ((IntKind.i64.wrap (Int.tdiv y4.1 (1000000000:Int))),(y4.2 ++ ((s_base_Size (Int.tmod y4.1 (1000000000:Int))) :: ([]:List Int))))))) ∧
   (((y4.1 != 0)=false) →
   ((v_sgn (1:Int) y4.2) ∧
    ((v_dgok y4.2) ∧
    ((y4.2.length≤10000000000000) ∧
    (K (v_wide ((1:Int) * (v_val y4.2)))))))))) n3 (p0,([]:List Int))))))
set_option maxHeartbeats 4000000 in
theorem w_base_WideOf_eq (p0:Int) (K:(Int×(List Int))→Prop):tfn F_base_WideOf A_base_WideOf C_base_WideOf P_base_WideOf R_base_WideOf p0 K = w_base_WideOf p0 K := by kernel_rfl
def st_base_WideOf_0 (_p0:Int) (y1:(Int×(List Int))):(Int×(List Int)) ⊕ (Int×(List Int)) :=
 (cond (y1.1 != 0) (Sum.inl ((IntKind.i64.wrap (Int.tdiv y1.1 (1000000000:Int))),(y1.2 ++ ((s_base_Size (Int.tmod y1.1 (1000000000:Int))) :: ([]:List Int)))))
  (Sum.inr (v_wide ((-1:Int) * (v_val y1.2)))))
abbrev sp_base_WideOf_0 (_p0:Int) (y1:(Int×(List Int))):List Prop := [(((y1.1 != 0)=true)→(((y1.2.length + (List.length ((s_base_Size (Int.tmod y1.1 (1000000000:Int))) :: ([]:List Int)))) * 8)≤140737488355328)),
  (((y1.1 != 0)=false)→(v_sgn (-1:Int) y1.2)),
  (((y1.1 != 0)=false)→(v_dgok y1.2)),
  (((y1.1 != 0)=false)→(y1.2.length≤10000000000000))]
def st_base_WideOf_1 (_p0:Int) (y3:(Int×(List Int))):(Int×(List Int)) ⊕ (Int×(List Int)) :=
 (cond (y3.1 != 0) (Sum.inl ((IntKind.i64.wrap (Int.tdiv y3.1 (1000000000:Int))),(y3.2 ++ ((s_base_Size (Int.tmod y3.1 (1000000000:Int))) :: ([]:List Int)))))
  (Sum.inr (v_wide ((1:Int) * (v_val y3.2)))))
abbrev sp_base_WideOf_1 (_p0:Int) (y3:(Int×(List Int))):List Prop := [(((y3.1 != 0)=true)→(((y3.2.length + (List.length ((s_base_Size (Int.tmod y3.1 (1000000000:Int))) :: ([]:List Int)))) * 8)≤140737488355328)),
  (((y3.1 != 0)=false)→(v_sgn (1:Int) y3.2)),
  (((y3.1 != 0)=false)→(v_dgok y3.2)),
  (((y3.1 != 0)=false)→(y3.2.length≤10000000000000))]
def s_base_WideOf (p0:Int):(Int×(List Int)) :=
 (cond (decide (p0 < 0)) (lpv ((0:Int),[]) (st_base_WideOf_0 p0) (p0,([]:List Int)))
  (lpv ((0:Int),[]) (st_base_WideOf_1 p0) (p0,([]:List Int))))
abbrev pre_base_WideOf (p0:Int):List Prop := [(((decide (p0 < 0))=true)→(OkL (st_base_WideOf_0 p0) (sp_base_WideOf_0 p0) (p0,([]:List Int)))),
  (((decide (p0 < 0))=false)→(OkL (st_base_WideOf_1 p0) (sp_base_WideOf_1 p0) (p0,([]:List Int))))]
set_option maxHeartbeats 4000000 in
theorem d_base_WideOf (p0:Int) (K:(Int×(List Int))→Prop) (hp:∀ p∈pre_base_WideOf p0,p) (h:K (s_base_WideOf p0)):w_base_WideOf p0 K := by
 unfold w_base_WideOf
 unfold s_base_WideOf at h
 obtain ⟨hp0,hp1,_⟩ := conj_of hp
 exact (br' h (fun e0 h => (loop_gen (hp0 e0) h (fun y1 k1 hp h => by
 unfold st_base_WideOf_0 at h; obtain ⟨hp0,hp1,hp2,hp3,_⟩ := conj_of hp
 exact (br' h (fun e2 h => ⟨(hp0 e2),h⟩)
  (fun e2 h => ⟨(hp1 e2),(hp2 e2),(hp3 e2),h⟩)))))
  (fun e0 h => (loop_gen (hp1 e0) h (fun y3 k3 hp h => by
 unfold st_base_WideOf_1 at h; obtain ⟨hp0,hp1,hp2,hp3,_⟩ := conj_of hp
 exact (br' h (fun e4 h => ⟨(hp0 e4),h⟩)
  (fun e4 h => ⟨(hp1 e4),(hp2 e4),(hp3 e4),h⟩))))))
theorem v_size_tmod {n:Int} (h:v_fit n):s_base_Size (n.tmod 1000000000)=((n.natAbs % 1000000000:Nat):Int)∧IntKind.i64.wrap (n.tdiv 1000000000)=n.tdiv 1000000000∧(n.tdiv 1000000000).natAbs = n.natAbs / 1000000000 := by
 have h1:(n.tmod 1000000000).natAbs = n.natAbs % 1000000000 := by rw [Int.natAbs_tmod]; rfl
 have h2:(n.tdiv 1000000000).natAbs = n.natAbs / 1000000000 := by rw [Int.natAbs_tdiv]; rfl
 unfold v_fit at h
 refine ⟨?_,wrap_id (by omega) (by omega),h2⟩
 unfold s_base_Size
 rcases Int.lt_or_le (n.tmod 1000000000) 0 with c | c
 ·first
  | (rw [decide_eq_true c]; simp only [cond_true]; rw [wrap_id (by omega) (by omega)]; omega)
  | (rw [wrap_id (by omega) (by omega)]; omega)
 ·first
  | (rw [decide_eq_false (by omega)]; simp only [cond_false]; omega)
  | (rw [wrap_id (by omega) (by omega)]; omega)
theorem v_wof_loop {dd:Int×List Int} {st:Int×List Int→(Int×List Int) ⊕ (Int×List Int)} {sp:Int×List Int→List Prop} (s p0:Int) (hs:s = 1∧0≤p0 ∨ s = -1∧p0 < 0) (hf:v_fit p0)
  (hst:∀ y,st y = cond (y.1 != 0) (.inl (IntKind.i64.wrap (y.1.tdiv 1000000000),y.2 ++ [s_base_Size (y.1.tmod 1000000000)])) (.inr (v_wide (s * v_val y.2))))
  (hsp:∀ y,(y.1 ≠ 0→y.2.length≤2)→v_dgok y.2→y.2.length≤3→∀ p∈sp y,p):OkL st sp (p0,[])∧lpv dd st (p0,[])=v_wide p0 := by
 refine loop_is (fun (y:Int×List Int) => v_fit y.1∧v_dgok y.2∧y.2.length≤3∧(y.1.natAbs:Int) < v_pow (3 - y.2.length)∧v_val y.2 + v_pow y.2.length * y.1.natAbs = p0.natAbs) (fun (y:Int×List Int) => y.1.natAbs) (fun _ => v_wide p0) ?_ ⟨hf,(fun d hd => by cases hd),by simp,?_,?_⟩ (by unfold fuel; unfold v_fit at hf; simp only; omega)
 ·rintro ⟨n,l⟩ ⟨g1,g2,g3,g4,g5⟩
  simp only at g1 g2 g3 g4 g5
  have hl:n ≠ 0→l.length≤2 := fun hn => by
   rcases Nat.lt_or_ge 2 l.length with h | h
   ·rw [show 3 - l.length = 0 by omega,v_pow_0] at g4; omega
   ·exact h
  refine ⟨hsp _ hl g2 g3,?_⟩
  rw [hst]
  simp only
  rcases int0 n with ⟨z,e,_⟩ | ⟨z,e,_⟩ <;> rw [e]
  ·simp only [cond_false]
   subst z
   have e5:v_val l = p0.natAbs := by simpa using g5
   rw [e5]
   rcases hs with ⟨rfl,h⟩ | ⟨rfl,h⟩
   ·congr 1; omega
   ·congr 1; omega
  ·simp only [cond_true]
   have h2 := hl z
   obtain ⟨q1,q2,q3⟩ := v_size_tmod g1
   rw [q1,q2]
   have hdiv := Nat.div_add_mod n.natAbs 1000000000
   have hlt:n.natAbs / 1000000000 < n.natAbs := Nat.div_lt_self (by omega) (by decide)
   have hp:v_pow (3 - l.length)=1000000000 * v_pow (2 - l.length) := by rw [show 3 - l.length = 2 - l.length + 1 by omega,v_pow_s]
   refine ⟨⟨?_,v_dgok_snoc g2 ⟨by omega,by omega⟩,by simp; omega,?_,?_⟩,by rw [q3]; exact hlt,trivial⟩
   ·unfold v_fit at g1 ⊢; omega
   ·rw [q3,List.length_append,List.length_singleton,show 3 - (l.length + 1)=2 - l.length by omega]; omega
   ·rw [q3,v_val_snoc,List.length_append,List.length_singleton,v_pow_s,← g5]
    have:(n.natAbs:Int)=1000000000 * ((n.natAbs / 1000000000:Nat):Int) + ((n.natAbs % 1000000000:Nat):Int) := by omega
    rw [this]
    generalize ((n.natAbs / 1000000000:Nat):Int)=a
    generalize ((n.natAbs % 1000000000:Nat):Int)=b
    grind
 ·simp only [List.length_nil]
  have:v_pow (3 - 0)=1000000000000000000000000000 := by decide
  rw [this]
  unfold v_fit at hf; omega
 ·simp only [List.length_nil,v_pow_0]
  show 0 + 1 * (p0.natAbs:Int)=p0.natAbs
  omega
abbrev t_base_WideOf (p0:Int):Int×List Int := v_wide p0
abbrev qre_base_WideOf (p0:Int):List Prop := [v_fit p0]
theorem pp_base_WideOf (p0:Int) (hq:∀ p∈qre_base_WideOf p0,p):∀ p∈pre_base_WideOf p0,p := by
 have hf := (conj_of hq).1
 simp only [pre_base_WideOf,List.forall_mem_cons]
 refine ⟨fun h => ?_,fun h => ?_,by simp⟩
 ·exact (v_wof_loop (dd := (0,[])) (-1) p0 (.inr ⟨rfl,of_decide_eq_true h⟩) hf (fun y => rfl) (fun y h1 h2 h3 => by simp only [sp_base_WideOf_0,List.forall_mem_cons]; exact ⟨fun h => by have := h1 (by simpa using h); simp; omega,fun _ => .inr (.inl rfl),fun _ => h2,fun _ => by omega,by simp⟩)).1
 ·have := of_decide_eq_false h
  exact (v_wof_loop (dd := (0,[])) 1 p0 (.inl ⟨rfl,by omega⟩) hf (fun y => rfl) (fun y h1 h2 h3 => by simp only [sp_base_WideOf_1,List.forall_mem_cons]; exact ⟨fun h => by have := h1 (by simpa using h); simp; omega,fun _ => .inl rfl,fun _ => h2,fun _ => by omega,by simp⟩)).1
theorem tt_base_WideOf (p0:Int) (hq:∀ p∈qre_base_WideOf p0,p):s_base_WideOf p0 = t_base_WideOf p0 := by
 have hf := (conj_of hq).1
 unfold s_base_WideOf t_base_WideOf
 cases h:decide (p0 < 0)
 ·have h := of_decide_eq_false h
  have e:lpv (0,[]) (st_base_WideOf_1 p0) (p0,[])=v_wide p0 := (v_wof_loop (dd := (0,[])) (sp := fun _ => []) 1 p0 (.inl ⟨rfl,by omega⟩) hf (fun y => rfl) (fun y _ _ _ => by simp)).2
  rw [e,cond_false]
 ·have e:lpv (0,[]) (st_base_WideOf_0 p0) (p0,[])=v_wide p0 := (v_wof_loop (dd := (0,[])) (sp := fun _ => []) (-1) p0 (.inr ⟨rfl,of_decide_eq_true h⟩) hf (fun y => rfl) (fun y _ _ _ => by simp)).2
  rw [e,cond_true]

abbrev con_base_WideOf:Con := ⟨P_base_WideOf,R_base_WideOf,fun x => qre_base_WideOf x,fun x => t_base_WideOf x⟩
theorem ok_base_WideOf:ConOk Try.prog 127 con_base_WideOf := ⟨k_base_WideOf,fun x hx => ret_tf (ps := P_base_WideOf) (rs := R_base_WideOf) (x := x) (y := t_base_WideOf x) e_base_WideOf hC_base_WideOf (tf_of (w_base_WideOf_eq x (fun z => z = t_base_WideOf x)) (d_base_WideOf x (fun z => z = t_base_WideOf x) (pp_base_WideOf x hx) (tt_base_WideOf x hx)))⟩
/- base_WideFloor -/
def C_base_WideFloor:Cons := [(156,[],con_base_trimmed),(146,[],con_base_wideOf),(127,[],con_base_WideOf),(129,[],con_base_WideMul),(150,[],con_base_cmpDigits),(151,[],con_base_subDigits),(153,[],con_base_WideSub)]
theorem hC_base_WideFloor:ConsOk Try.prog C_base_WideFloor := ConsOk.cons ok_base_trimmed <| ConsOk.cons ok_base_wideOf <| ConsOk.cons ok_base_WideOf <| ConsOk.cons ok_base_WideMul <| ConsOk.cons ok_base_cmpDigits <| ConsOk.cons ok_base_subDigits <| ConsOk.cons ok_base_WideSub <| ConsOk.nil
abbrev q0_base_WideFloor (p0:(Int×(List Int))) (y1:(Int×((List Int)×(List Int)))) := (v_trim (((p0.2.getD y1.1.toNat zz0) :: ([]:List Int)) ++ y1.2.1))
def w_base_WideFloor (p0:(Int×(List Int))) (p1:(Int×(List Int))) (K:(Int×(List Int))→Prop):Prop :=
  ((((p0.1 == zz0)=true) →
 (K (zz0,([]:List Int)))) ∧
 (((p0.1 == zz0)=false) →
 ((zz0≤(List.length p0.2:Int)) ∧
  ((((8:Int) * (List.length p0.2:Int))≤281474976710656) ∧
  (((List.length p0.2:Int)≤9223372036854775807) ∧
  (∃ n0,(loopP (fun (y1:(Int×((List Int)×(List Int)))) k2 =>
   ((((decide (y1.1 ≥ zz0))=true) →
   ((zz0≤y1.1) ∧
    ((y1.1 < (List.length p0.2:Int)) ∧
    (((((List.length ((p0.2.getD y1.1.toNat zz0) :: ([]:List Int))) + y1.2.1.length) * 8)≤140737488355328) ∧
    (((List.length (((p0.2.getD y1.1.toNat zz0) :: ([]:List Int)) ++ y1.2.1))≤10000000000000) ∧
    (∃ n3,(loopP (fun (y4:(Int×Int)) k5 =>
     ((((decide (y4.2 < y4.1))=true) →
     ((v_sgn zz1 p1.2) ∧
      ((v_dgok p1.2) ∧
      ((p1.2.length≤10000000000000) ∧
      ((v_fit (wi (Int.tdiv (wi ((wi (y4.2 + y4.1)) + zz1)) zz2))) ∧
      ((v_wok (v_wide (zz1 * (v_val p1.2)))) ∧
      ((v_wok (v_wide (wi (Int.tdiv (wi ((wi (y4.2 + y4.1)) + zz1)) zz2)))) ∧
      ((v_can (v_wide ((v_wval (v_wide (zz1 * (v_val p1.2)))) * (v_wval (v_wide (wi (Int.tdiv (wi ((wi (y4.2 + y4.1)) + zz1)) zz2)))))).2) ∧
      ((v_can (q0_base_WideFloor p0 y1)) ∧
      ((((decide ((v_cmp (v_val (v_wide ((v_wval (v_wide (zz1 * (v_val p1.2)))) * (v_wval (v_wide (wi (Int.tdiv (wi ((wi (y4.2 + y4.1)) + zz1)) zz2)))))).2) (v_val (q0_base_WideFloor p0 y1)))≤zz0))=true) →
      (k5 (y4.1,(wi (Int.tdiv (wi ((wi (y4.2 + y4.1)) + zz1)) zz2))))) ∧
      (((decide ((v_cmp (v_val (v_wide ((v_wval (v_wide (zz1 * (v_val p1.2)))) * (v_wval (v_wide (wi (Int.tdiv (wi ((wi (y4.2 + y4.1)) + zz1)) zz2)))))).2) (v_val (q0_base_WideFloor p0 y1)))≤zz0))=false) →
      (k5 ((wi ((wi (Int.tdiv (wi ((wi (y4.2 + y4.1)) + zz1)) zz2)) - zz1)),y4.2))))))))))))) ∧
     (((decide (y4.2 < y4.1))=false) →
     ((zz0≤y1.1) ∧
      ((y1.1 < (List.length y1.2.2:Int)) ∧
      ((v_sgn zz1 p1.2) ∧
      ((v_dgok p1.2) ∧
      ((p1.2.length≤10000000000000) ∧
      ((v_fit y4.2) ∧
      ((v_wok (v_wide (zz1 * (v_val p1.2)))) ∧
      ((v_wok (v_wide y4.2)) ∧
      ((v_dgok (q0_base_WideFloor p0 y1)) ∧
      ((v_dgok (v_wide ((v_wval (v_wide (zz1 * (v_val p1.2)))) * (v_wval (v_wide y4.2)))).2) ∧
      (((List.length (q0_base_WideFloor p0 y1))≤5000000000000) ∧
      (((v_val (v_wide ((v_wval (v_wide (zz1 * (v_val p1.2)))) * (v_wval (v_wide y4.2)))).2)≤(v_val (q0_base_WideFloor p0 y1))) ∧
      (k2 ((wi (y1.1 - zz1)),((v_digs (Int.toNat ((v_val (q0_base_WideFloor p0 y1)) - (v_val (v_wide ((v_wval (v_wide (zz1 * (v_val p1.2)))) * (v_wval (v_wide y4.2)))).2)))),(List.set y1.2.2 y1.1.toNat y4.2))))))))))))))))))) n3 ((999999999:Int),zz0)))))))) ∧
   (((decide (y1.1 ≥ zz0))=false) →
   ((v_sgn p0.1 y1.2.2) ∧
    ((v_dgok y1.2.2) ∧
    ((y1.2.2.length≤10000000000000) ∧
    ((((decide (p0.1 < zz0))=true) →
    ((decide (p0.1 < zz0))=(decide (p0.1 < zz0)))) ∧
    ((((decide (p0.1 < zz0))=true) →
    ((decide (p0.1 < zz0))=(decide (p0.1 < zz0)))) ∧
    (((decide (p0.1 < zz0))=(decide (p0.1 < zz0))) ∧
    ((((cond (decide (p0.1 < zz0)) (decide ((List.length y1.2.1:Int) > zz0)) false)=true) →
    ((v_fit zz1) ∧
     ((v_wok (v_wide (p0.1 * (v_val y1.2.2)))) ∧
     ((v_wok (v_wide zz1)) ∧
     (K (v_wide ((v_wval (v_wide (p0.1 * (v_val y1.2.2)))) - (v_wval (v_wide zz1))))))))) ∧
    (((cond (decide (p0.1 < zz0)) (decide ((List.length y1.2.1:Int) > zz0)) false)=false) →
    (K (v_wide (p0.1 * (v_val y1.2.2))))))))))))))) n0 ((wi ((List.length p0.2:Int) - zz1)),(([]:List Int),(List.replicate (Int.toNat (List.length p0.2:Int)) zz0))))))))))
set_option maxHeartbeats 4000000 in
theorem w_base_WideFloor_eq (p0:(Int×(List Int))) (p1:(Int×(List Int))) (K:(Int×(List Int))→Prop):tfn F_base_WideFloor A_base_WideFloor C_base_WideFloor P_base_WideFloor R_base_WideFloor (p0,p1) K = w_base_WideFloor p0 p1 K := by kernel_rfl
def st_base_WideFloor_0 (p0:(Int×(List Int))) (p1:(Int×(List Int))) (y1:(Int×((List Int)×(List Int)))) (y3:(Int×Int)):(Int×Int) ⊕ ((Int×((List Int)×(List Int))) ⊕ (Int×(List Int))) :=
 (cond (decide (y3.2 < y3.1)) (cond (decide ((v_cmp (v_val (v_wide ((v_wval (v_wide ((1:Int) * (v_val p1.2)))) * (v_wval (v_wide (IntKind.i64.wrap (Int.tdiv (IntKind.i64.wrap ((IntKind.i64.wrap (y3.2 + y3.1)) + 1)) (2:Int))))))).2) (v_val (v_trim (((p0.2.getD y1.1.toNat 0) :: ([]:List Int)) ++ y1.2.1))))≤0)) (Sum.inl (y3.1,(IntKind.i64.wrap (Int.tdiv (IntKind.i64.wrap ((IntKind.i64.wrap (y3.2 + y3.1)) + 1)) (2:Int)))))
  (Sum.inl ((IntKind.i64.wrap ((IntKind.i64.wrap (Int.tdiv (IntKind.i64.wrap ((IntKind.i64.wrap (y3.2 + y3.1)) + 1)) (2:Int))) - 1)),y3.2)))
  (Sum.inr (Sum.inl ((IntKind.i64.wrap (y1.1 - 1)),((v_digs (Int.toNat ((v_val (v_trim (((p0.2.getD y1.1.toNat 0) :: ([]:List Int)) ++ y1.2.1))) - (v_val (v_wide ((v_wval (v_wide ((1:Int) * (v_val p1.2)))) * (v_wval (v_wide y3.2)))).2)))),(List.set y1.2.2 y1.1.toNat y3.2))))))
abbrev sp_base_WideFloor_0 (p0:(Int×(List Int))) (p1:(Int×(List Int))) (y1:(Int×((List Int)×(List Int)))) (y3:(Int×Int)):List Prop := [(((decide (y3.2 < y3.1))=true)→(v_sgn (1:Int) p1.2)),
  (((decide (y3.2 < y3.1))=true)→(v_dgok p1.2)),
  (((decide (y3.2 < y3.1))=true)→(p1.2.length≤10000000000000)),
  (((decide (y3.2 < y3.1))=true)→(v_fit (IntKind.i64.wrap (Int.tdiv (IntKind.i64.wrap ((IntKind.i64.wrap (y3.2 + y3.1)) + 1)) (2:Int))))),
  (((decide (y3.2 < y3.1))=true)→(v_wok (v_wide ((1:Int) * (v_val p1.2))))),
  (((decide (y3.2 < y3.1))=true)→(v_wok (v_wide (IntKind.i64.wrap (Int.tdiv (IntKind.i64.wrap ((IntKind.i64.wrap (y3.2 + y3.1)) + 1)) (2:Int)))))),
  (((decide (y3.2 < y3.1))=true)→(v_can (v_wide ((v_wval (v_wide ((1:Int) * (v_val p1.2)))) * (v_wval (v_wide (IntKind.i64.wrap (Int.tdiv (IntKind.i64.wrap ((IntKind.i64.wrap (y3.2 + y3.1)) + 1)) (2:Int))))))).2)),
  (((decide (y3.2 < y3.1))=true)→(v_can (v_trim (((p0.2.getD y1.1.toNat 0) :: ([]:List Int)) ++ y1.2.1)))),
  (((decide (y3.2 < y3.1))=false)→((0:Int)≤y1.1)),
  (((decide (y3.2 < y3.1))=false)→(y1.1 < (List.length y1.2.2:Int))),
  (((decide (y3.2 < y3.1))=false)→(v_sgn (1:Int) p1.2)),
  (((decide (y3.2 < y3.1))=false)→(v_dgok p1.2)),
  (((decide (y3.2 < y3.1))=false)→(p1.2.length≤10000000000000)),
  (((decide (y3.2 < y3.1))=false)→(v_fit y3.2)),
  (((decide (y3.2 < y3.1))=false)→(v_wok (v_wide ((1:Int) * (v_val p1.2))))),
  (((decide (y3.2 < y3.1))=false)→(v_wok (v_wide y3.2))),
  (((decide (y3.2 < y3.1))=false)→(v_dgok (v_trim (((p0.2.getD y1.1.toNat 0) :: ([]:List Int)) ++ y1.2.1)))),
  (((decide (y3.2 < y3.1))=false)→(v_dgok (v_wide ((v_wval (v_wide ((1:Int) * (v_val p1.2)))) * (v_wval (v_wide y3.2)))).2)),
  (((decide (y3.2 < y3.1))=false)→((List.length (v_trim (((p0.2.getD y1.1.toNat 0) :: ([]:List Int)) ++ y1.2.1)))≤5000000000000)),
  (((decide (y3.2 < y3.1))=false)→((v_val (v_wide ((v_wval (v_wide ((1:Int) * (v_val p1.2)))) * (v_wval (v_wide y3.2)))).2)≤(v_val (v_trim (((p0.2.getD y1.1.toNat 0) :: ([]:List Int)) ++ y1.2.1)))))]
def st_base_WideFloor_1 (p0:(Int×(List Int))) (p1:(Int×(List Int))) (y1:(Int×((List Int)×(List Int)))):(Int×((List Int)×(List Int))) ⊕ (Int×(List Int)) :=
 (cond (decide (y1.1 ≥ 0)) (lpv (Sum.inr ((0:Int),[])) (st_base_WideFloor_0 p0 p1 y1) ((999999999:Int),(0:Int)))
  (cond (cond (decide (p0.1 < 0)) (decide ((List.length y1.2.1:Int) > 0)) false) (Sum.inr (v_wide ((v_wval (v_wide (p0.1 * (v_val y1.2.2)))) - (v_wval (v_wide (1:Int))))))
  (Sum.inr (v_wide (p0.1 * (v_val y1.2.2))))))
abbrev sp_base_WideFloor_1 (p0:(Int×(List Int))) (p1:(Int×(List Int))) (y1:(Int×((List Int)×(List Int)))):List Prop := [(((decide (y1.1 ≥ 0))=true)→((0:Int)≤y1.1)),
  (((decide (y1.1 ≥ 0))=true)→(y1.1 < (List.length p0.2:Int))),
  (((decide (y1.1 ≥ 0))=true)→((((List.length ((p0.2.getD y1.1.toNat 0) :: ([]:List Int))) + y1.2.1.length) * 8)≤140737488355328)),
  (((decide (y1.1 ≥ 0))=true)→((List.length (((p0.2.getD y1.1.toNat 0) :: ([]:List Int)) ++ y1.2.1))≤10000000000000)),
  (((decide (y1.1 ≥ 0))=true)→(OkL (st_base_WideFloor_0 p0 p1 y1) (sp_base_WideFloor_0 p0 p1 y1) ((999999999:Int),(0:Int)))),
  (((decide (y1.1 ≥ 0))=false)→(v_sgn p0.1 y1.2.2)),
  (((decide (y1.1 ≥ 0))=false)→(v_dgok y1.2.2)),
  (((decide (y1.1 ≥ 0))=false)→(y1.2.2.length≤10000000000000)),
  (((decide (y1.1 ≥ 0))=false)→(((cond (decide (p0.1 < 0)) (decide ((List.length y1.2.1:Int) > 0)) false)=true)→(v_fit (1:Int)))),
  (((decide (y1.1 ≥ 0))=false)→(((cond (decide (p0.1 < 0)) (decide ((List.length y1.2.1:Int) > 0)) false)=true)→(v_wok (v_wide (p0.1 * (v_val y1.2.2)))))),
  (((decide (y1.1 ≥ 0))=false)→(((cond (decide (p0.1 < 0)) (decide ((List.length y1.2.1:Int) > 0)) false)=true)→(v_wok (v_wide (1:Int)))))]
def s_base_WideFloor (p0:(Int×(List Int))) (p1:(Int×(List Int))):(Int×(List Int)) :=
 (cond (p0.1 == 0) ((0:Int),([]:List Int))
  (lpv ((0:Int),[]) (st_base_WideFloor_1 p0 p1) ((IntKind.i64.wrap ((List.length p0.2:Int) - 1)),(([]:List Int),(List.replicate (Int.toNat (List.length p0.2:Int)) (0:Int))))))
abbrev pre_base_WideFloor (p0:(Int×(List Int))) (p1:(Int×(List Int))):List Prop := [(((p0.1 == 0)=false)→((0:Int)≤(List.length p0.2:Int))),
  (((p0.1 == 0)=false)→(((8:Int) * (List.length p0.2:Int))≤281474976710656)),
  (((p0.1 == 0)=false)→((List.length p0.2:Int)≤9223372036854775807)),
  (((p0.1 == 0)=false)→(OkL (st_base_WideFloor_1 p0 p1) (sp_base_WideFloor_1 p0 p1) ((IntKind.i64.wrap ((List.length p0.2:Int) - 1)),(([]:List Int),(List.replicate (Int.toNat (List.length p0.2:Int)) (0:Int))))))]
set_option maxHeartbeats 4000000 in
theorem d_base_WideFloor (p0:(Int×(List Int))) (p1:(Int×(List Int))) (K:(Int×(List Int))→Prop) (hp:∀ p∈pre_base_WideFloor p0 p1,p) (h:K (s_base_WideFloor p0 p1)):w_base_WideFloor p0 p1 K := by
 unfold w_base_WideFloor
 unfold s_base_WideFloor at h
 obtain ⟨hp0,hp1,hp2,hp3,_⟩ := conj_of hp
 exact (br' h (fun e0 h => h)
  (fun e0 h => ⟨(hp0 e0),(hp1 e0),(hp2 e0),(loop_gen (hp3 e0) h (fun y1 k1 hp h => by
 unfold st_base_WideFloor_1 at h; obtain ⟨hp0,hp1,hp2,hp3,hp4,hp5,hp6,hp7,hp8,hp9,hp10,_⟩ := conj_of hp
 exact (br' h (fun e2 h => ⟨(hp0 e2),(hp1 e2),(hp2 e2),(hp3 e2),(loop_gen (hp4 e2) h (fun y3 k3 hp h => by
 unfold st_base_WideFloor_0 at h; obtain ⟨hp0,hp1,hp2,hp3,hp4,hp5,hp6,hp7,hp8,hp9,hp10,hp11,hp12,hp13,hp14,hp15,hp16,hp17,hp18,hp19,_⟩ := conj_of hp
 exact (br' h (fun e4 h => ⟨(hp0 e4),(hp1 e4),(hp2 e4),(hp3 e4),(hp4 e4),(hp5 e4),(hp6 e4),(hp7 e4),(br' h (fun e5 h => h)
  (fun e5 h => h))⟩)
  (fun e4 h => ⟨(hp8 e4),(hp9 e4),(hp10 e4),(hp11 e4),(hp12 e4),(hp13 e4),(hp14 e4),(hp15 e4),(hp16 e4),(hp17 e4),(hp18 e4),(hp19 e4),h⟩))))⟩)
  (fun e2 h => ⟨(hp5 e2),(hp6 e2),(hp7 e2),rf,rf,rfl,(br' h (fun e6 h => ⟨(hp8 e2 e6),(hp9 e2 e6),(hp10 e2 e6),h⟩)
  (fun e6 h => h))⟩))))⟩))
theorem l_base_WideFloor_0 (p0 p1:Int×List Int) {b:Int} (hb:0 < b) (eb:p1.2 = (v_wide b).2) (lb:v_dl b≤500000000000) (d0:v_dgok p0.2) (j:Nat) (hj:j < p0.2.length) (hl:p0.2.length≤1000000000000) (L:Int) (hL:0≤L∧L < b) (q:List Int) (hq:q.length = p0.2.length) :
  OkL (st_base_WideFloor_0 p0 p1 ((j:Int),(v_digs L.toNat,q))) (sp_base_WideFloor_0 p0 p1 ((j:Int),(v_digs L.toNat,q))) (999999999,0)∧lpv (.inr (0,[])) (st_base_WideFloor_0 p0 p1 ((j:Int),(v_digs L.toNat,q))) (999999999,0) = .inl ((j:Int) - 1,(v_digs ((p0.2.getD j 0 + 1000000000 * L) % b).toNat,q.set j ((p0.2.getD j 0 + 1000000000 * L) / b))) := by
 have hd := v_dgok_get d0 j
 obtain ⟨R,hR⟩ : ∃ R,R = p0.2.getD j 0 + 1000000000 * L := ⟨_,rfl⟩
 have hR0:0≤R := by omega
 have gd:v_dgok (p0.2.getD j 0 :: v_digs L.toNat) := fun x hx => by
  rcases List.mem_cons.1 hx with rfl | hx
  ·exact hd
  ·exact v_digs_ok _ x hx
 have hv:v_val (p0.2.getD j 0 :: v_digs L.toNat)=R := by
  show p0.2.getD j 0 + 1000000000 * v_val (v_digs L.toNat)=R
  rw [v_digs_val,hR]; omega
 have hT:v_trim ([p0.2.getD j 0] ++ v_digs L.toNat)=v_digs R.toNat := by
  rw [List.singleton_append,v_trim_is gd,hv]
 have hTv:v_val (v_digs R.toNat)=R := by rw [v_digs_val]; omega
 have hRb:R < 1000000000 * b := by omega
 have dR:(v_digs R.toNat).length≤500000000001 := by
  have h1:(v_digs R.toNat).length = v_dl R := by unfold v_dl; congr 2; omega
  have h2 := v_dl_mono (m := R) (n := 1000000000 * b) (by omega)
  have h3 := v_dl_mul 999999999 b
  have h4:v_dl 1000000000≤2 := v_digs_len (by decide)
  have h5 := v_dl_mono (m := R) (n := 999999999 * b + b) (by omega)
  have h6 := v_dl_mul 1000000000 b
  rw [h1]
  have h7:v_dl R≤v_dl b + 1 := by
   refine v_digs_len ?_
   have h8 := v_digs_high b.natAbs
   unfold v_dl
   rw [v_pow_s]; omega
  omega
 have hbv:v_val p1.2 = b := by rw [eb,v_wide_val]; omega
 have hbl:p1.2.length≤500000000000 := by rw [eb]; exact lb
 have hbg:v_dgok p1.2 := by rw [eb]; exact v_wide_ok b
 have e1 := Int.mul_ediv_add_emod R b
 have r1 := Int.emod_nonneg R (show b ≠ 0 by omega)
 have r2 := Int.emod_lt_of_pos R hb
 have hq1:R / b < 1000000000 := Int.ediv_lt_of_lt_mul hb (by omega)
 have hq0:0≤R / b := Int.ediv_nonneg hR0 (by omega)
 have wb:v_wok (v_wide b) := v_wok_of (by omega)
 have dm:∀ m:Int,0≤m∧m≤999999999→v_dl m≤1 := fun m hm => v_digs_len (by rw [v_pow_s,v_pow_0]; omega)
 have wm:∀ m:Int,0≤m∧m≤999999999→v_wok (v_wide m) := fun m hm => v_wok_of (by have := dm m hm; omega)
 have hval:∀ m:Int,0≤m∧m≤999999999→v_val (v_wide (b * m)).2 = b * m := fun m hm => by
  rw [v_wide_val]; have := Int.mul_nonneg (show 0≤b by omega) hm.1; omega
 have hcan:∀ m:Int,0≤m∧m≤999999999→v_can (v_wide (b * m)).2 := fun m hm => v_wide_can (by have := dm m hm; have := v_dl_mul b m; omega)
 have hcR:v_can (v_digs R.toNat) := ⟨by rw [hTv],by omega⟩
 rw [← hR]
 refine @loop_is (Int×Int) ((Int×(List Int×List Int)) ⊕ (Int×List Int)) (.inr (0,[])) (st_base_WideFloor_0 p0 p1 ((j:Int),(v_digs L.toNat,q))) (sp_base_WideFloor_0 p0 p1 ((j:Int),(v_digs L.toNat,q))) (fun (y:Int×Int) => (0≤y.2∧y.2≤R / b)∧R / b≤y.1∧y.1≤999999999) (fun (y:Int×Int) => (y.1 - y.2).toNat) (fun _ => .inl ((j:Int) - 1,(v_digs (R % b).toNat,q.set j (R / b)))) ?_ (999999999,0) ⟨⟨Int.le_refl _,hq0⟩,by simp only; omega,Int.le_refl _⟩ (by unfold fuel; simp only; omega)
 rintro ⟨hi,lo⟩ ⟨⟨g1,g2⟩,g3,g4⟩
 simp only at g1 g2 g3 g4
 have hw1:IntKind.i64.wrap (Int.tdiv (IntKind.i64.wrap (IntKind.i64.wrap (lo + hi) + 1)) 2)=(lo + hi + 1) / 2 := by
  rw [w_add_l,wrap_id (n := lo + hi + 1) (by omega) (by omega),Int.tdiv_eq_ediv_of_nonneg (by omega),wrap_id (by omega) (by omega)]
 simp only [sp_base_WideFloor_0,st_base_WideFloor_0,hw1,Int.toNat_natCast,hT,hTv,hbv,Int.one_mul,v_wval_wide,List.forall_mem_cons]
 rcases Int.lt_or_le lo hi with c | c
 ·have hm:0≤(lo + hi + 1) / 2∧(lo + hi + 1) / 2≤999999999 := by omega
  rw [decide_eq_true c,hval _ hm]
  have h1 := hcan _ hm
  have h2 := wm _ hm
  have h3:v_fit ((lo + hi + 1) / 2) := by unfold v_fit; omega
  refine ⟨⟨fun _ => .inl rfl,fun _ => hbg,fun _ => by omega,fun _ => h3,fun _ => wb,fun _ => h2,fun _ => h1,fun _ => hcR,?_⟩,?_⟩
  ·and_intros <;> first | (intro p hp; cases hp; done) | (intro h; cases h; done)
  rw [cond_true]
  rcases Int.lt_or_le R (b * ((lo + hi + 1) / 2)) with k | k
  ·rw [decide_eq_false (by have := v_cmp_gt (a := b * ((lo + hi + 1) / 2)) (b := R); omega),cond_false,wrap_id (n := (lo + hi + 1) / 2 - 1) (by omega) (by omega)]
   have:R / b < (lo + hi + 1) / 2 := Int.ediv_lt_of_lt_mul hb (by rw [Int.mul_comm]; exact k)
   exact ⟨⟨⟨g1,g2⟩,by simp only; omega,by simp only; omega⟩,by simp only; omega,trivial⟩
  ·rw [decide_eq_true (by have := v_cmp_gt (a := b * ((lo + hi + 1) / 2)) (b := R); omega),cond_true]
   have:(lo + hi + 1) / 2≤R / b := Int.le_ediv_of_mul_le hb (by rw [Int.mul_comm]; exact k)
   exact ⟨⟨⟨by simp only; omega,this⟩,g3,g4⟩,by simp only; omega,trivial⟩
 ·have hlo:lo = R / b := by omega
  have hm:0≤lo∧lo≤999999999 := by omega
  rw [decide_eq_false (by omega),hval _ hm]
  have h2 := wm _ hm
  have h3:v_fit lo := by unfold v_fit; omega
  have h4:v_dgok (v_wide (b * lo)).2 := v_wide_ok _
  refine ⟨?_,?_⟩
  ·refine ⟨fun h => (by cases h),fun h => (by cases h),fun h => (by cases h),fun h => (by cases h),fun h => (by cases h),fun h => (by cases h),fun h => (by cases h),fun h => (by cases h),fun _ => by omega,fun _ => by omega,fun _ => .inl rfl,fun _ => hbg,fun _ => by omega,fun _ => h3,fun _ => wb,fun _ => h2,fun _ => v_digs_ok _,fun _ => h4,fun _ => by omega,fun _ => by rw [hlo]; omega,by simp⟩
  ·rw [cond_false,wrap_id (n := (j:Int) - 1) (by omega) (by omega),hlo]
   simp only
   congr 4
   omega
theorem v_neg_ediv {n b:Int} (hb:0 < b):(-n) / b = cond (decide (n % b = 0)) (-(n / b)) (-(n / b) - 1) := by
 have e := Int.mul_ediv_add_emod n b
 have r1 := Int.emod_nonneg n (show b ≠ 0 by omega)
 have r2 := Int.emod_lt_of_pos n hb
 rcases Decidable.em (n % b = 0) with h | h
 ·rw [decide_eq_true h,cond_true]
  exact ediv_is (r := 0) hb (by rw [Int.mul_neg]; omega) (Int.le_refl _) hb
 ·rw [decide_eq_false h,cond_false]
  exact ediv_is (r := b - n % b) hb (by rw [Int.mul_sub,Int.mul_neg]; omega) (by omega) (by omega)
theorem l_base_WideFloor_1 (p0 p1:Int×List Int) (h1:v_wok p0) (h2:v_wok p1) (h3:0 < v_wval p1) (h4:p1.2.length≤500000000000):OkL (st_base_WideFloor_1 p0 p1) (sp_base_WideFloor_1 p0 p1) (IntKind.i64.wrap ((p0.2.length:Int) - 1),([],List.replicate p0.2.length 0))∧lpv (0,[]) (st_base_WideFloor_1 p0 p1) (IntKind.i64.wrap ((p0.2.length:Int) - 1),([],List.replicate p0.2.length 0))=v_wide (v_wval p0 / v_wval p1) := by
 have l1 := h1.ln
 obtain ⟨a,ea,da⟩ := h1.ex
 obtain ⟨b,eb,_⟩ := h2.ex
 have eb2:p1.2 = (v_wide b).2 := by rw [eb]
 have db:v_dl b≤500000000000 := by rw [eb2] at h4; exact h4
 have wb:v_wval p1 = b := by rw [eb,v_wval_wide]
 have wa:v_wval p0 = a := by rw [ea,v_wval_wide]
 rw [wb] at h3
 rw [wa,wb]
 have d1:v_dgok p0.2 := by rw [ea]; exact v_wide_ok a
 have va:v_val p0.2 = a.natAbs := by rw [ea]; exact v_wide_val a
 have s0:p0.1 = a.sign := by rw [ea]; rfl
 rw [wrap_id (n := (p0.2.length:Int) - 1) (by omega) (by omega)]
 refine @down_is (List Int×List Int) (Int×List Int×List Int) (Int×List Int) (0,[]) (st_base_WideFloor_1 p0 p1) (sp_base_WideFloor_1 p0 p1) (fun i t => (i,t)) p0.2.length
  (fun j t => t.1 = v_digs (v_val (p0.2.drop j) % b).toNat∧t.2.length = p0.2.length∧v_dgok t.2∧v_val (t.2.drop j)=v_val (p0.2.drop j) / b) (fun _ _ => v_wide (a / b)) (by omega) ?_ ?_ ([],List.replicate p0.2.length 0) ⟨?_,by simp,?_,?_⟩
 ·rintro ⟨left,q⟩ ⟨g1,g2,g3,g4⟩
  simp only [List.drop_zero] at g1 g2 g3 g4
  rw [va] at g1 g4
  have q0:0≤(a.natAbs:Int) / b := Int.ediv_nonneg (by omega) (by omega)
  have r1 := Int.emod_nonneg (a.natAbs:Int) (show b ≠ 0 by omega)
  have qle:(a.natAbs:Int) / b≤a.natAbs := Int.ediv_le_self _ (by omega)
  have hs:v_sgn a.sign q := by
   rcases v_sign3 a with ⟨_,e,_⟩ | ⟨z,e,_⟩ | ⟨_,e,_⟩ <;> rw [e]
   ·exact .inr (.inl rfl)
   ·right; right; rw [g4,z]; simp
   ·exact .inl rfl
  have wq:v_wok (v_wide (a.sign * v_val q)) := v_wok_of (Nat.le_trans (v_dl_mono (n := a) (by
   rw [g4]
   rcases v_sign3 a with ⟨_,e,_⟩ | ⟨z,e,_⟩ | ⟨_,e,_⟩ <;> rw [e] <;> omega)) da)
  have w1:v_wok (v_wide 1) := v_wok_of (Nat.le_trans (v_digs_len (k := 1) (by decide)) (by decide))
  simp only [sp_base_WideFloor_1,st_base_WideFloor_1,List.forall_mem_cons,show decide ((-1:Int) ≥ 0)=false from rfl,cond_false,s0,v_wval_wide]
  refine ⟨⟨fun h => (by cases h),fun h => (by cases h),fun h => (by cases h),fun h => (by cases h),fun h => (by cases h),fun _ => hs,fun _ => g3,fun _ => by omega,fun _ _ => by unfold v_fit; omega,fun _ _ => wq,fun _ _ => w1,by simp⟩,?_⟩
  rw [g4]
  rcases v_sign3 a with ⟨ha,e,_⟩ | ⟨z,e,_⟩ | ⟨ha,e,_⟩ <;> rw [e]
  ·have en:a = -(a.natAbs:Int) := by omega
   have hn := v_neg_ediv (n := (a.natAbs:Int)) h3
   rw [← en] at hn
   rw [hn,show decide ((-1:Int) < 0)=true from rfl,cond_true]
   rcases Decidable.em ((a.natAbs:Int) % b = 0) with k | k
   ·rw [decide_eq_true k,g1,k,show (0:Int).toNat = 0 from rfl,v_digs_0]
    show Sum.inr _ = Sum.inr _
    congr 2
    rw [cond_true]; omega
   ·have hpos:(left.length:Int) > 0 := by rw [g1,v_digs_pos (by omega),List.length_cons]; omega
    rw [decide_eq_false k,decide_eq_true hpos,cond_true,cond_false]
    congr 2; omega
  ·rw [z]; simp
  ·rw [show decide ((1:Int) < 0)=false from rfl,cond_false,cond_false,Int.one_mul]
   congr 3; omega
 ·rintro j ⟨left,q⟩ hj ⟨g1,g2,g3,g4⟩
  simp only at g1 g2 g3 g4
  have nA := v_val_nn (v_dgok_drop d1 (j + 1))
  have rA := Int.emod_nonneg (v_val (p0.2.drop (j + 1))) (show b ≠ 0 by omega)
  have rB := Int.emod_lt_of_pos (v_val (p0.2.drop (j + 1))) h3
  obtain ⟨i1,i2⟩ := l_base_WideFloor_0 p0 p1 h3 eb2 db d1 j hj l1 (v_val (p0.2.drop (j + 1)) % b) ⟨rA,rB⟩ q g2
  have hd:decide ((j:Int) ≥ 0)=true := decide_eq_true (by omega)
  have hlen:left.length≤1000000000000 := by
   rw [g1]
   have := v_dl_mono (m := v_val (p0.2.drop (j + 1)) % b) (n := b) (by omega)
   have e:(v_digs (v_val (p0.2.drop (j + 1)) % b).toNat).length = v_dl (v_val (p0.2.drop (j + 1)) % b) := by unfold v_dl; congr 2; omega
   omega
  subst g1
  simp only [sp_base_WideFloor_1,st_base_WideFloor_1,List.forall_mem_cons,hd,cond_true]
  refine ⟨⟨fun _ => by omega,fun _ => by omega,fun _ => by simp; omega,fun _ => by simp; omega,fun _ => i1,fun h => (by cases h),fun h => (by cases h),fun h => (by cases h),fun h => (by cases h),fun h => (by cases h),fun h => (by cases h),by simp⟩,.inl ⟨_,i2,?_,trivial⟩⟩
  have hA:v_val (p0.2.drop j)=p0.2.getD j 0 + 1000000000 * v_val (p0.2.drop (j + 1)) := by rw [drop_getD 0 hj]; rfl
  have eA := Int.mul_ediv_add_emod (v_val (p0.2.drop (j + 1))) b
  have hA2:v_val (p0.2.drop j)=(p0.2.getD j 0 + 1000000000 * (v_val (p0.2.drop (j + 1)) % b)) + b * (1000000000 * (v_val (p0.2.drop (j + 1)) / b)) := by
   rw [hA]
   generalize v_val (p0.2.drop (j + 1)) / b = Q at *
   generalize v_val (p0.2.drop (j + 1)) % b = L at *
   rw [← eA]; grind
  have hdg := v_dgok_get d1 j
  have hR0:0≤(p0.2.getD j 0 + 1000000000 * (v_val (p0.2.drop (j + 1)) % b)) / b := Int.ediv_nonneg (by omega) (by omega)
  have hR1:(p0.2.getD j 0 + 1000000000 * (v_val (p0.2.drop (j + 1)) % b)) / b < 1000000000 := Int.ediv_lt_of_lt_mul h3 (by omega)
  refine ⟨?_,by rw [List.length_set]; exact g2,v_dgok_set g3 ⟨hR0,hR1⟩,?_⟩
  ·show v_digs _ = _
   rw [hA2,Int.add_mul_emod_self_left]
  ·have ed:(q.set j ((p0.2.getD j 0 + 1000000000 * (v_val (p0.2.drop (j + 1)) % b)) / b)).drop j = (p0.2.getD j 0 + 1000000000 * (v_val (p0.2.drop (j + 1)) % b)) / b :: q.drop (j + 1) := by
    rw [drop_getD 0 (by rw [List.length_set]; omega),gd_set (by omega),if_pos rfl]
    congr 1
    rw [List.drop_set]
    simp
   show v_val ((q.set j _).drop j)=_
   rw [ed]
   show (p0.2.getD j 0 + 1000000000 * (v_val (p0.2.drop (j + 1)) % b)) / b + 1000000000 * v_val (q.drop (j + 1))=_
   rw [g4,hA2,Int.add_mul_ediv_left _ _ (by omega)]
 ·rw [List.drop_length]
  have e:v_val ([]:List Int)=0 := rfl
  rw [e,Int.zero_emod]
  show []=v_digs 0
  rw [v_digs_0]
 ·intro d hd
  rw [List.eq_of_mem_replicate hd]; exact ⟨Int.le_refl _,by decide⟩
 ·rw [List.drop_length,show List.drop p0.2.length (List.replicate p0.2.length (0:Int))=[] from by rw [List.drop_replicate,Nat.sub_self]; rfl]
  show (0:Int)=0 / b
  rw [Int.zero_ediv]
abbrev t_base_WideFloor (p0:Int×List Int) (p1:Int×List Int):Int×List Int := v_wide (v_wval p0 / v_wval p1)
abbrev qre_base_WideFloor (p0:Int×List Int) (p1:Int×List Int):List Prop := [v_wok p0,v_wok p1,0 < v_wval p1,p1.2.length≤500000000000]
theorem pp_base_WideFloor (p0:Int×List Int) (p1:Int×List Int) (hq:∀ p∈qre_base_WideFloor p0 p1,p):∀ p∈pre_base_WideFloor p0 p1,p := by
 obtain ⟨h1,h2,h3,h4,_⟩ := conj_of hq
 have l1 := h1.ln
 simp only [pre_base_WideFloor,List.forall_mem_cons,Int.toNat_natCast]
 exact ⟨fun _ => by omega,fun _ => by omega,fun _ => by omega,fun _ => (l_base_WideFloor_1 p0 p1 h1 h2 h3 h4).1,by simp⟩
theorem tt_base_WideFloor (p0:Int×List Int) (p1:Int×List Int) (hq:∀ p∈qre_base_WideFloor p0 p1,p):s_base_WideFloor p0 p1 = t_base_WideFloor p0 p1 := by
 obtain ⟨h1,h2,h3,h4,_⟩ := conj_of hq
 have l1 := h1.ln
 have e := (l_base_WideFloor_1 p0 p1 h1 h2 h3 h4).2
 unfold s_base_WideFloor t_base_WideFloor
 rw [Int.toNat_natCast,e]
 obtain ⟨a,rfl,_⟩ := h1.ex
 rw [v_wval_wide,v_wide_1]
 rcases v_sign3 a with ⟨_,_,f⟩ | ⟨z,_,f⟩ | ⟨_,_,f⟩ <;> rw [f]
 ·rfl
 ·subst z
  rw [cond_true,Int.zero_ediv]
  unfold v_wide
  rw [show Int.natAbs 0 = 0 from rfl,v_digs_0]; rfl
 ·rfl

abbrev con_base_WideFloor:Con := ⟨P_base_WideFloor,R_base_WideFloor,fun x => qre_base_WideFloor x.1 x.2,fun x => t_base_WideFloor x.1 x.2⟩
theorem ok_base_WideFloor:ConOk Try.prog 148 con_base_WideFloor := ⟨k_base_WideFloor,fun x hx => ret_tf (ps := P_base_WideFloor) (rs := R_base_WideFloor) (x := x) (y := t_base_WideFloor x.1 x.2) e_base_WideFloor hC_base_WideFloor (tf_of (w_base_WideFloor_eq x.1 x.2 (fun z => z = t_base_WideFloor x.1 x.2)) (d_base_WideFloor x.1 x.2 (fun z => z = t_base_WideFloor x.1 x.2) (pp_base_WideFloor x.1 x.2 hx) (tt_base_WideFloor x.1 x.2 hx)))⟩
/- base_wideSize -/
def C_base_wideSize:Cons := [(141,[],con_base_WideNeg)]
theorem hC_base_wideSize:ConsOk Try.prog C_base_wideSize := ConsOk.cons ok_base_WideNeg <| ConsOk.nil
def w_base_wideSize (p0:(Int×(List Int))) (K:(Int×(List Int))→Prop):Prop :=
  ((((decide (p0.1 < 0))=true) →
 ((v_wok p0) ∧
  (K (v_wide (-(v_wval p0)))))) ∧
 (((decide (p0.1 < 0))=false) →
 (K p0)))
set_option maxHeartbeats 4000000 in
theorem w_base_wideSize_eq (p0:(Int×(List Int))) (K:(Int×(List Int))→Prop):tfn F_base_wideSize A_base_wideSize C_base_wideSize P_base_wideSize R_base_wideSize p0 K = w_base_wideSize p0 K := by kernel_rfl
def s_base_wideSize (p0:(Int×(List Int))):(Int×(List Int)) :=
 (cond (decide (p0.1 < 0)) (v_wide (-(v_wval p0)))
  p0)
abbrev pre_base_wideSize (p0:(Int×(List Int))):List Prop := [(((decide (p0.1 < 0))=true)→(v_wok p0))]
set_option maxHeartbeats 4000000 in
theorem d_base_wideSize (p0:(Int×(List Int))) (K:(Int×(List Int))→Prop) (hp:∀ p∈pre_base_wideSize p0,p) (h:K (s_base_wideSize p0)):w_base_wideSize p0 K := by
 unfold w_base_wideSize
 unfold s_base_wideSize at h
 obtain ⟨hp0,_⟩ := conj_of hp
 exact (br' h (fun e0 h => ⟨(hp0 e0),h⟩)
  (fun e0 h => h))
def v_abs (n:Int):Int := n.natAbs
abbrev t_base_wideSize (p0:Int×List Int):Int×List Int := v_wide (v_abs (v_wval p0))
abbrev qre_base_wideSize (p0:Int×List Int):List Prop := [v_wok p0]
theorem pp_base_wideSize (p0:Int×List Int) (hq:∀ p∈qre_base_wideSize p0,p):∀ p∈pre_base_wideSize p0,p := by
 obtain ⟨h,_⟩ := conj_of hq
 simp only [pre_base_wideSize,List.forall_mem_cons]
 exact ⟨fun _ => h,by simp⟩
theorem tt_base_wideSize (p0:Int×List Int) (hq:∀ p∈qre_base_wideSize p0,p):s_base_wideSize p0 = t_base_wideSize p0 := by
 obtain ⟨n,rfl,h⟩ := (conj_of hq).1.ex
 unfold s_base_wideSize t_base_wideSize v_abs
 rw [v_wval_wide,v_wide_1]
 rcases v_sign3 n with ⟨k,e,_⟩ | ⟨k,e,_⟩ | ⟨k,e,_⟩ <;> rw [e]
 ·show v_wide (-n)=_
  congr 1; omega
 ·subst k; rfl
 ·show v_wide n = _
  congr 1; omega

abbrev con_base_wideSize:Con := ⟨P_base_wideSize,R_base_wideSize,fun x => qre_base_wideSize x,fun x => t_base_wideSize x⟩
theorem ok_base_wideSize:ConOk Try.prog 157 con_base_wideSize := ⟨k_base_wideSize,fun x hx => ret_tf (ps := P_base_wideSize) (rs := R_base_wideSize) (x := x) (y := t_base_wideSize x) e_base_wideSize hC_base_wideSize (tf_of (w_base_wideSize_eq x (fun z => z = t_base_wideSize x)) (d_base_wideSize x (fun z => z = t_base_wideSize x) (pp_base_wideSize x hx) (tt_base_wideSize x hx)))⟩
/- base_WideSign -/
def C_base_WideSign:Cons := []
theorem hC_base_WideSign:ConsOk Try.prog C_base_WideSign := ConsOk.nil
def w_base_WideSign (p0:(Int×(List Int))) (K:Int→Prop):Prop :=
  (K p0.1)
set_option maxHeartbeats 4000000 in
theorem w_base_WideSign_eq (p0:(Int×(List Int))) (K:Int→Prop):tfn F_base_WideSign A_base_WideSign C_base_WideSign P_base_WideSign R_base_WideSign p0 K = w_base_WideSign p0 K := by kernel_rfl
def s_base_WideSign (p0:(Int×(List Int))):Int :=
 p0.1
abbrev pre_base_WideSign (_p0:(Int×(List Int))):List Prop := []
set_option maxHeartbeats 4000000 in
theorem d_base_WideSign (p0:(Int×(List Int))) (K:Int→Prop) (_hp:∀ p∈pre_base_WideSign p0,p) (h:K (s_base_WideSign p0)):w_base_WideSign p0 K := by
 unfold w_base_WideSign
 unfold s_base_WideSign at h
 exact h
abbrev con_base_WideSign:Con := ⟨P_base_WideSign,R_base_WideSign,fun x => pre_base_WideSign x,fun x => s_base_WideSign x⟩
theorem ok_base_WideSign:ConOk Try.prog 139 con_base_WideSign := ⟨k_base_WideSign,fun x hx => ret_tf (ps := P_base_WideSign) (rs := R_base_WideSign) (x := x) (y := s_base_WideSign x) e_base_WideSign hC_base_WideSign (tf_of (w_base_WideSign_eq x (fun z => z = s_base_WideSign x)) (d_base_WideSign x (fun z => z = s_base_WideSign x) hx rfl))⟩
/- base_wideGcd -/
def C_base_wideGcd:Cons := [(157,[],con_base_wideSize),(139,[],con_base_WideSign),(148,[],con_base_WideFloor),(129,[],con_base_WideMul),(153,[],con_base_WideSub)]
theorem hC_base_wideGcd:ConsOk Try.prog C_base_wideGcd := ConsOk.cons ok_base_wideSize <| ConsOk.cons ok_base_WideSign <| ConsOk.cons ok_base_WideFloor <| ConsOk.cons ok_base_WideMul <| ConsOk.cons ok_base_WideSub <| ConsOk.nil
def w_base_wideGcd (p0:(Int×(List Int))) (p1:(Int×(List Int))) (K:(Int×(List Int))→Prop):Prop :=
  ((v_wok p0) ∧
 ((v_wok p1) ∧
 (∃ n0,(loopP (fun (y1:((Int×(List Int))×(Int×(List Int)))) k2 =>
  ((((y1.2.1 != 0)=true) →
  ((v_wok y1.1) ∧
   ((v_wok y1.2) ∧
   (((0:Int) < (v_wval y1.2)) ∧
   ((y1.2.2.length≤500000000000) ∧
   ((v_wok (v_wide ((v_wval y1.1) / (v_wval y1.2)))) ∧
   ((v_wok y1.2) ∧
   ((v_wok y1.1) ∧
   ((v_wok (v_wide ((v_wval (v_wide ((v_wval y1.1) / (v_wval y1.2)))) * (v_wval y1.2)))) ∧
   (k2 (y1.2,(v_wide ((v_wval y1.1) - (v_wval (v_wide ((v_wval (v_wide ((v_wval y1.1) / (v_wval y1.2)))) * (v_wval y1.2))))))))))))))))) ∧
  (((y1.2.1 != 0)=false) →
  (K y1.1)))) n0 ((v_wide (v_abs (v_wval p0))),(v_wide (v_abs (v_wval p1))))))))
set_option maxHeartbeats 4000000 in
theorem w_base_wideGcd_eq (p0:(Int×(List Int))) (p1:(Int×(List Int))) (K:(Int×(List Int))→Prop):tfn F_base_wideGcd A_base_wideGcd C_base_wideGcd P_base_wideGcd R_base_wideGcd (p0,p1) K = w_base_wideGcd p0 p1 K := by kernel_rfl
def st_base_wideGcd_0 (_p0:(Int×(List Int))) (_p1:(Int×(List Int))) (y0:((Int×(List Int))×(Int×(List Int)))):((Int×(List Int))×(Int×(List Int))) ⊕ (Int×(List Int)) :=
 (cond (y0.2.1 != 0) (Sum.inl (y0.2,(v_wide ((v_wval y0.1) - (v_wval (v_wide ((v_wval (v_wide ((v_wval y0.1) / (v_wval y0.2)))) * (v_wval y0.2))))))))
  (Sum.inr y0.1))
abbrev sp_base_wideGcd_0 (_p0:(Int×(List Int))) (_p1:(Int×(List Int))) (y0:((Int×(List Int))×(Int×(List Int)))):List Prop := [(((y0.2.1 != 0)=true)→(v_wok y0.1)),
  (((y0.2.1 != 0)=true)→(v_wok y0.2)),
  (((y0.2.1 != 0)=true)→((0:Int) < (v_wval y0.2))),
  (((y0.2.1 != 0)=true)→(y0.2.2.length≤500000000000)),
  (((y0.2.1 != 0)=true)→(v_wok (v_wide ((v_wval y0.1) / (v_wval y0.2))))),
  (((y0.2.1 != 0)=true)→(v_wok (v_wide ((v_wval (v_wide ((v_wval y0.1) / (v_wval y0.2)))) * (v_wval y0.2)))))]
def s_base_wideGcd (p0:(Int×(List Int))) (p1:(Int×(List Int))):(Int×(List Int)) :=
 (lpv ((0:Int),[]) (st_base_wideGcd_0 p0 p1) ((v_wide (v_abs (v_wval p0))),(v_wide (v_abs (v_wval p1)))))
abbrev pre_base_wideGcd (p0:(Int×(List Int))) (p1:(Int×(List Int))):List Prop := [(v_wok p0),
  (v_wok p1),
  (OkL (st_base_wideGcd_0 p0 p1) (sp_base_wideGcd_0 p0 p1) ((v_wide (v_abs (v_wval p0))),(v_wide (v_abs (v_wval p1)))))]
set_option maxHeartbeats 4000000 in
theorem d_base_wideGcd (p0:(Int×(List Int))) (p1:(Int×(List Int))) (K:(Int×(List Int))→Prop) (hp:∀ p∈pre_base_wideGcd p0 p1,p) (h:K (s_base_wideGcd p0 p1)):w_base_wideGcd p0 p1 K := by
 unfold w_base_wideGcd
 unfold s_base_wideGcd at h
 obtain ⟨hp0,hp1,hp2,_⟩ := conj_of hp
 exact ⟨(hp0),(hp1),(loop_gen (hp2) h (fun y0 k0 hp h => by
 unfold st_base_wideGcd_0 at h; obtain ⟨hp0,hp1,hp2,hp3,hp4,hp5,_⟩ := conj_of hp
 exact (br' h (fun e1 h => ⟨(hp0 e1),(hp1 e1),(hp2 e1),(hp3 e1),(hp4 e1),(hp1 e1),(hp0 e1),(hp5 e1),h⟩)
  (fun e1 h => h))))⟩
theorem l_base_wideGcd_0 (p0 p1:Int×List Int) (h1:v_wok p0) (h2:v_wok p1) (l1:p0.2.length≤400000000000) (l2:p1.2.length≤400000000000):OkL (st_base_wideGcd_0 p0 p1) (sp_base_wideGcd_0 p0 p1) (v_wide (v_abs (v_wval p0)),v_wide (v_abs (v_wval p1)))∧lpv (0,[]) (st_base_wideGcd_0 p0 p1) (v_wide (v_abs (v_wval p0)),v_wide (v_abs (v_wval p1)))=v_wide (v_gcd (v_wval p0) (v_wval p1)) := by
 obtain ⟨a,ea,_⟩ := h1.ex
 obtain ⟨b,eb,_⟩ := h2.ex
 have da:v_dl a≤400000000000 := by rw [ea] at l1; exact l1
 have db:v_dl b≤400000000000 := by rw [eb] at l2; exact l2
 have wa:v_wval p0 = a := by rw [ea,v_wval_wide]
 have wb:v_wval p1 = b := by rw [eb,v_wval_wide]
 rw [wa,wb]
 -- as many rounds as the second number says: bounded by fuel no more,so the digits' number is the measure
 have key:∀ (k:Nat) (x y:Int),0≤x→0≤y→y < 2 ^ k→v_dl x≤400000000000→v_dl y≤400000000000→∀ f,2 * k + 2≤f→OkN (st_base_wideGcd_0 p0 p1) (sp_base_wideGcd_0 p0 p1) f (v_wide x,v_wide y)∧runL (0,[]) (st_base_wideGcd_0 p0 p1) f (v_wide x,v_wide y)=v_wide (v_gcd x y) := by
  have fin:∀ (x:Int),0≤x→∀ f,OkN (st_base_wideGcd_0 p0 p1) (sp_base_wideGcd_0 p0 p1) (f + 1) (v_wide x,v_wide 0)∧runL (0,[]) (st_base_wideGcd_0 p0 p1) (f + 1) (v_wide x,v_wide 0)=v_wide (v_gcd x 0) := by
   intro x hx f
   have e0:v_gcd x 0 = x := by unfold v_gcd; rw [Int.gcd_zero_right]; omega
   unfold OkN runL
   simp only [sp_base_wideGcd_0,st_base_wideGcd_0,List.forall_mem_cons,v_wide_1,show (Int.sign 0 != 0)=false from rfl,cond_false,e0]
   exact ⟨⟨⟨fun h => (by cases h),fun h => (by cases h),fun h => (by cases h),fun h => (by cases h),fun h => (by cases h),fun h => (by cases h),by simp⟩,trivial⟩,trivial⟩
  have round:∀ (x y:Int),0≤x→0 < y→v_dl x≤400000000000→v_dl y≤400000000000→(∀ p∈sp_base_wideGcd_0 p0 p1 (v_wide x,v_wide y),p)∧st_base_wideGcd_0 p0 p1 (v_wide x,v_wide y) = .inl (v_wide y,v_wide (x % y)) := by
   intro x y hx hy dx dy
   have q1 := Int.mul_ediv_add_emod x y
   have q2 := Int.emod_nonneg x (show y ≠ 0 by omega)
   have q3:0≤x / y := Int.ediv_nonneg hx (by omega)
   have q4:x / y≤x := Int.ediv_le_self _ hx
   have d1:v_dl (x / y)≤400000000000 := Nat.le_trans (v_dl_mono (by omega)) dx
   have d2:v_dl (x / y * y)≤400000000000 := Nat.le_trans (v_dl_mono (n := x) (by rw [Int.mul_comm]; have := Int.mul_nonneg (show 0≤y by omega) q3; omega)) dx
   have w1:v_wok (v_wide x) := v_wok_of (Nat.le_trans dx (by decide))
   have w2:v_wok (v_wide y) := v_wok_of (Nat.le_trans dy (by decide))
   have w3:v_wok (v_wide (x / y)) := v_wok_of (Nat.le_trans d1 (by decide))
   have w4:v_wok (v_wide (x / y * y)) := v_wok_of (Nat.le_trans d2 (by decide))
   have l2:(v_wide y).2.length≤500000000000 := Nat.le_trans dy (by decide)
   have hs:(y.sign != 0)=true := by rw [Int.sign_eq_one_of_pos hy]; rfl
   simp only [sp_base_wideGcd_0,st_base_wideGcd_0,List.forall_mem_cons,v_wide_1,hs,cond_true,v_wval_wide]
   refine ⟨⟨fun _ => w1,fun _ => w2,fun _ => hy,fun _ => l2,fun _ => w3,fun _ => w4,by simp⟩,?_⟩
   congr 3
   rw [Int.mul_comm]; omega
  have gs:∀ (x y:Int),0≤x→v_gcd y (x % y)=v_gcd x y := fun x y hx => by rw [← Int.tmod_eq_emod_of_nonneg hx]; exact v_gcd_step x y
  have one:∀ (x y:Int) (f:Nat),0≤x→0 < y→v_dl x≤400000000000→v_dl y≤400000000000→(OkN (st_base_wideGcd_0 p0 p1) (sp_base_wideGcd_0 p0 p1) f (v_wide y,v_wide (x % y))∧runL (0,[]) (st_base_wideGcd_0 p0 p1) f (v_wide y,v_wide (x % y))=v_wide (v_gcd y (x % y)))→OkN (st_base_wideGcd_0 p0 p1) (sp_base_wideGcd_0 p0 p1) (f + 1) (v_wide x,v_wide y)∧runL (0,[]) (st_base_wideGcd_0 p0 p1) (f + 1) (v_wide x,v_wide y)=v_wide (v_gcd x y) := by
   intro x y f hx hy dx dy ih
   obtain ⟨r1,r2⟩ := round x y hx hy dx dy
   unfold OkN runL
   rw [r2]
   exact ⟨⟨r1,ih.1⟩,ih.2.trans (by rw [gs x y hx])⟩
  have dmod:∀ (x y:Int),0 < y→v_dl y≤400000000000→v_dl (x % y)≤400000000000 := fun x y hy dy => by
   have q2 := Int.emod_nonneg x (show y ≠ 0 by omega)
   have q3 := Int.emod_lt_of_pos x hy
   exact Nat.le_trans (v_dl_mono (by omega)) dy
  intro k
  induction k with
  | zero =>
   intro x y hx hy hk dx dy f hf
   have:y = 0 := by simp at hk; omega
   subst this
   obtain ⟨f,rfl⟩ : ∃ g,f = g + 1 := ⟨f - 1,by omega⟩
   exact fin x hx f
  | succ k ih =>
   intro x y hx hy hk dx dy f hf
   rcases Int.lt_or_le 0 y with h0 | h0
   ·obtain ⟨f,rfl⟩ : ∃ g,f = g + 2 := ⟨f - 2,by omega⟩
    have q2 := Int.emod_nonneg x (show y ≠ 0 by omega)
    have q3 := Int.emod_lt_of_pos x h0
    refine one x y (f + 1) hx h0 dx dy ?_
    rcases Int.lt_or_le 0 (x % y) with h1 | h1
    ·have s2 := Int.emod_nonneg y (show x % y ≠ 0 by omega)
     have s3 := Int.emod_lt_of_pos y h1
     have hlt:y % (x % y) < 2 ^ k := by
      rw [Int.pow_succ] at hk
      rcases Int.lt_or_le (x % y) (2 ^ k) with c | c
      ·omega
      ·have:y % (x % y)≤y - x % y := by
        have e := Int.mul_ediv_add_emod y (x % y)
        have:1≤y / (x % y) := Int.le_ediv_of_mul_le h1 (by omega)
        have := Int.mul_le_mul_of_nonneg_left this (show 0≤x % y by omega)
        omega
       omega
     exact one y (x % y) f (by omega) h1 dy (dmod x y h0 dy) (ih _ _ q2 s2 hlt (dmod x y h0 dy) (dmod y _ h1 (dmod x y h0 dy)) f (by omega))
    ·have:x % y = 0 := by omega
     rw [this]
     exact fin y (by omega) f
   ·have:y = 0 := by omega
    subst this
    obtain ⟨f,rfl⟩ : ∃ g,f = g + 1 := ⟨f - 1,by omega⟩
    exact fin x hx f
 have hb:(v_abs b) < 2 ^ (30 * v_dl b) := by
  have h1 := v_digs_high b.natAbs
  have h2:∀ n:Nat,v_pow n≤2 ^ (30 * n) := by
   intro n
   induction n with
   | zero => exact Int.le_refl _
   | succ n ih =>
    rw [v_pow_s,Nat.mul_succ,Int.pow_add,show (2:Int) ^ 30 = 1073741824 from by decide]
    have := v_pow_pos n
    omega
  have h2 := h2 (v_digs b.natAbs).length
  unfold v_abs v_dl
  omega
 have ga:v_gcd (v_abs a) (v_abs b)=v_gcd a b := by unfold v_gcd v_abs Int.gcd; rw [Int.natAbs_natCast,Int.natAbs_natCast]
 have := key (30 * v_dl b) (v_abs a) (v_abs b) (by unfold v_abs; omega) (by unfold v_abs; omega) hb (by unfold v_dl v_abs at *; rw [Int.natAbs_natCast]; exact da) (by unfold v_dl v_abs at *; rw [Int.natAbs_natCast]; exact db) fuel (by unfold fuel; omega)
 rw [ga] at this
 exact this
abbrev t_base_wideGcd (p0:Int×List Int) (p1:Int×List Int):Int×List Int := v_wide (v_gcd (v_wval p0) (v_wval p1))
abbrev qre_base_wideGcd (p0:Int×List Int) (p1:Int×List Int):List Prop := [v_wok p0,v_wok p1,p0.2.length≤400000000000,p1.2.length≤400000000000]
theorem pp_base_wideGcd (p0:Int×List Int) (p1:Int×List Int) (hq:∀ p∈qre_base_wideGcd p0 p1,p):∀ p∈pre_base_wideGcd p0 p1,p := by
 obtain ⟨h1,h2,h3,h4,_⟩ := conj_of hq
 simp only [pre_base_wideGcd,List.forall_mem_cons]
 exact ⟨h1,h2,(l_base_wideGcd_0 p0 p1 h1 h2 h3 h4).1,by simp⟩
theorem tt_base_wideGcd (p0:Int×List Int) (p1:Int×List Int) (hq:∀ p∈qre_base_wideGcd p0 p1,p):s_base_wideGcd p0 p1 = t_base_wideGcd p0 p1 := by
 obtain ⟨h1,h2,h3,h4,_⟩ := conj_of hq
 have e := (l_base_wideGcd_0 p0 p1 h1 h2 h3 h4).2
 unfold s_base_wideGcd t_base_wideGcd
 rw [e]

abbrev con_base_wideGcd:Con := ⟨P_base_wideGcd,R_base_wideGcd,fun x => qre_base_wideGcd x.1 x.2,fun x => t_base_wideGcd x.1 x.2⟩
theorem ok_base_wideGcd:ConOk Try.prog 147 con_base_wideGcd := ⟨k_base_wideGcd,fun x hx => ret_tf (ps := P_base_wideGcd) (rs := R_base_wideGcd) (x := x) (y := t_base_wideGcd x.1 x.2) e_base_wideGcd hC_base_wideGcd (tf_of (w_base_wideGcd_eq x.1 x.2 (fun z => z = t_base_wideGcd x.1 x.2)) (d_base_wideGcd x.1 x.2 (fun z => z = t_base_wideGcd x.1 x.2) (pp_base_wideGcd x.1 x.2 hx) (tt_base_wideGcd x.1 x.2 hx)))⟩
/- base_WideCmp -/
def C_base_WideCmp:Cons := [(153,[],con_base_WideSub)]
theorem hC_base_WideCmp:ConsOk Try.prog C_base_WideCmp := ConsOk.cons ok_base_WideSub <| ConsOk.nil
def w_base_WideCmp (p0:(Int×(List Int))) (p1:(Int×(List Int))) (K:Int→Prop):Prop :=
  ((v_wok p0) ∧
 ((v_wok p1) ∧
 (K (v_wide ((v_wval p0) - (v_wval p1))).1)))
set_option maxHeartbeats 4000000 in
theorem w_base_WideCmp_eq (p0:(Int×(List Int))) (p1:(Int×(List Int))) (K:Int→Prop):tfn F_base_WideCmp A_base_WideCmp C_base_WideCmp P_base_WideCmp R_base_WideCmp (p0,p1) K = w_base_WideCmp p0 p1 K := by kernel_rfl
def s_base_WideCmp (p0:(Int×(List Int))) (p1:(Int×(List Int))):Int :=
 (v_wide ((v_wval p0) - (v_wval p1))).1
abbrev pre_base_WideCmp (p0:(Int×(List Int))) (p1:(Int×(List Int))):List Prop := [(v_wok p0),
  (v_wok p1)]
set_option maxHeartbeats 4000000 in
theorem d_base_WideCmp (p0:(Int×(List Int))) (p1:(Int×(List Int))) (K:Int→Prop) (hp:∀ p∈pre_base_WideCmp p0 p1,p) (h:K (s_base_WideCmp p0 p1)):w_base_WideCmp p0 p1 K := by
 unfold w_base_WideCmp
 unfold s_base_WideCmp at h
 obtain ⟨hp0,hp1,_⟩ := conj_of hp
 exact ⟨(hp0),(hp1),h⟩
abbrev t_base_WideCmp (p0:Int×List Int) (p1:Int×List Int):Int := v_cmp (v_wval p0) (v_wval p1)
abbrev qre_base_WideCmp (p0:Int×List Int) (p1:Int×List Int):List Prop := [v_wok p0,v_wok p1]
theorem pp_base_WideCmp (p0:Int×List Int) (p1:Int×List Int) (hq:∀ p∈qre_base_WideCmp p0 p1,p):∀ p∈pre_base_WideCmp p0 p1,p := by
 simpa only [pre_base_WideCmp] using hq
theorem tt_base_WideCmp (p0:Int×List Int) (p1:Int×List Int) (_hq:∀ p∈qre_base_WideCmp p0 p1,p):s_base_WideCmp p0 p1 = t_base_WideCmp p0 p1 := by
 unfold s_base_WideCmp t_base_WideCmp
 exact v_cmp_sign _ _

abbrev con_base_WideCmp:Con := ⟨P_base_WideCmp,R_base_WideCmp,fun x => qre_base_WideCmp x.1 x.2,fun x => t_base_WideCmp x.1 x.2⟩
theorem ok_base_WideCmp:ConOk Try.prog 134 con_base_WideCmp := ⟨k_base_WideCmp,fun x hx => ret_tf (ps := P_base_WideCmp) (rs := R_base_WideCmp) (x := x) (y := t_base_WideCmp x.1 x.2) e_base_WideCmp hC_base_WideCmp (tf_of (w_base_WideCmp_eq x.1 x.2 (fun z => z = t_base_WideCmp x.1 x.2)) (d_base_WideCmp x.1 x.2 (fun z => z = t_base_WideCmp x.1 x.2) (pp_base_WideCmp x.1 x.2 hx) (tt_base_WideCmp x.1 x.2 hx)))⟩
/- base_RatioMake -/
def C_base_RatioMake:Cons := [(139,[],con_base_WideSign),(141,[],con_base_WideNeg),(147,[],con_base_wideGcd),(127,[],con_base_WideOf),(134,[],con_base_WideCmp),(148,[],con_base_WideFloor)]
theorem hC_base_RatioMake:ConsOk Try.prog C_base_RatioMake := ConsOk.cons ok_base_WideSign <| ConsOk.cons ok_base_WideNeg <| ConsOk.cons ok_base_wideGcd <| ConsOk.cons ok_base_WideOf <| ConsOk.cons ok_base_WideCmp <| ConsOk.cons ok_base_WideFloor <| ConsOk.nil
abbrev q0_base_RatioMake (p0:(Int×(List Int))) (p1:(Int×(List Int))) := (v_wide (v_gcd (v_wval (v_wide (-(v_wval p0)))) (v_wval (v_wide (-(v_wval p1))))))
def w_base_RatioMake (p0:(Int×(List Int))) (p1:(Int×(List Int))) (K:((Int×(List Int))×(Int×(List Int)))→Prop):Prop :=
  ((((decide (p1.1 < zz0))=true) →
 ((v_wok p0) ∧
  ((v_wok p1) ∧
  ((v_wok (v_wide (-(v_wval p0)))) ∧
  ((v_wok (v_wide (-(v_wval p1)))) ∧
  (((List.length (v_wide (-(v_wval p0))).2)≤400000000000) ∧
  (((List.length (v_wide (-(v_wval p1))).2)≤400000000000) ∧
  ((v_fit zz1) ∧
  ((v_wok (q0_base_RatioMake p0 p1)) ∧
  ((v_wok (v_wide zz1)) ∧
  (((((v_cmp (v_wval (q0_base_RatioMake p0 p1)) (v_wval (v_wide zz1))) == zz0)=true) →
  (K ((v_wide (-(v_wval p0))),(v_wide (-(v_wval p1)))))) ∧
  ((((v_cmp (v_wval (q0_base_RatioMake p0 p1)) (v_wval (v_wide zz1))) == zz0)=false) →
  ((v_wok (v_wide (-(v_wval p0)))) ∧
   ((v_wok (q0_base_RatioMake p0 p1)) ∧
   ((zz0 < (v_wval (q0_base_RatioMake p0 p1))) ∧
   (((List.length (q0_base_RatioMake p0 p1).2)≤500000000000) ∧
   ((v_wok (v_wide (-(v_wval p1)))) ∧
   ((v_wok (q0_base_RatioMake p0 p1)) ∧
   ((zz0 < (v_wval (q0_base_RatioMake p0 p1))) ∧
   (((List.length (q0_base_RatioMake p0 p1).2)≤500000000000) ∧
   (K ((v_wide ((v_wval (v_wide (-(v_wval p0)))) / (v_wval (q0_base_RatioMake p0 p1)))),(v_wide ((v_wval (v_wide (-(v_wval p1)))) / (v_wval (q0_base_RatioMake p0 p1)))))))))))))))))))))))))) ∧
 (((decide (p1.1 < zz0))=false) →
 ((v_wok p0) ∧
  ((v_wok p1) ∧
  ((p0.2.length≤400000000000) ∧
  ((p1.2.length≤400000000000) ∧
  ((v_fit zz1) ∧
  ((v_wok (v_wide (v_gcd (v_wval p0) (v_wval p1)))) ∧
  ((v_wok (v_wide zz1)) ∧
  (((((v_cmp (v_wval (v_wide (v_gcd (v_wval p0) (v_wval p1)))) (v_wval (v_wide zz1))) == zz0)=true) →
  (K (p0,p1))) ∧
  ((((v_cmp (v_wval (v_wide (v_gcd (v_wval p0) (v_wval p1)))) (v_wval (v_wide zz1))) == zz0)=false) →
  ((v_wok p0) ∧
   ((v_wok (v_wide (v_gcd (v_wval p0) (v_wval p1)))) ∧
   ((zz0 < (v_wval (v_wide (v_gcd (v_wval p0) (v_wval p1))))) ∧
   (((List.length (v_wide (v_gcd (v_wval p0) (v_wval p1))).2)≤500000000000) ∧
   ((v_wok p1) ∧
   ((v_wok (v_wide (v_gcd (v_wval p0) (v_wval p1)))) ∧
   ((zz0 < (v_wval (v_wide (v_gcd (v_wval p0) (v_wval p1))))) ∧
   (((List.length (v_wide (v_gcd (v_wval p0) (v_wval p1))).2)≤500000000000) ∧
   (K ((v_wide ((v_wval p0) / (v_wval (v_wide (v_gcd (v_wval p0) (v_wval p1)))))),(v_wide ((v_wval p1) / (v_wval (v_wide (v_gcd (v_wval p0) (v_wval p1)))))))))))))))))))))))))))
set_option maxHeartbeats 4000000 in
theorem w_base_RatioMake_eq (p0:(Int×(List Int))) (p1:(Int×(List Int))) (K:((Int×(List Int))×(Int×(List Int)))→Prop):tfn F_base_RatioMake A_base_RatioMake C_base_RatioMake P_base_RatioMake R_base_RatioMake (p0,p1) K = w_base_RatioMake p0 p1 K := by kernel_rfl
def s_base_RatioMake (p0:(Int×(List Int))) (p1:(Int×(List Int))):((Int×(List Int))×(Int×(List Int))) :=
 (cond (decide (p1.1 < 0)) (cond ((v_cmp (v_wval (v_wide (v_gcd (v_wval (v_wide (-(v_wval p0)))) (v_wval (v_wide (-(v_wval p1))))))) (v_wval (v_wide (1:Int)))) == 0) ((v_wide (-(v_wval p0))),(v_wide (-(v_wval p1))))
  ((v_wide ((v_wval (v_wide (-(v_wval p0)))) / (v_wval (v_wide (v_gcd (v_wval (v_wide (-(v_wval p0)))) (v_wval (v_wide (-(v_wval p1))))))))),(v_wide ((v_wval (v_wide (-(v_wval p1)))) / (v_wval (v_wide (v_gcd (v_wval (v_wide (-(v_wval p0)))) (v_wval (v_wide (-(v_wval p1)))))))))))
  (cond ((v_cmp (v_wval (v_wide (v_gcd (v_wval p0) (v_wval p1)))) (v_wval (v_wide (1:Int)))) == 0) (p0,p1)
  ((v_wide ((v_wval p0) / (v_wval (v_wide (v_gcd (v_wval p0) (v_wval p1)))))),(v_wide ((v_wval p1) / (v_wval (v_wide (v_gcd (v_wval p0) (v_wval p1)))))))))
abbrev pre_base_RatioMake (p0:(Int×(List Int))) (p1:(Int×(List Int))):List Prop := [(((decide (p1.1 < 0))=true)→(v_wok p0)),
  (((decide (p1.1 < 0))=true)→(v_wok p1)),
  (((decide (p1.1 < 0))=true)→(v_wok (v_wide (-(v_wval p0))))),
  (((decide (p1.1 < 0))=true)→(v_wok (v_wide (-(v_wval p1))))),
  (((decide (p1.1 < 0))=true)→((List.length (v_wide (-(v_wval p0))).2)≤400000000000)),
  (((decide (p1.1 < 0))=true)→((List.length (v_wide (-(v_wval p1))).2)≤400000000000)),
  (((decide (p1.1 < 0))=true)→(v_fit (1:Int))),
  (((decide (p1.1 < 0))=true)→(v_wok (v_wide (v_gcd (v_wval (v_wide (-(v_wval p0)))) (v_wval (v_wide (-(v_wval p1)))))))),
  (((decide (p1.1 < 0))=true)→(v_wok (v_wide (1:Int)))),
  (((decide (p1.1 < 0))=true)→((((v_cmp (v_wval (v_wide (v_gcd (v_wval (v_wide (-(v_wval p0)))) (v_wval (v_wide (-(v_wval p1))))))) (v_wval (v_wide (1:Int)))) == 0)=false)→(v_wok (v_wide (-(v_wval p0)))))),
  (((decide (p1.1 < 0))=true)→((((v_cmp (v_wval (v_wide (v_gcd (v_wval (v_wide (-(v_wval p0)))) (v_wval (v_wide (-(v_wval p1))))))) (v_wval (v_wide (1:Int)))) == 0)=false)→(v_wok (v_wide (v_gcd (v_wval (v_wide (-(v_wval p0)))) (v_wval (v_wide (-(v_wval p1))))))))),
  (((decide (p1.1 < 0))=true)→((((v_cmp (v_wval (v_wide (v_gcd (v_wval (v_wide (-(v_wval p0)))) (v_wval (v_wide (-(v_wval p1))))))) (v_wval (v_wide (1:Int)))) == 0)=false)→((0:Int) < (v_wval (v_wide (v_gcd (v_wval (v_wide (-(v_wval p0)))) (v_wval (v_wide (-(v_wval p1)))))))))),
  (((decide (p1.1 < 0))=true)→((((v_cmp (v_wval (v_wide (v_gcd (v_wval (v_wide (-(v_wval p0)))) (v_wval (v_wide (-(v_wval p1))))))) (v_wval (v_wide (1:Int)))) == 0)=false)→((List.length (v_wide (v_gcd (v_wval (v_wide (-(v_wval p0)))) (v_wval (v_wide (-(v_wval p1)))))).2)≤500000000000))),
  (((decide (p1.1 < 0))=true)→((((v_cmp (v_wval (v_wide (v_gcd (v_wval (v_wide (-(v_wval p0)))) (v_wval (v_wide (-(v_wval p1))))))) (v_wval (v_wide (1:Int)))) == 0)=false)→(v_wok (v_wide (-(v_wval p1)))))),
  (((decide (p1.1 < 0))=false)→(v_wok p0)),
  (((decide (p1.1 < 0))=false)→(v_wok p1)),
  (((decide (p1.1 < 0))=false)→(p0.2.length≤400000000000)),
  (((decide (p1.1 < 0))=false)→(p1.2.length≤400000000000)),
  (((decide (p1.1 < 0))=false)→(v_fit (1:Int))),
  (((decide (p1.1 < 0))=false)→(v_wok (v_wide (v_gcd (v_wval p0) (v_wval p1))))),
  (((decide (p1.1 < 0))=false)→(v_wok (v_wide (1:Int)))),
  (((decide (p1.1 < 0))=false)→((((v_cmp (v_wval (v_wide (v_gcd (v_wval p0) (v_wval p1)))) (v_wval (v_wide (1:Int)))) == 0)=false)→(v_wok p0))),
  (((decide (p1.1 < 0))=false)→((((v_cmp (v_wval (v_wide (v_gcd (v_wval p0) (v_wval p1)))) (v_wval (v_wide (1:Int)))) == 0)=false)→(v_wok (v_wide (v_gcd (v_wval p0) (v_wval p1)))))),
  (((decide (p1.1 < 0))=false)→((((v_cmp (v_wval (v_wide (v_gcd (v_wval p0) (v_wval p1)))) (v_wval (v_wide (1:Int)))) == 0)=false)→((0:Int) < (v_wval (v_wide (v_gcd (v_wval p0) (v_wval p1))))))),
  (((decide (p1.1 < 0))=false)→((((v_cmp (v_wval (v_wide (v_gcd (v_wval p0) (v_wval p1)))) (v_wval (v_wide (1:Int)))) == 0)=false)→((List.length (v_wide (v_gcd (v_wval p0) (v_wval p1))).2)≤500000000000))),
  (((decide (p1.1 < 0))=false)→((((v_cmp (v_wval (v_wide (v_gcd (v_wval p0) (v_wval p1)))) (v_wval (v_wide (1:Int)))) == 0)=false)→(v_wok p1)))]
set_option maxHeartbeats 4000000 in
theorem d_base_RatioMake (p0:(Int×(List Int))) (p1:(Int×(List Int))) (K:((Int×(List Int))×(Int×(List Int)))→Prop) (hp:∀ p∈pre_base_RatioMake p0 p1,p) (h:K (s_base_RatioMake p0 p1)):w_base_RatioMake p0 p1 K := by
 unfold w_base_RatioMake
 unfold s_base_RatioMake at h
 obtain ⟨hp0,hp1,hp2,hp3,hp4,hp5,hp6,hp7,hp8,hp9,hp10,hp11,hp12,hp13,hp14,hp15,hp16,hp17,hp18,hp19,hp20,hp21,hp22,hp23,hp24,hp25,_⟩ := conj_of hp
 exact (br' h (fun e0 h => ⟨(hp0 e0),(hp1 e0),(hp2 e0),(hp3 e0),(hp4 e0),(hp5 e0),(hp6 e0),(hp7 e0),(hp8 e0),(br' h (fun e1 h => h)
  (fun e1 h => ⟨(hp9 e0 e1),(hp10 e0 e1),(hp11 e0 e1),(hp12 e0 e1),(hp13 e0 e1),(hp10 e0 e1),(hp11 e0 e1),(hp12 e0 e1),h⟩))⟩)
  (fun e0 h => ⟨(hp14 e0),(hp15 e0),(hp16 e0),(hp17 e0),(hp18 e0),(hp19 e0),(hp20 e0),(br' h (fun e2 h => h)
  (fun e2 h => ⟨(hp21 e0 e2),(hp22 e0 e2),(hp23 e0 e2),(hp24 e0 e2),(hp25 e0 e2),(hp22 e0 e2),(hp23 e0 e2),(hp24 e0 e2),h⟩))⟩))
/-- A rational number as the reference keeps it. -/
def v_rat (q:Rat):(Int×List Int)×(Int×List Int) := (v_wide q.num,v_wide (q.den:Int))
def v_rv (p:(Int×List Int)×(Int×List Int)):Rat := (v_wval p.1:Rat) / (v_wval p.2:Rat)
theorem v_rv_rat (q:Rat):v_rv (v_rat q)=q := by
 unfold v_rv v_rat
 rw [v_wval_wide,v_wval_wide,← Rat.divInt_eq_div,Rat.num_divInt_den]
structure v_rok (p:(Int×List Int)×(Int×List Int)):Prop where
 eq:p = v_rat (v_rv p)
 l1:p.1.2.length≤100000000000
 l2:p.2.2.length≤100000000000
theorem v_rok.ex {p:(Int×List Int)×(Int×List Int)} (h:v_rok p):∃ q:Rat,p = v_rat q∧v_dl q.num≤100000000000∧v_dl q.den≤100000000000 := ⟨_,h.eq,by have := h.l1; rw [h.eq] at this; exact this,by have := h.l2; rw [h.eq] at this; exact this⟩
theorem v_rok_of {q:Rat} (h1:v_dl q.num≤100000000000) (h2:v_dl q.den≤100000000000):v_rok (v_rat q) := ⟨by rw [v_rv_rat],h1,h2⟩
/-- Bounds of both parts. -/
structure v_rb (B:Int) (q:Rat):Prop where
 n:(q.num.natAbs:Int)≤B
 d:(q.den:Int)≤B
theorem v_rb.ok {B:Int} {q:Rat} (h:v_rb B q) (hB:B < v_pow 100):v_rok (v_rat q) :=
 v_rok_of (Nat.le_trans (v_digs_len (k := 100) (by have := h.n; omega)) (by decide)) (Nat.le_trans (v_digs_len (k := 100) (by have := h.d; omega)) (by decide))
/-- What a quotient of two whole numbers is at most. -/
theorem v_rdiv_le2 {n d:Int} (hd:d ≠ 0):((n:Rat) / (d:Rat)).num.natAbs≤n.natAbs∧((n:Rat) / (d:Rat)).den≤d.natAbs := by
 rw [← Rat.divInt_eq_div,Rat.num_divInt,Rat.den_divInt,if_neg hd]
 refine ⟨?_,Nat.div_le_self _ _⟩
 rw [Int.natAbs_ediv_of_dvd (by
  have:(d.gcd n:Int) ∣ n := Int.gcd_dvd_right d n
  exact Int.dvd_trans this (Int.dvd_mul_left _ _))]
 refine Nat.le_trans (Nat.div_le_self _ _) ?_
 rw [Int.natAbs_mul]
 have:d.sign.natAbs = 1 := Int.natAbs_sign_of_ne_zero hd
 rw [this,Nat.one_mul]
 exact Nat.le_refl _
theorem v_rb_div {B n d:Int} (hd:d ≠ 0) (h1:(n.natAbs:Int)≤B) (h2:(d.natAbs:Int)≤B):v_rb B ((n:Rat) / (d:Rat)) := by
 have := v_rdiv_le2 (n := n) hd
 exact ⟨by omega,by omega⟩
theorem v_rcast_ne {d:Int} (h:d ≠ 0):(d:Rat) ≠ 0 := fun e => h (Rat.intCast_eq_zero_iff.1 e)
/-- Sums,products and quotients,by their parts. -/
theorem v_qnum (q:Rat):(q.num:Rat)=q * ((q.den:Int):Rat) := by
 have hq := v_rcast_ne (d := (q.den:Int)) (by have := q.den_pos; omega)
 have e := Rat.num_divInt_den q
 rw [Rat.divInt_eq_div] at e
 have h := Rat.div_mul_cancel (a := (q.num:Rat)) hq
 rw [e] at h
 exact h.symm
theorem v_qadd (p q:Rat):p + q = ((p.num * q.den + q.num * p.den:Int):Rat) / ((p.den * q.den:Int):Rat) := by
 have hp := v_rcast_ne (d := (p.den:Int)) (by have := p.den_pos; omega)
 have hq := v_rcast_ne (d := (q.den:Int)) (by have := q.den_pos; omega)
 have ep := v_qnum p
 have eq := v_qnum q
 rw [Rat.intCast_add,Rat.intCast_mul,Rat.intCast_mul,Rat.intCast_mul,ep,eq]
 generalize ((p.den:Int):Rat)=a at *
 generalize ((q.den:Int):Rat)=b at *
 grind
theorem v_qmul (p q:Rat):p * q = ((p.num * q.num:Int):Rat) / ((p.den * q.den:Int):Rat) := by
 have hp := v_rcast_ne (d := (p.den:Int)) (by have := p.den_pos; omega)
 have hq := v_rcast_ne (d := (q.den:Int)) (by have := q.den_pos; omega)
 have ep := v_qnum p
 have eq := v_qnum q
 rw [Rat.intCast_mul,Rat.intCast_mul,ep,eq]
 generalize ((p.den:Int):Rat)=a at *
 generalize ((q.den:Int):Rat)=b at *
 grind
theorem v_qdiv (p q:Rat) (h:q.num ≠ 0):p / q = ((p.num * q.den:Int):Rat) / ((p.den * q.num:Int):Rat) := by
 have hp := v_rcast_ne (d := (p.den:Int)) (by have := p.den_pos; omega)
 have hq := v_rcast_ne (d := (q.den:Int)) (by have := q.den_pos; omega)
 have hn := v_rcast_ne h
 have ep := v_qnum p
 have eq := v_qnum q
 have hq0:q ≠ 0 := fun e => by rw [e] at h; exact h rfl
 rw [Rat.intCast_mul,Rat.intCast_mul,ep,eq]
 generalize ((p.den:Int):Rat)=a at *
 generalize ((q.den:Int):Rat)=b at *
 rw [Rat.div_def,Rat.div_def,Rat.inv_mul_rev,Rat.inv_mul_rev]
 have h1:a * a⁻¹ = 1 := Rat.mul_inv_cancel _ hp
 have h2:b * b⁻¹ = 1 := Rat.mul_inv_cancel _ hq
 grind
theorem v_natmul {a b A B:Int} (h1:(a.natAbs:Int)≤A) (h2:(b.natAbs:Int)≤B):((a * b).natAbs:Int)≤A * B := by
 rw [Int.natAbs_mul,Int.natCast_mul]
 exact (mul_in (by omega) h1 (by omega) h2).2
theorem v_rb_add {A B:Int} {p q:Rat} (hp:v_rb A p) (hq:v_rb B q):v_rb (2 * (A * B)) (p + q) := by
 rw [v_qadd]
 have h1 := v_natmul hp.n (b := (q.den:Int)) (B := B) (by have := hq.d; omega)
 have h2 := v_natmul hq.n (b := (p.den:Int)) (B := A) (by have := hp.d; omega)
 have h3 := v_natmul (a := (p.den:Int)) (A := A) (by have := hp.d; omega) (b := (q.den:Int)) (B := B) (by have := hq.d; omega)
 rw [Int.mul_comm B A] at h2
 have hd:(p.den:Int) * (q.den:Int) ≠ 0 := Int.mul_ne_zero (by have := p.den_pos; omega) (by have := q.den_pos; omega)
 exact v_rb_div hd (by omega) (by omega)
theorem v_rb_mul {A B:Int} {p q:Rat} (hp:v_rb A p) (hq:v_rb B q):v_rb (A * B) (p * q) := by
 rw [v_qmul]
 have h1 := v_natmul hp.n hq.n
 have h3 := v_natmul (a := (p.den:Int)) (A := A) (by have := hp.d; omega) (b := (q.den:Int)) (B := B) (by have := hq.d; omega)
 have hd:(p.den:Int) * (q.den:Int) ≠ 0 := Int.mul_ne_zero (by have := p.den_pos; omega) (by have := q.den_pos; omega)
 exact v_rb_div hd h1 h3
theorem v_rb_neg {A:Int} {p:Rat} (hp:v_rb A p):v_rb A (-p) := ⟨by rw [Rat.neg_num,Int.natAbs_neg]; exact hp.n,by rw [Rat.neg_den]; exact hp.d⟩
theorem v_rb_int {A n:Int} (h:(n.natAbs:Int)≤A) (h1:1≤A):v_rb A (n:Rat) := ⟨h,h1⟩
theorem v_rb_le {A B:Int} {p:Rat} (hp:v_rb A p) (h:A≤B):v_rb B p := ⟨Int.le_trans hp.n h,Int.le_trans hp.d h⟩
/-- Operations on such numbers. -/
def v_rmk (n d:Int):(Int×List Int)×(Int×List Int) := v_rat ((n:Rat) / (d:Rat))
def v_rint (n:Int):(Int×List Int)×(Int×List Int) := v_rat (n:Rat)
def v_rneg (p:(Int×List Int)×(Int×List Int)):(Int×List Int)×(Int×List Int) := v_rat (-(v_rv p))
def v_radd (p q:(Int×List Int)×(Int×List Int)):(Int×List Int)×(Int×List Int) := v_rat (v_rv p + v_rv q)
def v_rsub (p q:(Int×List Int)×(Int×List Int)):(Int×List Int)×(Int×List Int) := v_rat (v_rv p - v_rv q)
def v_rmul (p q:(Int×List Int)×(Int×List Int)):(Int×List Int)×(Int×List Int) := v_rat (v_rv p * v_rv q)
def v_rdiv (p q:(Int×List Int)×(Int×List Int)):(Int×List Int)×(Int×List Int) := v_rat (v_rv p / v_rv q)
def v_qcmp (p q:Rat):Int := v_cmp (p.num * q.den) (q.num * p.den)
def v_rcmp (p q:(Int×List Int)×(Int×List Int)):Int := v_qcmp (v_rv p) (v_rv q)
def v_rsgn (p:(Int×List Int)×(Int×List Int)):Int := (v_rv p).num.sign
theorem v_qcmp_lt {p q:Rat}:v_qcmp p q < 0 ↔ p < q := by rw [Rat.lt_iff]; exact v_cmp_lt
theorem v_qcmp_gt {p q:Rat}:0 < v_qcmp p q ↔ q < p := by rw [Rat.lt_iff]; exact v_cmp_gt
abbrev t_base_RatioMake (p0:Int×List Int) (p1:Int×List Int):(Int×List Int)×(Int×List Int) := v_rmk (v_wval p0) (v_wval p1)
abbrev qre_base_RatioMake (p0:Int×List Int) (p1:Int×List Int):List Prop := [v_wok p0,v_wok p1,p0.2.length≤400000000000,p1.2.length≤400000000000,v_wval p1 ≠ 0]
theorem pp_base_RatioMake (p0:Int×List Int) (p1:Int×List Int) (hq:∀ p∈qre_base_RatioMake p0 p1,p):∀ p∈pre_base_RatioMake p0 p1,p := by
 obtain ⟨h1,h2,h3,h4,h5,_⟩ := conj_of hq
 obtain ⟨n,rfl,hn⟩ := h1.ex
 obtain ⟨d,rfl,hd⟩ := h2.ex
 rw [v_wide_len] at h3 h4
 rw [v_wval_wide] at h5
 have g0 := v_gcd_pos (a := n) h5
 have g0' := v_gcd_pos (a := -n) (b := -d) (by omega)
 have gd:v_dl (v_gcd n d)≤400000000000 := Nat.le_trans (v_dl_mono (by have := Nat.le_of_dvd (by omega) (show n.gcd d ∣ d.natAbs from Nat.gcd_dvd_right _ _); unfold v_gcd; omega)) h4
 have gg:v_gcd (-n) (-d)=v_gcd n d := by unfold v_gcd; rw [Int.neg_gcd,Int.gcd_neg]
 have w1:v_wok (v_wide 1) := v_wok_of (Nat.le_trans (v_digs_len (k := 1) (by decide)) (by decide))
 have wg:v_wok (v_wide (v_gcd n d)) := v_wok_of (Nat.le_trans gd (by decide))
 have wn:v_wok (v_wide (-n)) := v_wok_of (by rw [v_dl_neg]; exact hn)
 have wd:v_wok (v_wide (-d)) := v_wok_of (by rw [v_dl_neg]; exact hd)
 have f1:v_fit 1 := by unfold v_fit; omega
 have lg:(v_wide (v_gcd n d)).2.length≤500000000000 := Nat.le_trans gd (by decide)
 have ln:(v_wide (-n)).2.length≤400000000000 := by rw [v_wide_len,v_dl_neg]; exact h3
 have ld:(v_wide (-d)).2.length≤400000000000 := by rw [v_wide_len,v_dl_neg]; exact h4
 simp only [pre_base_RatioMake,List.forall_mem_cons,v_wval_wide,gg]
 and_intros
 all_goals first
  | (intro p hp; cases hp; done)
  | exact f1
  | exact w1
  | (intros; first | exact h1 | exact h2 | exact wn | exact wd | exact wg | exact w1 | exact f1 | exact h3 | exact h4 | exact ln | exact ld | exact lg | exact g0)
theorem tt_base_RatioMake (p0:Int×List Int) (p1:Int×List Int) (hq:∀ p∈qre_base_RatioMake p0 p1,p):s_base_RatioMake p0 p1 = t_base_RatioMake p0 p1 := by
 obtain ⟨h1,h2,h3,h4,h5,_⟩ := conj_of hq
 obtain ⟨n,rfl,hn⟩ := h1.ex
 obtain ⟨d,rfl,hd⟩ := h2.ex
 rw [v_wval_wide] at h5
 unfold s_base_RatioMake t_base_RatioMake v_rmk v_rat
 have key:∀ n d:Int,0 < d→cond (v_cmp (v_gcd n d) 1 == 0) (v_wide n,v_wide d) (v_wide (n / v_gcd n d),v_wide (d / v_gcd n d))=(v_wide ((n:Rat) / (d:Rat)).num,v_wide (((n:Rat) / (d:Rat)).den:Int)) := by
  intro n d hd
  have e := v_low_frac (n := n) hd
  unfold v_low v_frac at e
  simp only [Prod.mk.injEq] at e
  rw [← e.1,← e.2]
  have g := v_gcd_pos (a := n) (b := d) (by omega)
  rcases Decidable.em (v_gcd n d = 1) with k | k
  ·rw [k,Int.ediv_one,Int.ediv_one]; cases (v_cmp 1 1 == 0) <;> rfl
  ·have:(v_cmp (v_gcd n d) 1 == 0)=false := by
    unfold v_cmp
    rw [decide_eq_false (show ¬ v_gcd n d < 1 by omega),decide_eq_true (show v_gcd n d > 1 by omega)]; rfl
   rw [this]; rfl
 have gg:v_gcd (-n) (-d)=v_gcd n d := by unfold v_gcd; rw [Int.neg_gcd,Int.gcd_neg]
 simp only [v_wval_wide]
 rcases Int.lt_or_le d 0 with c | c
 ·have k := key (-n) (-d) (by omega)
  rw [Rat.intCast_neg,Rat.intCast_neg,show -(n:Rat) / -(d:Rat)=(n:Rat) / (d:Rat) from by rw [Rat.div_def,Rat.div_def,show (-(d:Rat))⁻¹ = -((d:Rat)⁻¹) from by have := v_rcast_ne h5; grind]; grind] at k
  have e1:decide ((v_wide d).1 < 0)=true := decide_eq_true (by rw [v_wide_1,Int.sign_eq_neg_one_of_neg c]; decide)
  rw [e1,← k]
  simp only [cond_true]
 ·have k := key n d (by omega)
  have e1:decide ((v_wide d).1 < 0)=false := decide_eq_false (by rw [v_wide_1,Int.sign_eq_one_of_pos (show 0 < d by omega)]; decide)
  rw [e1,← k]
  simp only [cond_false]

abbrev con_base_RatioMake:Con := ⟨P_base_RatioMake,R_base_RatioMake,fun x => qre_base_RatioMake x.1 x.2,fun x => t_base_RatioMake x.1 x.2⟩
theorem ok_base_RatioMake:ConOk Try.prog 128 con_base_RatioMake := ⟨k_base_RatioMake,fun x hx => ret_tf (ps := P_base_RatioMake) (rs := R_base_RatioMake) (x := x) (y := t_base_RatioMake x.1 x.2) e_base_RatioMake hC_base_RatioMake (tf_of (w_base_RatioMake_eq x.1 x.2 (fun z => z = t_base_RatioMake x.1 x.2)) (d_base_RatioMake x.1 x.2 (fun z => z = t_base_RatioMake x.1 x.2) (pp_base_RatioMake x.1 x.2 hx) (tt_base_RatioMake x.1 x.2 hx)))⟩
/- base_RatioOf -/
def C_base_RatioOf:Cons := [(127,[],con_base_WideOf),(128,[],con_base_RatioMake)]
theorem hC_base_RatioOf:ConsOk Try.prog C_base_RatioOf := ConsOk.cons ok_base_WideOf <| ConsOk.cons ok_base_RatioMake <| ConsOk.nil
def w_base_RatioOf (p0:Int) (p1:Int) (K:((Int×(List Int))×(Int×(List Int)))→Prop):Prop :=
  ((v_fit p0) ∧
 ((v_fit p1) ∧
 ((v_wok (v_wide p0)) ∧
 ((v_wok (v_wide p1)) ∧
 (((List.length (v_wide p0).2)≤400000000000) ∧
 (((List.length (v_wide p1).2)≤400000000000) ∧
 (((v_wval (v_wide p1)) ≠ (0:Int)) ∧
 (K (v_rmk (v_wval (v_wide p0)) (v_wval (v_wide p1)))))))))))
set_option maxHeartbeats 4000000 in
theorem w_base_RatioOf_eq (p0:Int) (p1:Int) (K:((Int×(List Int))×(Int×(List Int)))→Prop):tfn F_base_RatioOf A_base_RatioOf C_base_RatioOf P_base_RatioOf R_base_RatioOf (p0,p1) K = w_base_RatioOf p0 p1 K := by kernel_rfl
def s_base_RatioOf (p0:Int) (p1:Int):((Int×(List Int))×(Int×(List Int))) :=
 (v_rmk (v_wval (v_wide p0)) (v_wval (v_wide p1)))
abbrev pre_base_RatioOf (p0:Int) (p1:Int):List Prop := [(v_fit p0),
  (v_fit p1),
  (v_wok (v_wide p0)),
  (v_wok (v_wide p1)),
  ((List.length (v_wide p0).2)≤400000000000),
  ((List.length (v_wide p1).2)≤400000000000),
  ((v_wval (v_wide p1)) ≠ (0:Int))]
set_option maxHeartbeats 4000000 in
theorem d_base_RatioOf (p0:Int) (p1:Int) (K:((Int×(List Int))×(Int×(List Int)))→Prop) (hp:∀ p∈pre_base_RatioOf p0 p1,p) (h:K (s_base_RatioOf p0 p1)):w_base_RatioOf p0 p1 K := by
 unfold w_base_RatioOf
 unfold s_base_RatioOf at h
 obtain ⟨hp0,hp1,hp2,hp3,hp4,hp5,hp6,_⟩ := conj_of hp
 exact ⟨(hp0),(hp1),(hp2),(hp3),(hp4),(hp5),(hp6),h⟩
theorem v_rat_1 (q:Rat):(v_rat q).1 = v_wide q.num := rfl
theorem v_rat_2 (q:Rat):(v_rat q).2 = v_wide (q.den:Int) := rfl
theorem v_dl_fit {n:Int} (h:v_fit n):v_dl n≤12 := v_digs_len (k := 12) (by unfold v_fit at h; rw [show (v_pow 12:Int)=1000000000000000000000000000000000000000000000000000000000000000000000000000000000000000000000000000000000000 by decide]; omega)
theorem v_den_ne (q:Rat):(q.den:Int) ≠ 0 := by have := q.den_pos; omega
abbrev t_base_RatioOf (p0:Int) (p1:Int):(Int×List Int)×(Int×List Int) := v_rmk p0 p1
abbrev qre_base_RatioOf (p0:Int) (p1:Int):List Prop := [v_fit p0,v_fit p1,p1 ≠ 0]
theorem pp_base_RatioOf (p0:Int) (p1:Int) (hq:∀ p∈qre_base_RatioOf p0 p1,p):∀ p∈pre_base_RatioOf p0 p1,p := by
 obtain ⟨h1,h2,h3,_⟩ := conj_of hq
 have d1 := v_dl_fit h1
 have d2 := v_dl_fit h2
 simp only [pre_base_RatioOf,List.forall_mem_cons]
 and_intros
 all_goals first
  | (intro p hp; cases hp; done)
  | (intros; assumption)
  | (intros; rw [v_wval_wide]; assumption)
  | (intros; apply v_wok_of; omega)
  | (intros; rw [v_wide_len]; omega)
  | omega
  | (unfold v_fit at *; omega)
theorem tt_base_RatioOf (p0:Int) (p1:Int) (_hq:∀ p∈qre_base_RatioOf p0 p1,p):s_base_RatioOf p0 p1 = t_base_RatioOf p0 p1 := by
 unfold s_base_RatioOf t_base_RatioOf
 rw [v_wval_wide,v_wval_wide]

abbrev con_base_RatioOf:Con := ⟨P_base_RatioOf,R_base_RatioOf,fun x => qre_base_RatioOf x.1 x.2,fun x => t_base_RatioOf x.1 x.2⟩
theorem ok_base_RatioOf:ConOk Try.prog 85 con_base_RatioOf := ⟨k_base_RatioOf,fun x hx => ret_tf (ps := P_base_RatioOf) (rs := R_base_RatioOf) (x := x) (y := t_base_RatioOf x.1 x.2) e_base_RatioOf hC_base_RatioOf (tf_of (w_base_RatioOf_eq x.1 x.2 (fun z => z = t_base_RatioOf x.1 x.2)) (d_base_RatioOf x.1 x.2 (fun z => z = t_base_RatioOf x.1 x.2) (pp_base_RatioOf x.1 x.2 hx) (tt_base_RatioOf x.1 x.2 hx)))⟩
/- base_RatioMul -/
def C_base_RatioMul:Cons := [(129,[],con_base_WideMul),(128,[],con_base_RatioMake)]
theorem hC_base_RatioMul:ConsOk Try.prog C_base_RatioMul := ConsOk.cons ok_base_WideMul <| ConsOk.cons ok_base_RatioMake <| ConsOk.nil
def w_base_RatioMul (p0:((Int×(List Int))×(Int×(List Int)))) (p1:((Int×(List Int))×(Int×(List Int)))) (K:((Int×(List Int))×(Int×(List Int)))→Prop):Prop :=
  ((v_wok p0.1) ∧
 ((v_wok p1.1) ∧
 ((v_wok p0.2) ∧
 ((v_wok p1.2) ∧
 ((v_wok (v_wide ((v_wval p0.1) * (v_wval p1.1)))) ∧
 ((v_wok (v_wide ((v_wval p0.2) * (v_wval p1.2)))) ∧
 (((List.length (v_wide ((v_wval p0.1) * (v_wval p1.1))).2)≤400000000000) ∧
 (((List.length (v_wide ((v_wval p0.2) * (v_wval p1.2))).2)≤400000000000) ∧
 (((v_wval (v_wide ((v_wval p0.2) * (v_wval p1.2)))) ≠ (0:Int)) ∧
 (K (v_rmk (v_wval (v_wide ((v_wval p0.1) * (v_wval p1.1)))) (v_wval (v_wide ((v_wval p0.2) * (v_wval p1.2)))))))))))))))
set_option maxHeartbeats 4000000 in
theorem w_base_RatioMul_eq (p0:((Int×(List Int))×(Int×(List Int)))) (p1:((Int×(List Int))×(Int×(List Int)))) (K:((Int×(List Int))×(Int×(List Int)))→Prop):tfn F_base_RatioMul A_base_RatioMul C_base_RatioMul P_base_RatioMul R_base_RatioMul (p0,p1) K = w_base_RatioMul p0 p1 K := by kernel_rfl
def s_base_RatioMul (p0:((Int×(List Int))×(Int×(List Int)))) (p1:((Int×(List Int))×(Int×(List Int)))):((Int×(List Int))×(Int×(List Int))) :=
 (v_rmk (v_wval (v_wide ((v_wval p0.1) * (v_wval p1.1)))) (v_wval (v_wide ((v_wval p0.2) * (v_wval p1.2)))))
abbrev pre_base_RatioMul (p0:((Int×(List Int))×(Int×(List Int)))) (p1:((Int×(List Int))×(Int×(List Int)))):List Prop := [(v_wok p0.1),
  (v_wok p1.1),
  (v_wok p0.2),
  (v_wok p1.2),
  (v_wok (v_wide ((v_wval p0.1) * (v_wval p1.1)))),
  (v_wok (v_wide ((v_wval p0.2) * (v_wval p1.2)))),
  ((List.length (v_wide ((v_wval p0.1) * (v_wval p1.1))).2)≤400000000000),
  ((List.length (v_wide ((v_wval p0.2) * (v_wval p1.2))).2)≤400000000000),
  ((v_wval (v_wide ((v_wval p0.2) * (v_wval p1.2)))) ≠ (0:Int))]
set_option maxHeartbeats 4000000 in
theorem d_base_RatioMul (p0:((Int×(List Int))×(Int×(List Int)))) (p1:((Int×(List Int))×(Int×(List Int)))) (K:((Int×(List Int))×(Int×(List Int)))→Prop) (hp:∀ p∈pre_base_RatioMul p0 p1,p) (h:K (s_base_RatioMul p0 p1)):w_base_RatioMul p0 p1 K := by
 unfold w_base_RatioMul
 unfold s_base_RatioMul at h
 obtain ⟨hp0,hp1,hp2,hp3,hp4,hp5,hp6,hp7,hp8,_⟩ := conj_of hp
 exact ⟨(hp0),(hp1),(hp2),(hp3),(hp4),(hp5),(hp6),(hp7),(hp8),h⟩
abbrev t_base_RatioMul (p0:(Int×List Int)×(Int×List Int)) (p1:(Int×List Int)×(Int×List Int)):(Int×List Int)×(Int×List Int) := v_rmul p0 p1
abbrev qre_base_RatioMul (p0:(Int×List Int)×(Int×List Int)) (p1:(Int×List Int)×(Int×List Int)):List Prop := [v_rok p0,v_rok p1]
theorem pp_base_RatioMul (p0:(Int×List Int)×(Int×List Int)) (p1:(Int×List Int)×(Int×List Int)) (hq:∀ p∈qre_base_RatioMul p0 p1,p):∀ p∈pre_base_RatioMul p0 p1,p := by
 obtain ⟨h1,h2,_⟩ := conj_of hq
 obtain ⟨p,rfl,a1,a2⟩ := h1.ex
 obtain ⟨q,rfl,b1,b2⟩ := h2.ex
 have m3 := v_dl_mul p.num q.num
 have m4 := v_dl_mul p.den q.den
 have hne:(p.den:Int) * (q.den:Int) ≠ 0 := Int.mul_ne_zero (v_den_ne p) (v_den_ne q)
 simp only [pre_base_RatioMul,List.forall_mem_cons,v_rat_1,v_rat_2,v_wval_wide]
 and_intros
 all_goals first
  | (intro p hp; cases hp; done)
  | (intros; assumption)
  | (intros; rw [v_wval_wide]; assumption)
  | (intros; apply v_wok_of; omega)
  | (intros; rw [v_wide_len]; omega)
  | omega
  | (unfold v_fit at *; omega)
theorem tt_base_RatioMul (p0:(Int×List Int)×(Int×List Int)) (p1:(Int×List Int)×(Int×List Int)) (hq:∀ p∈qre_base_RatioMul p0 p1,p):s_base_RatioMul p0 p1 = t_base_RatioMul p0 p1 := by
 obtain ⟨h1,h2,_⟩ := conj_of hq
 obtain ⟨p,rfl,a1,a2⟩ := h1.ex
 obtain ⟨q,rfl,b1,b2⟩ := h2.ex
 unfold s_base_RatioMul t_base_RatioMul v_rmul v_rmk
 simp only [v_rat_1,v_rat_2,v_rv_rat,v_wval_wide]
 rw [v_qmul]

abbrev con_base_RatioMul:Con := ⟨P_base_RatioMul,R_base_RatioMul,fun x => qre_base_RatioMul x.1 x.2,fun x => t_base_RatioMul x.1 x.2⟩
theorem ok_base_RatioMul:ConOk Try.prog 86 con_base_RatioMul := ⟨k_base_RatioMul,fun x hx => ret_tf (ps := P_base_RatioMul) (rs := R_base_RatioMul) (x := x) (y := t_base_RatioMul x.1 x.2) e_base_RatioMul hC_base_RatioMul (tf_of (w_base_RatioMul_eq x.1 x.2 (fun z => z = t_base_RatioMul x.1 x.2)) (d_base_RatioMul x.1 x.2 (fun z => z = t_base_RatioMul x.1 x.2) (pp_base_RatioMul x.1 x.2 hx) (tt_base_RatioMul x.1 x.2 hx)))⟩
/- base_RatioInt -/
def C_base_RatioInt:Cons := [(127,[],con_base_WideOf)]
theorem hC_base_RatioInt:ConsOk Try.prog C_base_RatioInt := ConsOk.cons ok_base_WideOf <| ConsOk.nil
def w_base_RatioInt (p0:Int) (K:((Int×(List Int))×(Int×(List Int)))→Prop):Prop :=
  ((v_fit p0) ∧
 ((v_fit (1:Int)) ∧
 (K ((v_wide p0),(v_wide (1:Int))))))
set_option maxHeartbeats 4000000 in
theorem w_base_RatioInt_eq (p0:Int) (K:((Int×(List Int))×(Int×(List Int)))→Prop):tfn F_base_RatioInt A_base_RatioInt C_base_RatioInt P_base_RatioInt R_base_RatioInt p0 K = w_base_RatioInt p0 K := by kernel_rfl
def s_base_RatioInt (p0:Int):((Int×(List Int))×(Int×(List Int))) :=
 ((v_wide p0),(v_wide (1:Int)))
abbrev pre_base_RatioInt (p0:Int):List Prop := [(v_fit p0),
  (v_fit (1:Int))]
set_option maxHeartbeats 4000000 in
theorem d_base_RatioInt (p0:Int) (K:((Int×(List Int))×(Int×(List Int)))→Prop) (hp:∀ p∈pre_base_RatioInt p0,p) (h:K (s_base_RatioInt p0)):w_base_RatioInt p0 K := by
 unfold w_base_RatioInt
 unfold s_base_RatioInt at h
 obtain ⟨hp0,hp1,_⟩ := conj_of hp
 exact ⟨(hp0),(hp1),h⟩
abbrev t_base_RatioInt (p0:Int):(Int×List Int)×(Int×List Int) := v_rint p0
abbrev qre_base_RatioInt (p0:Int):List Prop := [v_fit p0]
theorem pp_base_RatioInt (p0:Int) (hq:∀ p∈qre_base_RatioInt p0,p):∀ p∈pre_base_RatioInt p0,p := by
 obtain ⟨h1,_⟩ := conj_of hq
 simp only [pre_base_RatioInt,List.forall_mem_cons]
 and_intros
 all_goals first
  | (intro p hp; cases hp; done)
  | (intros; assumption)
  | (intros; rw [v_wval_wide]; assumption)
  | (intros; apply v_wok_of; omega)
  | (intros; rw [v_wide_len]; omega)
  | omega
  | (unfold v_fit at *; omega)
theorem tt_base_RatioInt (p0:Int) (_hq:∀ p∈qre_base_RatioInt p0,p):s_base_RatioInt p0 = t_base_RatioInt p0 := by
 unfold s_base_RatioInt t_base_RatioInt
 rfl

abbrev con_base_RatioInt:Con := ⟨P_base_RatioInt,R_base_RatioInt,fun x => qre_base_RatioInt x,fun x => t_base_RatioInt x⟩
theorem ok_base_RatioInt:ConOk Try.prog 84 con_base_RatioInt := ⟨k_base_RatioInt,fun x hx => ret_tf (ps := P_base_RatioInt) (rs := R_base_RatioInt) (x := x) (y := t_base_RatioInt x) e_base_RatioInt hC_base_RatioInt (tf_of (w_base_RatioInt_eq x (fun z => z = t_base_RatioInt x)) (d_base_RatioInt x (fun z => z = t_base_RatioInt x) (pp_base_RatioInt x hx) (tt_base_RatioInt x hx)))⟩
/- base_RatioAdd -/
def C_base_RatioAdd:Cons := [(129,[],con_base_WideMul),(130,[],con_base_WideAdd),(128,[],con_base_RatioMake)]
theorem hC_base_RatioAdd:ConsOk Try.prog C_base_RatioAdd := ConsOk.cons ok_base_WideMul <| ConsOk.cons ok_base_WideAdd <| ConsOk.cons ok_base_RatioMake <| ConsOk.nil
def w_base_RatioAdd (p0:((Int×(List Int))×(Int×(List Int)))) (p1:((Int×(List Int))×(Int×(List Int)))) (K:((Int×(List Int))×(Int×(List Int)))→Prop):Prop :=
  ((v_wok p0.1) ∧
 ((v_wok p1.2) ∧
 ((v_wok p1.1) ∧
 ((v_wok p0.2) ∧
 ((v_wok (v_wide ((v_wval p0.1) * (v_wval p1.2)))) ∧
 ((v_wok (v_wide ((v_wval p1.1) * (v_wval p0.2)))) ∧
 ((v_wok p0.2) ∧
 ((v_wok p1.2) ∧
 ((v_wok (v_wide ((v_wval (v_wide ((v_wval p0.1) * (v_wval p1.2)))) + (v_wval (v_wide ((v_wval p1.1) * (v_wval p0.2))))))) ∧
 ((v_wok (v_wide ((v_wval p0.2) * (v_wval p1.2)))) ∧
 (((List.length (v_wide ((v_wval (v_wide ((v_wval p0.1) * (v_wval p1.2)))) + (v_wval (v_wide ((v_wval p1.1) * (v_wval p0.2)))))).2)≤400000000000) ∧
 (((List.length (v_wide ((v_wval p0.2) * (v_wval p1.2))).2)≤400000000000) ∧
 (((v_wval (v_wide ((v_wval p0.2) * (v_wval p1.2)))) ≠ (0:Int)) ∧
 (K (v_rmk (v_wval (v_wide ((v_wval (v_wide ((v_wval p0.1) * (v_wval p1.2)))) + (v_wval (v_wide ((v_wval p1.1) * (v_wval p0.2))))))) (v_wval (v_wide ((v_wval p0.2) * (v_wval p1.2)))))))))))))))))))
set_option maxHeartbeats 4000000 in
theorem w_base_RatioAdd_eq (p0:((Int×(List Int))×(Int×(List Int)))) (p1:((Int×(List Int))×(Int×(List Int)))) (K:((Int×(List Int))×(Int×(List Int)))→Prop):tfn F_base_RatioAdd A_base_RatioAdd C_base_RatioAdd P_base_RatioAdd R_base_RatioAdd (p0,p1) K = w_base_RatioAdd p0 p1 K := by kernel_rfl
def s_base_RatioAdd (p0:((Int×(List Int))×(Int×(List Int)))) (p1:((Int×(List Int))×(Int×(List Int)))):((Int×(List Int))×(Int×(List Int))) :=
 (v_rmk (v_wval (v_wide ((v_wval (v_wide ((v_wval p0.1) * (v_wval p1.2)))) + (v_wval (v_wide ((v_wval p1.1) * (v_wval p0.2))))))) (v_wval (v_wide ((v_wval p0.2) * (v_wval p1.2)))))
abbrev pre_base_RatioAdd (p0:((Int×(List Int))×(Int×(List Int)))) (p1:((Int×(List Int))×(Int×(List Int)))):List Prop := [(v_wok p0.1),
  (v_wok p1.2),
  (v_wok p1.1),
  (v_wok p0.2),
  (v_wok (v_wide ((v_wval p0.1) * (v_wval p1.2)))),
  (v_wok (v_wide ((v_wval p1.1) * (v_wval p0.2)))),
  (v_wok (v_wide ((v_wval (v_wide ((v_wval p0.1) * (v_wval p1.2)))) + (v_wval (v_wide ((v_wval p1.1) * (v_wval p0.2))))))),
  (v_wok (v_wide ((v_wval p0.2) * (v_wval p1.2)))),
  ((List.length (v_wide ((v_wval (v_wide ((v_wval p0.1) * (v_wval p1.2)))) + (v_wval (v_wide ((v_wval p1.1) * (v_wval p0.2)))))).2)≤400000000000),
  ((List.length (v_wide ((v_wval p0.2) * (v_wval p1.2))).2)≤400000000000),
  ((v_wval (v_wide ((v_wval p0.2) * (v_wval p1.2)))) ≠ (0:Int))]
set_option maxHeartbeats 4000000 in
theorem d_base_RatioAdd (p0:((Int×(List Int))×(Int×(List Int)))) (p1:((Int×(List Int))×(Int×(List Int)))) (K:((Int×(List Int))×(Int×(List Int)))→Prop) (hp:∀ p∈pre_base_RatioAdd p0 p1,p) (h:K (s_base_RatioAdd p0 p1)):w_base_RatioAdd p0 p1 K := by
 unfold w_base_RatioAdd
 unfold s_base_RatioAdd at h
 obtain ⟨hp0,hp1,hp2,hp3,hp4,hp5,hp6,hp7,hp8,hp9,hp10,_⟩ := conj_of hp
 exact ⟨(hp0),(hp1),(hp2),(hp3),(hp4),(hp5),(hp3),(hp1),(hp6),(hp7),(hp8),(hp9),(hp10),h⟩
abbrev t_base_RatioAdd (p0:(Int×List Int)×(Int×List Int)) (p1:(Int×List Int)×(Int×List Int)):(Int×List Int)×(Int×List Int) := v_radd p0 p1
abbrev qre_base_RatioAdd (p0:(Int×List Int)×(Int×List Int)) (p1:(Int×List Int)×(Int×List Int)):List Prop := [v_rok p0,v_rok p1]
theorem pp_base_RatioAdd (p0:(Int×List Int)×(Int×List Int)) (p1:(Int×List Int)×(Int×List Int)) (hq:∀ p∈qre_base_RatioAdd p0 p1,p):∀ p∈pre_base_RatioAdd p0 p1,p := by
 obtain ⟨h1,h2,_⟩ := conj_of hq
 obtain ⟨p,rfl,a1,a2⟩ := h1.ex
 obtain ⟨q,rfl,b1,b2⟩ := h2.ex
 have m1 := v_dl_mul p.num q.den
 have m2 := v_dl_mul q.num p.den
 have m3 := v_dl_add (p.num * q.den) (q.num * p.den)
 have m4 := v_dl_mul p.den q.den
 have hne:(p.den:Int) * (q.den:Int) ≠ 0 := Int.mul_ne_zero (v_den_ne p) (v_den_ne q)
 simp only [pre_base_RatioAdd,List.forall_mem_cons,v_rat_1,v_rat_2,v_wval_wide]
 and_intros
 all_goals first
  | (intro p hp; cases hp; done)
  | (intros; assumption)
  | (intros; rw [v_wval_wide]; assumption)
  | (intros; apply v_wok_of; omega)
  | (intros; rw [v_wide_len]; omega)
  | omega
  | (unfold v_fit at *; omega)
theorem tt_base_RatioAdd (p0:(Int×List Int)×(Int×List Int)) (p1:(Int×List Int)×(Int×List Int)) (hq:∀ p∈qre_base_RatioAdd p0 p1,p):s_base_RatioAdd p0 p1 = t_base_RatioAdd p0 p1 := by
 obtain ⟨h1,h2,_⟩ := conj_of hq
 obtain ⟨p,rfl,a1,a2⟩ := h1.ex
 obtain ⟨q,rfl,b1,b2⟩ := h2.ex
 unfold s_base_RatioAdd t_base_RatioAdd v_radd v_rmk
 simp only [v_rat_1,v_rat_2,v_rv_rat,v_wval_wide]
 rw [v_qadd]

abbrev con_base_RatioAdd:Con := ⟨P_base_RatioAdd,R_base_RatioAdd,fun x => qre_base_RatioAdd x.1 x.2,fun x => t_base_RatioAdd x.1 x.2⟩
theorem ok_base_RatioAdd:ConOk Try.prog 87 con_base_RatioAdd := ⟨k_base_RatioAdd,fun x hx => ret_tf (ps := P_base_RatioAdd) (rs := R_base_RatioAdd) (x := x) (y := t_base_RatioAdd x.1 x.2) e_base_RatioAdd hC_base_RatioAdd (tf_of (w_base_RatioAdd_eq x.1 x.2 (fun z => z = t_base_RatioAdd x.1 x.2)) (d_base_RatioAdd x.1 x.2 (fun z => z = t_base_RatioAdd x.1 x.2) (pp_base_RatioAdd x.1 x.2 hx) (tt_base_RatioAdd x.1 x.2 hx)))⟩
/- base_RatioDiv -/
def C_base_RatioDiv:Cons := [(129,[],con_base_WideMul),(128,[],con_base_RatioMake)]
theorem hC_base_RatioDiv:ConsOk Try.prog C_base_RatioDiv := ConsOk.cons ok_base_WideMul <| ConsOk.cons ok_base_RatioMake <| ConsOk.nil
def w_base_RatioDiv (p0:((Int×(List Int))×(Int×(List Int)))) (p1:((Int×(List Int))×(Int×(List Int)))) (K:((Int×(List Int))×(Int×(List Int)))→Prop):Prop :=
  ((v_wok p0.1) ∧
 ((v_wok p1.2) ∧
 ((v_wok p0.2) ∧
 ((v_wok p1.1) ∧
 ((v_wok (v_wide ((v_wval p0.1) * (v_wval p1.2)))) ∧
 ((v_wok (v_wide ((v_wval p0.2) * (v_wval p1.1)))) ∧
 (((List.length (v_wide ((v_wval p0.1) * (v_wval p1.2))).2)≤400000000000) ∧
 (((List.length (v_wide ((v_wval p0.2) * (v_wval p1.1))).2)≤400000000000) ∧
 (((v_wval (v_wide ((v_wval p0.2) * (v_wval p1.1)))) ≠ (0:Int)) ∧
 (K (v_rmk (v_wval (v_wide ((v_wval p0.1) * (v_wval p1.2)))) (v_wval (v_wide ((v_wval p0.2) * (v_wval p1.1)))))))))))))))
set_option maxHeartbeats 4000000 in
theorem w_base_RatioDiv_eq (p0:((Int×(List Int))×(Int×(List Int)))) (p1:((Int×(List Int))×(Int×(List Int)))) (K:((Int×(List Int))×(Int×(List Int)))→Prop):tfn F_base_RatioDiv A_base_RatioDiv C_base_RatioDiv P_base_RatioDiv R_base_RatioDiv (p0,p1) K = w_base_RatioDiv p0 p1 K := by kernel_rfl
def s_base_RatioDiv (p0:((Int×(List Int))×(Int×(List Int)))) (p1:((Int×(List Int))×(Int×(List Int)))):((Int×(List Int))×(Int×(List Int))) :=
 (v_rmk (v_wval (v_wide ((v_wval p0.1) * (v_wval p1.2)))) (v_wval (v_wide ((v_wval p0.2) * (v_wval p1.1)))))
abbrev pre_base_RatioDiv (p0:((Int×(List Int))×(Int×(List Int)))) (p1:((Int×(List Int))×(Int×(List Int)))):List Prop := [(v_wok p0.1),
  (v_wok p1.2),
  (v_wok p0.2),
  (v_wok p1.1),
  (v_wok (v_wide ((v_wval p0.1) * (v_wval p1.2)))),
  (v_wok (v_wide ((v_wval p0.2) * (v_wval p1.1)))),
  ((List.length (v_wide ((v_wval p0.1) * (v_wval p1.2))).2)≤400000000000),
  ((List.length (v_wide ((v_wval p0.2) * (v_wval p1.1))).2)≤400000000000),
  ((v_wval (v_wide ((v_wval p0.2) * (v_wval p1.1)))) ≠ (0:Int))]
set_option maxHeartbeats 4000000 in
theorem d_base_RatioDiv (p0:((Int×(List Int))×(Int×(List Int)))) (p1:((Int×(List Int))×(Int×(List Int)))) (K:((Int×(List Int))×(Int×(List Int)))→Prop) (hp:∀ p∈pre_base_RatioDiv p0 p1,p) (h:K (s_base_RatioDiv p0 p1)):w_base_RatioDiv p0 p1 K := by
 unfold w_base_RatioDiv
 unfold s_base_RatioDiv at h
 obtain ⟨hp0,hp1,hp2,hp3,hp4,hp5,hp6,hp7,hp8,_⟩ := conj_of hp
 exact ⟨(hp0),(hp1),(hp2),(hp3),(hp4),(hp5),(hp6),(hp7),(hp8),h⟩
abbrev t_base_RatioDiv (p0:(Int×List Int)×(Int×List Int)) (p1:(Int×List Int)×(Int×List Int)):(Int×List Int)×(Int×List Int) := v_rdiv p0 p1
abbrev qre_base_RatioDiv (p0:(Int×List Int)×(Int×List Int)) (p1:(Int×List Int)×(Int×List Int)):List Prop := [v_rok p0,v_rok p1,v_rv p1 ≠ 0]
theorem pp_base_RatioDiv (p0:(Int×List Int)×(Int×List Int)) (p1:(Int×List Int)×(Int×List Int)) (hq:∀ p∈qre_base_RatioDiv p0 p1,p):∀ p∈pre_base_RatioDiv p0 p1,p := by
 obtain ⟨h1,h2,h3,_⟩ := conj_of hq
 obtain ⟨p,rfl,a1,a2⟩ := h1.ex
 obtain ⟨q,rfl,b1,b2⟩ := h2.ex
 rw [v_rv_rat] at h3
 have hn:q.num ≠ 0 := fun e => h3 (Rat.num_eq_zero.1 e)
 have m3 := v_dl_mul p.num q.den
 have m4 := v_dl_mul p.den q.num
 have hne:(p.den:Int) * q.num ≠ 0 := Int.mul_ne_zero (v_den_ne p) hn
 simp only [pre_base_RatioDiv,List.forall_mem_cons,v_rat_1,v_rat_2,v_wval_wide]
 and_intros
 all_goals first
  | (intro p hp; cases hp; done)
  | (intros; assumption)
  | (intros; rw [v_wval_wide]; assumption)
  | (intros; apply v_wok_of; omega)
  | (intros; rw [v_wide_len]; omega)
  | omega
  | (unfold v_fit at *; omega)
theorem tt_base_RatioDiv (p0:(Int×List Int)×(Int×List Int)) (p1:(Int×List Int)×(Int×List Int)) (hq:∀ p∈qre_base_RatioDiv p0 p1,p):s_base_RatioDiv p0 p1 = t_base_RatioDiv p0 p1 := by
 obtain ⟨h1,h2,h3,_⟩ := conj_of hq
 obtain ⟨p,rfl,a1,a2⟩ := h1.ex
 obtain ⟨q,rfl,b1,b2⟩ := h2.ex
 rw [v_rv_rat] at h3
 have hn:q.num ≠ 0 := fun e => h3 (Rat.num_eq_zero.1 e)
 unfold s_base_RatioDiv t_base_RatioDiv v_rdiv v_rmk
 simp only [v_rat_1,v_rat_2,v_rv_rat,v_wval_wide]
 rw [v_qdiv p q hn]

abbrev con_base_RatioDiv:Con := ⟨P_base_RatioDiv,R_base_RatioDiv,fun x => qre_base_RatioDiv x.1 x.2,fun x => t_base_RatioDiv x.1 x.2⟩
theorem ok_base_RatioDiv:ConOk Try.prog 88 con_base_RatioDiv := ⟨k_base_RatioDiv,fun x hx => ret_tf (ps := P_base_RatioDiv) (rs := R_base_RatioDiv) (x := x) (y := t_base_RatioDiv x.1 x.2) e_base_RatioDiv hC_base_RatioDiv (tf_of (w_base_RatioDiv_eq x.1 x.2 (fun z => z = t_base_RatioDiv x.1 x.2)) (d_base_RatioDiv x.1 x.2 (fun z => z = t_base_RatioDiv x.1 x.2) (pp_base_RatioDiv x.1 x.2 hx) (tt_base_RatioDiv x.1 x.2 hx)))⟩
/- ref04_Response -/
def C_ref04_Response:Cons := [(84,[],con_base_RatioInt),(85,[],con_base_RatioOf),(86,[],con_base_RatioMul),(87,[],con_base_RatioAdd),(88,[],con_base_RatioDiv)]
theorem hC_ref04_Response:ConsOk Try.prog C_ref04_Response := ConsOk.cons ok_base_RatioInt <| ConsOk.cons ok_base_RatioOf <| ConsOk.cons ok_base_RatioMul <| ConsOk.cons ok_base_RatioAdd <| ConsOk.cons ok_base_RatioDiv <| ConsOk.nil
abbrev q0_ref04_Response (p0:(List (Int×Int))) (y1:(Int×(Int×((List Int)×(Int×(List Int)))))) := (p0.getD y1.1.toNat (zz0,zz0))
def w_ref04_Response (p0:(List (Int×Int))) (p1:Int) (K:((Int×(List Int))×(Int×(List Int)))→Prop):Prop :=
  ((zz0≤(wi ((List.length p0:Int) - zz1))) ∧
 (((wi ((List.length p0:Int) - zz1)) < (List.length p0:Int)) ∧
 ((v_fit (p0.getD (Int.toNat (wi ((List.length p0:Int) - zz1))) (zz0,zz0)).1) ∧
 (∃ n0,(loopP (fun (y1:(Int×(Int×((List Int)×(Int×(List Int)))))) k2 =>
  ((((decide (y1.1 ≥ zz0))=true) →
  ((zz0≤y1.1) ∧
   ((y1.1 < (List.length p0:Int)) ∧
   ((v_fit (q0_ref04_Response p0 y1).1) ∧
   ((v_fit (q0_ref04_Response p0 y1).2) ∧
   ((v_fit (wi ((q0_ref04_Response p0 y1).2 + p1))) ∧
   (((wi ((q0_ref04_Response p0 y1).2 + p1)) ≠ zz0) ∧
   ((v_rok (v_rint (q0_ref04_Response p0 y1).1)) ∧
   ((v_rok (v_rmk (q0_ref04_Response p0 y1).2 (wi ((q0_ref04_Response p0 y1).2 + p1)))) ∧
   ((v_rok ((y1.2.1,y1.2.2.1),y1.2.2.2)) ∧
   ((v_rok (v_rmul (v_rint (q0_ref04_Response p0 y1).1) (v_rmk (q0_ref04_Response p0 y1).2 (wi ((q0_ref04_Response p0 y1).2 + p1))))) ∧
   ((v_rok (v_rint (q0_ref04_Response p0 y1).1)) ∧
   ((v_rok (v_radd ((y1.2.1,y1.2.2.1),y1.2.2.2) (v_rmul (v_rint (q0_ref04_Response p0 y1).1) (v_rmk (q0_ref04_Response p0 y1).2 (wi ((q0_ref04_Response p0 y1).2 + p1)))))) ∧
   ((v_rok ((y1.2.1,y1.2.2.1),y1.2.2.2)) ∧
   ((v_rok (v_rmk (q0_ref04_Response p0 y1).2 (wi ((q0_ref04_Response p0 y1).2 + p1)))) ∧
   ((v_rok (v_rint (q0_ref04_Response p0 y1).1)) ∧
   ((v_rok (v_rmul ((y1.2.1,y1.2.2.1),y1.2.2.2) (v_rmk (q0_ref04_Response p0 y1).2 (wi ((q0_ref04_Response p0 y1).2 + p1))))) ∧
   ((v_rok (v_rmul (v_rint (q0_ref04_Response p0 y1).1) (v_radd ((y1.2.1,y1.2.2.1),y1.2.2.2) (v_rmul (v_rint (q0_ref04_Response p0 y1).1) (v_rmk (q0_ref04_Response p0 y1).2 (wi ((q0_ref04_Response p0 y1).2 + p1))))))) ∧
   ((v_rok (v_radd (v_rint (q0_ref04_Response p0 y1).1) (v_rmul ((y1.2.1,y1.2.2.1),y1.2.2.2) (v_rmk (q0_ref04_Response p0 y1).2 (wi ((q0_ref04_Response p0 y1).2 + p1)))))) ∧
   (((v_rv (v_radd (v_rint (q0_ref04_Response p0 y1).1) (v_rmul ((y1.2.1,y1.2.2.1),y1.2.2.2) (v_rmk (q0_ref04_Response p0 y1).2 (wi ((q0_ref04_Response p0 y1).2 + p1)))))) ≠ 0) ∧
   (k2 ((wi (y1.1 - zz1)),((v_rdiv (v_rmul (v_rint (q0_ref04_Response p0 y1).1) (v_radd ((y1.2.1,y1.2.2.1),y1.2.2.2) (v_rmul (v_rint (q0_ref04_Response p0 y1).1) (v_rmk (q0_ref04_Response p0 y1).2 (wi ((q0_ref04_Response p0 y1).2 + p1)))))) (v_radd (v_rint (q0_ref04_Response p0 y1).1) (v_rmul ((y1.2.1,y1.2.2.1),y1.2.2.2) (v_rmk (q0_ref04_Response p0 y1).2 (wi ((q0_ref04_Response p0 y1).2 + p1)))))).1.1,((v_rdiv (v_rmul (v_rint (q0_ref04_Response p0 y1).1) (v_radd ((y1.2.1,y1.2.2.1),y1.2.2.2) (v_rmul (v_rint (q0_ref04_Response p0 y1).1) (v_rmk (q0_ref04_Response p0 y1).2 (wi ((q0_ref04_Response p0 y1).2 + p1)))))) (v_radd (v_rint (q0_ref04_Response p0 y1).1) (v_rmul ((y1.2.1,y1.2.2.1),y1.2.2.2) (v_rmk (q0_ref04_Response p0 y1).2 (wi ((q0_ref04_Response p0 y1).2 + p1)))))).1.2,(v_rdiv (v_rmul (v_rint (q0_ref04_Response p0 y1).1) (v_radd ((y1.2.1,y1.2.2.1),y1.2.2.2) (v_rmul (v_rint (q0_ref04_Response p0 y1).1) (v_rmk (q0_ref04_Response p0 y1).2 (wi ((q0_ref04_Response p0 y1).2 + p1)))))) (v_radd (v_rint (q0_ref04_Response p0 y1).1) (v_rmul ((y1.2.1,y1.2.2.1),y1.2.2.2) (v_rmk (q0_ref04_Response p0 y1).2 (wi ((q0_ref04_Response p0 y1).2 + p1)))))).2)))))))))))))))))))))))) ∧
  (((decide (y1.1 ≥ zz0))=false) →
  (K ((y1.2.1,y1.2.2.1),y1.2.2.2))))) n0 ((wi ((List.length p0:Int) - zz2)),((v_rint (p0.getD (Int.toNat (wi ((List.length p0:Int) - zz1))) (zz0,zz0)).1).1.1,((v_rint (p0.getD (Int.toNat (wi ((List.length p0:Int) - zz1))) (zz0,zz0)).1).1.2,(v_rint (p0.getD (Int.toNat (wi ((List.length p0:Int) - zz1))) (zz0,zz0)).1).2))))))))
set_option maxHeartbeats 4000000 in
theorem w_ref04_Response_eq (p0:(List (Int×Int))) (p1:Int) (K:((Int×(List Int))×(Int×(List Int)))→Prop):tfn F_ref04_Response A_ref04_Response C_ref04_Response P_ref04_Response R_ref04_Response (p0,p1) K = w_ref04_Response p0 p1 K := by kernel_rfl
def st_ref04_Response_0 (p0:(List (Int×Int))) (p1:Int) (y0:(Int×(Int×((List Int)×(Int×(List Int)))))):(Int×(Int×((List Int)×(Int×(List Int))))) ⊕ ((Int×(List Int))×(Int×(List Int))) :=
 (cond (decide (y0.1 ≥ 0)) (Sum.inl ((IntKind.i64.wrap (y0.1 - 1)),((v_rdiv (v_rmul (v_rint (p0.getD y0.1.toNat ((0:Int),(0:Int))).1) (v_radd ((y0.2.1,y0.2.2.1),y0.2.2.2) (v_rmul (v_rint (p0.getD y0.1.toNat ((0:Int),(0:Int))).1) (v_rmk (p0.getD y0.1.toNat ((0:Int),(0:Int))).2 (IntKind.i64.wrap ((p0.getD y0.1.toNat ((0:Int),(0:Int))).2 + p1)))))) (v_radd (v_rint (p0.getD y0.1.toNat ((0:Int),(0:Int))).1) (v_rmul ((y0.2.1,y0.2.2.1),y0.2.2.2) (v_rmk (p0.getD y0.1.toNat ((0:Int),(0:Int))).2 (IntKind.i64.wrap ((p0.getD y0.1.toNat ((0:Int),(0:Int))).2 + p1)))))).1.1,((v_rdiv (v_rmul (v_rint (p0.getD y0.1.toNat ((0:Int),(0:Int))).1) (v_radd ((y0.2.1,y0.2.2.1),y0.2.2.2) (v_rmul (v_rint (p0.getD y0.1.toNat ((0:Int),(0:Int))).1) (v_rmk (p0.getD y0.1.toNat ((0:Int),(0:Int))).2 (IntKind.i64.wrap ((p0.getD y0.1.toNat ((0:Int),(0:Int))).2 + p1)))))) (v_radd (v_rint (p0.getD y0.1.toNat ((0:Int),(0:Int))).1) (v_rmul ((y0.2.1,y0.2.2.1),y0.2.2.2) (v_rmk (p0.getD y0.1.toNat ((0:Int),(0:Int))).2 (IntKind.i64.wrap ((p0.getD y0.1.toNat ((0:Int),(0:Int))).2 + p1)))))).1.2,(v_rdiv (v_rmul (v_rint (p0.getD y0.1.toNat ((0:Int),(0:Int))).1) (v_radd ((y0.2.1,y0.2.2.1),y0.2.2.2) (v_rmul (v_rint (p0.getD y0.1.toNat ((0:Int),(0:Int))).1) (v_rmk (p0.getD y0.1.toNat ((0:Int),(0:Int))).2 (IntKind.i64.wrap ((p0.getD y0.1.toNat ((0:Int),(0:Int))).2 + p1)))))) (v_radd (v_rint (p0.getD y0.1.toNat ((0:Int),(0:Int))).1) (v_rmul ((y0.2.1,y0.2.2.1),y0.2.2.2) (v_rmk (p0.getD y0.1.toNat ((0:Int),(0:Int))).2 (IntKind.i64.wrap ((p0.getD y0.1.toNat ((0:Int),(0:Int))).2 + p1)))))).2))))
  (Sum.inr ((y0.2.1,y0.2.2.1),y0.2.2.2)))
abbrev sp_ref04_Response_0 (p0:(List (Int×Int))) (p1:Int) (y0:(Int×(Int×((List Int)×(Int×(List Int)))))):List Prop := [(((decide (y0.1 ≥ 0))=true)→((0:Int)≤y0.1)),
  (((decide (y0.1 ≥ 0))=true)→(y0.1 < (List.length p0:Int))),
  (((decide (y0.1 ≥ 0))=true)→(v_fit (p0.getD y0.1.toNat ((0:Int),(0:Int))).1)),
  (((decide (y0.1 ≥ 0))=true)→(v_fit (p0.getD y0.1.toNat ((0:Int),(0:Int))).2)),
  (((decide (y0.1 ≥ 0))=true)→(v_fit (IntKind.i64.wrap ((p0.getD y0.1.toNat ((0:Int),(0:Int))).2 + p1)))),
  (((decide (y0.1 ≥ 0))=true)→((IntKind.i64.wrap ((p0.getD y0.1.toNat ((0:Int),(0:Int))).2 + p1)) ≠ (0:Int))),
  (((decide (y0.1 ≥ 0))=true)→(v_rok (v_rint (p0.getD y0.1.toNat ((0:Int),(0:Int))).1))),
  (((decide (y0.1 ≥ 0))=true)→(v_rok (v_rmk (p0.getD y0.1.toNat ((0:Int),(0:Int))).2 (IntKind.i64.wrap ((p0.getD y0.1.toNat ((0:Int),(0:Int))).2 + p1))))),
  (((decide (y0.1 ≥ 0))=true)→(v_rok ((y0.2.1,y0.2.2.1),y0.2.2.2))),
  (((decide (y0.1 ≥ 0))=true)→(v_rok (v_rmul (v_rint (p0.getD y0.1.toNat ((0:Int),(0:Int))).1) (v_rmk (p0.getD y0.1.toNat ((0:Int),(0:Int))).2 (IntKind.i64.wrap ((p0.getD y0.1.toNat ((0:Int),(0:Int))).2 + p1)))))),
  (((decide (y0.1 ≥ 0))=true)→(v_rok (v_radd ((y0.2.1,y0.2.2.1),y0.2.2.2) (v_rmul (v_rint (p0.getD y0.1.toNat ((0:Int),(0:Int))).1) (v_rmk (p0.getD y0.1.toNat ((0:Int),(0:Int))).2 (IntKind.i64.wrap ((p0.getD y0.1.toNat ((0:Int),(0:Int))).2 + p1))))))),
  (((decide (y0.1 ≥ 0))=true)→(v_rok (v_rmul ((y0.2.1,y0.2.2.1),y0.2.2.2) (v_rmk (p0.getD y0.1.toNat ((0:Int),(0:Int))).2 (IntKind.i64.wrap ((p0.getD y0.1.toNat ((0:Int),(0:Int))).2 + p1)))))),
  (((decide (y0.1 ≥ 0))=true)→(v_rok (v_rmul (v_rint (p0.getD y0.1.toNat ((0:Int),(0:Int))).1) (v_radd ((y0.2.1,y0.2.2.1),y0.2.2.2) (v_rmul (v_rint (p0.getD y0.1.toNat ((0:Int),(0:Int))).1) (v_rmk (p0.getD y0.1.toNat ((0:Int),(0:Int))).2 (IntKind.i64.wrap ((p0.getD y0.1.toNat ((0:Int),(0:Int))).2 + p1)))))))),
  (((decide (y0.1 ≥ 0))=true)→(v_rok (v_radd (v_rint (p0.getD y0.1.toNat ((0:Int),(0:Int))).1) (v_rmul ((y0.2.1,y0.2.2.1),y0.2.2.2) (v_rmk (p0.getD y0.1.toNat ((0:Int),(0:Int))).2 (IntKind.i64.wrap ((p0.getD y0.1.toNat ((0:Int),(0:Int))).2 + p1))))))),
  (((decide (y0.1 ≥ 0))=true)→((v_rv (v_radd (v_rint (p0.getD y0.1.toNat ((0:Int),(0:Int))).1) (v_rmul ((y0.2.1,y0.2.2.1),y0.2.2.2) (v_rmk (p0.getD y0.1.toNat ((0:Int),(0:Int))).2 (IntKind.i64.wrap ((p0.getD y0.1.toNat ((0:Int),(0:Int))).2 + p1)))))) ≠ 0))]
def s_ref04_Response (p0:(List (Int×Int))) (p1:Int):((Int×(List Int))×(Int×(List Int))) :=
 (lpv (((0:Int),[]),((0:Int),[])) (st_ref04_Response_0 p0 p1) ((IntKind.i64.wrap ((List.length p0:Int) - 2)),((v_rint (p0.getD (Int.toNat (IntKind.i64.wrap ((List.length p0:Int) - 1))) ((0:Int),(0:Int))).1).1.1,((v_rint (p0.getD (Int.toNat (IntKind.i64.wrap ((List.length p0:Int) - 1))) ((0:Int),(0:Int))).1).1.2,(v_rint (p0.getD (Int.toNat (IntKind.i64.wrap ((List.length p0:Int) - 1))) ((0:Int),(0:Int))).1).2))))
abbrev pre_ref04_Response (p0:(List (Int×Int))) (p1:Int):List Prop := [((0:Int)≤(IntKind.i64.wrap ((List.length p0:Int) - 1))),
  ((IntKind.i64.wrap ((List.length p0:Int) - 1)) < (List.length p0:Int)),
  (v_fit (p0.getD (Int.toNat (IntKind.i64.wrap ((List.length p0:Int) - 1))) ((0:Int),(0:Int))).1),
  (OkL (st_ref04_Response_0 p0 p1) (sp_ref04_Response_0 p0 p1) ((IntKind.i64.wrap ((List.length p0:Int) - 2)),((v_rint (p0.getD (Int.toNat (IntKind.i64.wrap ((List.length p0:Int) - 1))) ((0:Int),(0:Int))).1).1.1,((v_rint (p0.getD (Int.toNat (IntKind.i64.wrap ((List.length p0:Int) - 1))) ((0:Int),(0:Int))).1).1.2,(v_rint (p0.getD (Int.toNat (IntKind.i64.wrap ((List.length p0:Int) - 1))) ((0:Int),(0:Int))).1).2))))]
set_option maxHeartbeats 4000000 in
theorem d_ref04_Response (p0:(List (Int×Int))) (p1:Int) (K:((Int×(List Int))×(Int×(List Int)))→Prop) (hp:∀ p∈pre_ref04_Response p0 p1,p) (h:K (s_ref04_Response p0 p1)):w_ref04_Response p0 p1 K := by
 unfold w_ref04_Response
 unfold s_ref04_Response at h
 obtain ⟨hp0,hp1,hp2,hp3,_⟩ := conj_of hp
 exact ⟨(hp0),(hp1),(hp2),(loop_gen (hp3) h (fun y0 k0 hp h => by
 unfold st_ref04_Response_0 at h; obtain ⟨hp0,hp1,hp2,hp3,hp4,hp5,hp6,hp7,hp8,hp9,hp10,hp11,hp12,hp13,hp14,_⟩ := conj_of hp
 exact (br' h (fun e1 h => ⟨(hp0 e1),(hp1 e1),(hp2 e1),(hp3 e1),(hp4 e1),(hp5 e1),(hp6 e1),(hp7 e1),(hp8 e1),(hp9 e1),(hp6 e1),(hp10 e1),(hp8 e1),(hp7 e1),(hp6 e1),(hp11 e1),(hp12 e1),(hp13 e1),(hp14 e1),h⟩)
  (fun e1 h => h))))⟩
theorem v_step_d {c r t u:Rat} (hu:u ≠ 0) (hd:c * u + r * t ≠ 0):c + r * (t / u) ≠ 0 := by
 intro h
 apply hd
 have h1:t / u * u = t := Rat.div_mul_cancel hu
 generalize t / u = w at *
 grind
theorem v_step_e {c r t u:Rat} (hu:u ≠ 0) (hd:c * u + r * t ≠ 0):(c * (r + c * (t / u))) / (c + r * (t / u))=c * (r * u + c * t) / (c * u + r * t) := by
 have hy := v_step_d hu hd
 have h1:t / u * u = t := Rat.div_mul_cancel hu
 generalize t / u = w at *
 have h2:(c * (r + c * w)) / (c + r * w) * (c + r * w)=c * (r + c * w) := Rat.div_mul_cancel hy
 have h3:c * (r * u + c * t) / (c * u + r * t) * (c * u + r * t)=c * (r * u + c * t) := Rat.div_mul_cancel hd
 generalize (c * (r + c * w)) / (c + r * w)=a at *
 generalize c * (r * u + c * t) / (c * u + r * t)=b at *
 have h4:a * (c * u + r * t)=b * (c * u + r * t) := by rw [h3,← h1]; grind
 have h5:(a - b) * (c * u + r * t)=0 := by grind
 rcases Rat.mul_eq_zero.1 h5 with h | h
 ·grind
 ·exact (hd h).elim
theorem v_getD_mem {α:Type} {l:List α} {d:α} {n:Nat} (h:n < l.length):l.getD n d∈l := by
 rw [List.getD_eq_getElem?_getD,List.getElem?_eq_getElem h]; exact List.getElem_mem h
/-- A round of the reference. -/
theorem v_rstep {c t s:Int} {r:Rat} (hs:1≤s∧s≤20) (hc:1≤c∧c≤20) (ht:0≤t∧t≤10) (h1:1≤r) (hb:v_rb 12800000 r) :
  v_rok (v_rint c)∧v_rok (v_rmk t (t + s))∧v_rok (v_rat r)∧v_rok (v_rmul (v_rint c) (v_rmk t (t + s)))∧v_rok (v_radd (v_rat r) (v_rmul (v_rint c) (v_rmk t (t + s))))∧v_rok (v_rmul (v_rat r) (v_rmk t (t + s)))∧v_rok (v_rmul (v_rint c) (v_radd (v_rat r) (v_rmul (v_rint c) (v_rmk t (t + s)))))∧v_rok (v_radd (v_rint c) (v_rmul (v_rat r) (v_rmk t (t + s))))∧v_rv (v_radd (v_rint c) (v_rmul (v_rat r) (v_rmk t (t + s)))) ≠ 0 ∧
  v_rdiv (v_rmul (v_rint c) (v_radd (v_rat r) (v_rmul (v_rint c) (v_rmk t (t + s))))) (v_radd (v_rint c) (v_rmul (v_rat r) (v_rmk t (t + s))))=v_rat (v_step s (c,t) r) := by
 have bc:v_rb 20 (c:Rat) := v_rb_int (by omega) (by omega)
 have bt:v_rb 40 ((t:Rat) / ((t + s:Int):Rat)) := v_rb_div (by omega) (by omega) (by omega)
 have b1 := v_rb_mul bc bt
 have b2 := v_rb_add hb b1
 have b3 := v_rb_mul hb bt
 have b4 := v_rb_mul bc b2
 have b5 := v_rb_add bc b3
 have hu:((t + s:Int):Rat) ≠ 0 := v_rcast_ne (by omega)
 have hd := v_step_den (s := s) (x := (c,t)) (r := r) (by omega) (show 0 < c by omega) ht.1 (by grind)
 have hd' : (c:Rat) * ((t + s:Int):Rat) + r * (t:Rat) ≠ 0 := fun e => by rw [e] at hd; exact absurd hd (by decide)
 unfold v_rdiv v_rmul v_radd v_rint v_rmk
 simp only [v_rv_rat]
 refine ⟨bc.ok (by decide),bt.ok (by decide),hb.ok (by decide),b1.ok (by decide),b2.ok (by decide),b3.ok (by decide),b4.ok (by decide),b5.ok (by decide),v_step_d hu hd',?_⟩
 rw [v_step_e hu hd']
 rfl
theorem v_resp_rb {s:Int} (hs:v_sok s) {l:List (Int×Int)} (hne:l ≠ []) (hk:∀ x∈l,v_lok x) (hl:l.length≤3):v_rb 12800000 (v_resp s l) := by
 have h2 := v_resp_le20 (s := s) (by omega) hne hk
 have h1 := v_resp_1le (s := s) (by omega) hne hk
 have h3 := v_resp_parts hs hne hk
 have h4:(v_frac (v_resp s l)).2≤640000 := by
  have:(800:Int) ^ (l.length - 1)≤640000 := by
   match l.length - 1,(show l.length - 1≤2 by omega) with
   | 0,_ | 1,_ | 2,_ => decide
  omega
 have hp := v_frac_pos (v_resp s l)
 have h5 := v_rle_frac.1 h2
 have h6 := v_rle_frac.1 h1
 have e4:v_frac 20 = (20,1) := rfl
 have e5:v_frac 1 = (1,1) := rfl
 rw [e4] at h5
 rw [e5] at h6
 simp only at h5 h6
 unfold v_frac at *
 simp only at *
 exact ⟨by omega,by omega⟩
def v_fl (q:Rat):Int×(List Int×(Int×List Int)) := ((v_rat q).1.1,(v_rat q).1.2,(v_rat q).2)
theorem l_ref04_Response_0 (p0:List (Int×Int)) (p1:Int) (hm:v_mok p0) (hs:v_sok p1):OkL (st_ref04_Response_0 p0 p1) (sp_ref04_Response_0 p0 p1) (IntKind.i64.wrap ((p0.length:Int) - 2),((v_rint (p0.getD (IntKind.i64.wrap ((p0.length:Int) - 1)).toNat (0,0)).1).1.1,((v_rint (p0.getD (IntKind.i64.wrap ((p0.length:Int) - 1)).toNat (0,0)).1).1.2,(v_rint (p0.getD (IntKind.i64.wrap ((p0.length:Int) - 1)).toNat (0,0)).1).2))) ∧
  lpv ((0,[]),(0,[])) (st_ref04_Response_0 p0 p1) (IntKind.i64.wrap ((p0.length:Int) - 2),((v_rint (p0.getD (IntKind.i64.wrap ((p0.length:Int) - 1)).toNat (0,0)).1).1.1,((v_rint (p0.getD (IntKind.i64.wrap ((p0.length:Int) - 1)).toNat (0,0)).1).1.2,(v_rint (p0.getD (IntKind.i64.wrap ((p0.length:Int) - 1)).toNat (0,0)).1).2)))=v_rat (v_resp p1 p0) := by
 have hl := hm.len
 have hne := hm.ne
 have h0:0 < p0.length := List.length_pos_iff.2 hne
 rw [show IntKind.i64.wrap ((p0.length:Int) - 1)=((p0.length - 1:Nat):Int) by rw [wrap_id (by omega) (by omega)]; omega,
  show IntKind.i64.wrap ((p0.length:Int) - 2)=((p0.length - 1:Nat):Int) - 1 by rw [wrap_id (by omega) (by omega)]; omega,Int.toNat_natCast]
 have main := @down_is (Int×(List Int×(Int×List Int))) (Int×(Int×(List Int×(Int×List Int)))) ((Int×List Int)×(Int×List Int)) ((0,[]),(0,[])) (st_ref04_Response_0 p0 p1) (sp_ref04_Response_0 p0 p1) (fun i t => (i,t)) (p0.length - 1)
  (fun j t => t = v_fl (v_resp p1 (p0.drop j))) (fun _ _ => v_rat (v_resp p1 p0)) (by omega) ?_ ?_ (v_fl (((p0.getD (p0.length - 1) (0,0)).1:Int):Rat)) ?_
 ·exact main
 ·rintro t rfl
  simp only [sp_ref04_Response_0,st_ref04_Response_0,List.forall_mem_cons,show decide ((-1:Int) ≥ 0)=false from rfl,cond_false,List.drop_zero]
  refine ⟨?_,rfl⟩
  and_intros
  all_goals first
   | (intro h; cases h; done)
   | (intro p hp; cases hp)
 ·rintro j t hj rfl
  have hd:decide ((j:Int) ≥ 0)=true := decide_eq_true (by omega)
  have hw:IntKind.i64.wrap ((j:Int) - 1)=(j:Int) - 1 := wrap_id (by omega) (by omega)
  have hx:v_lok (p0.getD j (0,0)) := hm.ok _ (v_getD_mem (by omega))
  have hc := hx.c
  have ht := hx.t
  have hw2:IntKind.i64.wrap ((p0.getD j (0,0)).2 + p1)=(p0.getD j (0,0)).2 + p1 := wrap_id (by omega) (by omega)
  have hk:∀ x∈p0.drop (j + 1),v_lok x := fun x hx => hm.ok x (List.mem_of_mem_drop hx)
  have hn2:p0.drop (j + 1) ≠ [] := fun e => by have := congrArg List.length e; simp at this; omega
  have hb := v_resp_rb hs hn2 hk (by simp; omega)
  have h1 := v_resp_1le (s := p1) (by omega) hn2 hk
  have hdr:p0.drop j = p0.getD j (0,0) :: p0.drop (j + 1) := drop_getD (0,0) (by omega)
  obtain ⟨k1,k2,k3,k4,k5,k6,k7,k8,k9,e⟩ := v_rstep hs hc ht h1 hb
  simp only [sp_ref04_Response_0,st_ref04_Response_0,List.forall_mem_cons,hd,cond_true,Int.toNat_natCast,hw,hw2]
  have ef:((v_fl (v_resp p1 (p0.drop (j + 1)))).1,(v_fl (v_resp p1 (p0.drop (j + 1)))).2.1,(v_fl (v_resp p1 (p0.drop (j + 1)))).2.2)=v_fl (v_resp p1 (p0.drop (j + 1))) := rfl
  have eg:(((v_fl (v_resp p1 (p0.drop (j + 1)))).1,(v_fl (v_resp p1 (p0.drop (j + 1)))).2.1),(v_fl (v_resp p1 (p0.drop (j + 1)))).2.2)=v_rat (v_resp p1 (p0.drop (j + 1))) := rfl
  rw [eg]
  refine ⟨?_,.inl ⟨v_fl (v_resp p1 (p0.drop j)),?_,rfl,trivial⟩⟩
  ·and_intros
   all_goals first
    | (intro p hp; cases hp; done)
    | (intros; assumption)
    | (intros; unfold v_fit; omega)
    | (intros; omega)
  ·rw [e,hdr,v_resp_c p1 _ hn2]; rfl
 ·rw [show p0.drop (p0.length - 1)=[p0.getD (p0.length - 1) (0,0)] by
   rw [drop_getD (0,0) (show p0.length - 1 < p0.length by omega),List.drop_of_length_le (by omega)]]
  rfl
abbrev t_ref04_Response (p0:List (Int×Int)) (p1:Int):(Int×List Int)×(Int×List Int) := v_rat (v_resp p1 p0)
abbrev qre_ref04_Response (p0:List (Int×Int)) (p1:Int):List Prop := [v_mok p0,v_sok p1]
theorem pp_ref04_Response (p0:List (Int×Int)) (p1:Int) (hq:∀ p∈qre_ref04_Response p0 p1,p):∀ p∈pre_ref04_Response p0 p1,p := by
 obtain ⟨hm,hs,_⟩ := conj_of hq
 have hl := hm.len
 have hne := hm.ne
 have h0:0 < p0.length := List.length_pos_iff.2 hne
 have hw:IntKind.i64.wrap ((p0.length:Int) - 1)=((p0.length - 1:Nat):Int) := by rw [wrap_id (by omega) (by omega)]; omega
 have hx:v_lok (p0.getD (p0.length - 1) (0,0)) := hm.ok _ (v_getD_mem (by omega))
 simp only [pre_ref04_Response,List.forall_mem_cons,hw,Int.toNat_natCast]
 exact ⟨by omega,by omega,by have := hx.c; unfold v_fit; omega,(by have h := (l_ref04_Response_0 p0 p1 hm hs).1; simp only [hw,Int.toNat_natCast] at h; exact h),(by intro p hp; cases hp)⟩
theorem tt_ref04_Response (p0:List (Int×Int)) (p1:Int) (hq:∀ p∈qre_ref04_Response p0 p1,p):s_ref04_Response p0 p1 = t_ref04_Response p0 p1 := by
 obtain ⟨hm,hs,_⟩ := conj_of hq
 unfold s_ref04_Response t_ref04_Response
 exact (l_ref04_Response_0 p0 p1 hm hs).2

abbrev con_ref04_Response:Con := ⟨P_ref04_Response,R_ref04_Response,fun x => qre_ref04_Response x.1 x.2,fun x => t_ref04_Response x.1 x.2⟩
theorem ok_ref04_Response:ConOk Try.prog 20 con_ref04_Response := ⟨k_ref04_Response,fun x hx => ret_tf (ps := P_ref04_Response) (rs := R_ref04_Response) (x := x) (y := t_ref04_Response x.1 x.2) e_ref04_Response hC_ref04_Response (tf_of (w_ref04_Response_eq x.1 x.2 (fun z => z = t_ref04_Response x.1 x.2)) (d_ref04_Response x.1 x.2 (fun z => z = t_ref04_Response x.1 x.2) (pp_ref04_Response x.1 x.2 hx) (tt_ref04_Response x.1 x.2 hx)))⟩
/- ref04_thousand -/
def C_ref04_thousand:Cons := [(84,[],con_base_RatioInt),(86,[],con_base_RatioMul)]
theorem hC_ref04_thousand:ConsOk Try.prog C_ref04_thousand := ConsOk.cons ok_base_RatioInt <| ConsOk.cons ok_base_RatioMul <| ConsOk.nil
def w_ref04_thousand (p0:((Int×(List Int))×(Int×(List Int)))) (K:((Int×(List Int))×(Int×(List Int)))→Prop):Prop :=
  ((v_fit (1000:Int)) ∧
 ((v_rok p0) ∧
 ((v_rok (v_rint (1000:Int))) ∧
 (K (v_rmul p0 (v_rint (1000:Int)))))))
set_option maxHeartbeats 4000000 in
theorem w_ref04_thousand_eq (p0:((Int×(List Int))×(Int×(List Int)))) (K:((Int×(List Int))×(Int×(List Int)))→Prop):tfn F_ref04_thousand A_ref04_thousand C_ref04_thousand P_ref04_thousand R_ref04_thousand p0 K = w_ref04_thousand p0 K := by kernel_rfl
def s_ref04_thousand (p0:((Int×(List Int))×(Int×(List Int)))):((Int×(List Int))×(Int×(List Int))) :=
 (v_rmul p0 (v_rint (1000:Int)))
abbrev pre_ref04_thousand (p0:((Int×(List Int))×(Int×(List Int)))):List Prop := [(v_fit (1000:Int)),
  (v_rok p0),
  (v_rok (v_rint (1000:Int)))]
set_option maxHeartbeats 4000000 in
theorem d_ref04_thousand (p0:((Int×(List Int))×(Int×(List Int)))) (K:((Int×(List Int))×(Int×(List Int)))→Prop) (hp:∀ p∈pre_ref04_thousand p0,p) (h:K (s_ref04_thousand p0)):w_ref04_thousand p0 K := by
 unfold w_ref04_thousand
 unfold s_ref04_thousand at h
 obtain ⟨hp0,hp1,hp2,_⟩ := conj_of hp
 exact ⟨(hp0),(hp1),(hp2),h⟩
/-- 1000 times a number. -/
def v_thou (p:(Int×List Int)×(Int×List Int)):(Int×List Int)×(Int×List Int) := v_rat (v_rv p * ((1000:Int):Rat))
abbrev t_ref04_thousand (p0:(Int×List Int)×(Int×List Int)):(Int×List Int)×(Int×List Int) := v_thou p0
abbrev qre_ref04_thousand (p0:(Int×List Int)×(Int×List Int)):List Prop := [v_rok p0]
theorem pp_ref04_thousand (p0:(Int×List Int)×(Int×List Int)) (hq:∀ p∈qre_ref04_thousand p0,p):∀ p∈pre_ref04_thousand p0,p := by
 obtain ⟨h1,_⟩ := conj_of hq
 have k1:v_rok (v_rint 1000) := (v_rb_int (A := 1000) (by decide) (by decide)).ok (by decide)
 simp only [pre_ref04_thousand,List.forall_mem_cons]
 and_intros
 all_goals first
  | (intro p hp; cases hp; done)
  | (intros; assumption)
  | (intros; rw [v_wval_wide]; assumption)
  | (intros; apply v_wok_of; omega)
  | (intros; rw [v_wide_len]; omega)
  | omega
  | (unfold v_fit at *; omega)
theorem tt_ref04_thousand (p0:(Int×List Int)×(Int×List Int)) (_hq:∀ p∈qre_ref04_thousand p0,p):s_ref04_thousand p0 = t_ref04_thousand p0 := by
 unfold s_ref04_thousand t_ref04_thousand v_rmul v_rint v_thou
 rw [v_rv_rat]

abbrev con_ref04_thousand:Con := ⟨P_ref04_thousand,R_ref04_thousand,fun x => qre_ref04_thousand x,fun x => t_ref04_thousand x⟩
theorem ok_ref04_thousand:ConOk Try.prog 104 con_ref04_thousand := ⟨k_ref04_thousand,fun x hx => ret_tf (ps := P_ref04_thousand) (rs := R_ref04_thousand) (x := x) (y := t_ref04_thousand x) e_ref04_thousand hC_ref04_thousand (tf_of (w_ref04_thousand_eq x (fun z => z = t_ref04_thousand x)) (d_ref04_thousand x (fun z => z = t_ref04_thousand x) (pp_ref04_thousand x hx) (tt_ref04_thousand x hx)))⟩
/- base_RatioCmp -/
def C_base_RatioCmp:Cons := [(129,[],con_base_WideMul),(134,[],con_base_WideCmp)]
theorem hC_base_RatioCmp:ConsOk Try.prog C_base_RatioCmp := ConsOk.cons ok_base_WideMul <| ConsOk.cons ok_base_WideCmp <| ConsOk.nil
def w_base_RatioCmp (p0:((Int×(List Int))×(Int×(List Int)))) (p1:((Int×(List Int))×(Int×(List Int)))) (K:Int→Prop):Prop :=
  ((v_wok p0.1) ∧
 ((v_wok p1.2) ∧
 ((v_wok p1.1) ∧
 ((v_wok p0.2) ∧
 ((v_wok (v_wide ((v_wval p0.1) * (v_wval p1.2)))) ∧
 ((v_wok (v_wide ((v_wval p1.1) * (v_wval p0.2)))) ∧
 (K (v_cmp (v_wval (v_wide ((v_wval p0.1) * (v_wval p1.2)))) (v_wval (v_wide ((v_wval p1.1) * (v_wval p0.2))))))))))))
set_option maxHeartbeats 4000000 in
theorem w_base_RatioCmp_eq (p0:((Int×(List Int))×(Int×(List Int)))) (p1:((Int×(List Int))×(Int×(List Int)))) (K:Int→Prop):tfn F_base_RatioCmp A_base_RatioCmp C_base_RatioCmp P_base_RatioCmp R_base_RatioCmp (p0,p1) K = w_base_RatioCmp p0 p1 K := by kernel_rfl
def s_base_RatioCmp (p0:((Int×(List Int))×(Int×(List Int)))) (p1:((Int×(List Int))×(Int×(List Int)))):Int :=
 (v_cmp (v_wval (v_wide ((v_wval p0.1) * (v_wval p1.2)))) (v_wval (v_wide ((v_wval p1.1) * (v_wval p0.2)))))
abbrev pre_base_RatioCmp (p0:((Int×(List Int))×(Int×(List Int)))) (p1:((Int×(List Int))×(Int×(List Int)))):List Prop := [(v_wok p0.1),
  (v_wok p1.2),
  (v_wok p1.1),
  (v_wok p0.2),
  (v_wok (v_wide ((v_wval p0.1) * (v_wval p1.2)))),
  (v_wok (v_wide ((v_wval p1.1) * (v_wval p0.2))))]
set_option maxHeartbeats 4000000 in
theorem d_base_RatioCmp (p0:((Int×(List Int))×(Int×(List Int)))) (p1:((Int×(List Int))×(Int×(List Int)))) (K:Int→Prop) (hp:∀ p∈pre_base_RatioCmp p0 p1,p) (h:K (s_base_RatioCmp p0 p1)):w_base_RatioCmp p0 p1 K := by
 unfold w_base_RatioCmp
 unfold s_base_RatioCmp at h
 obtain ⟨hp0,hp1,hp2,hp3,hp4,hp5,_⟩ := conj_of hp
 exact ⟨(hp0),(hp1),(hp2),(hp3),(hp4),(hp5),h⟩
abbrev t_base_RatioCmp (p0:(Int×List Int)×(Int×List Int)) (p1:(Int×List Int)×(Int×List Int)):Int := v_rcmp p0 p1
abbrev qre_base_RatioCmp (p0:(Int×List Int)×(Int×List Int)) (p1:(Int×List Int)×(Int×List Int)):List Prop := [v_rok p0,v_rok p1]
theorem pp_base_RatioCmp (p0:(Int×List Int)×(Int×List Int)) (p1:(Int×List Int)×(Int×List Int)) (hq:∀ p∈qre_base_RatioCmp p0 p1,p):∀ p∈pre_base_RatioCmp p0 p1,p := by
 obtain ⟨h1,h2,_⟩ := conj_of hq
 obtain ⟨p,rfl,a1,a2⟩ := h1.ex
 obtain ⟨q,rfl,b1,b2⟩ := h2.ex
 have m1 := v_dl_mul p.num q.den
 have m2 := v_dl_mul q.num p.den
 simp only [pre_base_RatioCmp,List.forall_mem_cons,v_rat_1,v_rat_2,v_wval_wide]
 and_intros
 all_goals first
  | (intro p hp; cases hp; done)
  | (intros; assumption)
  | (intros; rw [v_wval_wide]; assumption)
  | (intros; apply v_wok_of; omega)
  | (intros; rw [v_wide_len]; omega)
  | omega
  | (unfold v_fit at *; omega)
theorem tt_base_RatioCmp (p0:(Int×List Int)×(Int×List Int)) (p1:(Int×List Int)×(Int×List Int)) (hq:∀ p∈qre_base_RatioCmp p0 p1,p):s_base_RatioCmp p0 p1 = t_base_RatioCmp p0 p1 := by
 obtain ⟨h1,h2,_⟩ := conj_of hq
 obtain ⟨p,rfl,a1,a2⟩ := h1.ex
 obtain ⟨q,rfl,b1,b2⟩ := h2.ex
 unfold s_base_RatioCmp t_base_RatioCmp v_rcmp v_qcmp
 simp only [v_rat_1,v_rat_2,v_rv_rat,v_wval_wide]

abbrev con_base_RatioCmp:Con := ⟨P_base_RatioCmp,R_base_RatioCmp,fun x => qre_base_RatioCmp x.1 x.2,fun x => t_base_RatioCmp x.1 x.2⟩
theorem ok_base_RatioCmp:ConOk Try.prog 105 con_base_RatioCmp := ⟨k_base_RatioCmp,fun x hx => ret_tf (ps := P_base_RatioCmp) (rs := R_base_RatioCmp) (x := x) (y := t_base_RatioCmp x.1 x.2) e_base_RatioCmp hC_base_RatioCmp (tf_of (w_base_RatioCmp_eq x.1 x.2 (fun z => z = t_base_RatioCmp x.1 x.2)) (d_base_RatioCmp x.1 x.2 (fun z => z = t_base_RatioCmp x.1 x.2) (pp_base_RatioCmp x.1 x.2 hx) (tt_base_RatioCmp x.1 x.2 hx)))⟩
/- ref04_Answer -/
theorem v_resp_big {s:Int} (hs:v_sok s) {l:List (Int×Int)} (h:v_mok l):v_rb 10240000000 (v_resp s l) := by
 have := v_resp_small hs h
 unfold v_frac at this
 simp only at this
 exact ⟨by omega,by omega⟩
theorem v_resp_rok {s:Int} (hs:v_sok s) {l:List (Int×Int)} (h:v_mok l):v_rok (v_rat (v_resp s l)) := (v_resp_big hs h).ok (by decide)
theorem v_rint_ok {d:Int×Int×Int} (h:v_dok d):v_fit d.2.1∧v_fit d.2.2∧v_rb 100000 ((d.2.1:Int):Rat)∧v_rb 100000 ((d.2.2:Int):Rat) := by
 have h1 := h.lo
 have h2 := h.le
 have h3 := h.hi
 exact ⟨by unfold v_fit; omega,by unfold v_fit; omega,v_rb_int (by omega) (by omega),v_rb_int (by omega) (by omega)⟩
theorem v_thou_rb {s:Int} (hs:v_sok s) {l:List (Int×Int)} (h:v_mok l):v_rb 10240000000000 (v_resp s l * ((1000:Int):Rat)) := v_rb_mul (A := 10240000000) (B := 1000) (v_resp_big hs h) (v_rb_int (by decide) (by decide))
theorem v_thou_ok {s:Int} (hs:v_sok s) {l:List (Int×Int)} (h:v_mok l):v_rok (v_thou (v_rat (v_resp s l))) := by unfold v_thou; rw [v_rv_rat]; exact (v_thou_rb hs h).ok (by decide)
/-- How a response lies to the ends of a datum. -/
theorem v_thou_lt {q:Rat} {n:Int}:q * ((1000:Int):Rat) < (n:Rat) ↔ 1000 * q.num < n * q.den := by
 have hd:(0:Rat) < ((q.den:Int):Rat) := v_rpos (by have := q.den_pos; omega)
 rw [← Rat.intCast_lt_intCast,Rat.intCast_mul,Rat.intCast_mul,v_qnum q,← Rat.mul_lt_mul_right hd]
 generalize ((q.den:Int):Rat)=d at *
 have:q * ((1000:Int):Rat) * d = ((1000:Int):Rat) * (q * d) := by grind
 rw [this]
theorem v_thou_gt {q:Rat} {n:Int}:(n:Rat) < q * ((1000:Int):Rat) ↔ n * q.den < 1000 * q.num := by
 have hd:(0:Rat) < ((q.den:Int):Rat) := v_rpos (by have := q.den_pos; omega)
 rw [← Rat.intCast_lt_intCast,Rat.intCast_mul,Rat.intCast_mul,v_qnum q,← Rat.mul_lt_mul_right hd]
 generalize ((q.den:Int):Rat)=d at *
 have:q * ((1000:Int):Rat) * d = ((1000:Int):Rat) * (q * d) := by grind
 rw [this]
theorem v_rcmp_lo {q:Rat} {d:Int×Int×Int}:(v_rcmp (v_thou (v_rat q)) (v_rint d.2.1) < 0) ↔ v_below (v_frac q) d = true := by
 unfold v_rcmp v_thou v_rint v_below v_frac
 rw [v_rv_rat,v_rv_rat,v_rv_rat,v_qcmp_lt,v_thou_lt,decide_eq_true_eq]
theorem v_rcmp_hi {q:Rat} {d:Int×Int×Int}:(0 < v_rcmp (v_thou (v_rat q)) (v_rint d.2.2)) ↔ v_beyond (v_frac q) d = true := by
 unfold v_rcmp v_thou v_rint v_beyond v_frac
 rw [v_rv_rat,v_rv_rat,v_rv_rat,v_qcmp_gt,v_thou_gt,decide_eq_true_eq]
theorem v_rcmp_lo_d {q:Rat} {d:Int×Int×Int}:decide (v_rcmp (v_thou (v_rat q)) (v_rint d.2.1) < 0)=v_below (v_frac q) d∧decide (v_rcmp (v_thou (v_rat q)) (v_rint d.2.1) ≥ 0) = !(v_below (v_frac q) d) := by
 have h := v_rcmp_lo (q := q) (d := d)
 cases c:v_below (v_frac q) d <;> rw [c] at h
 ·have:¬ v_rcmp (v_thou (v_rat q)) (v_rint d.2.1) < 0 := fun e => by cases h.1 e
  exact ⟨decide_eq_false this,decide_eq_true (by omega)⟩
 ·have := h.2 rfl
  exact ⟨decide_eq_true this,decide_eq_false (by omega)⟩
theorem v_rcmp_hi_d {q:Rat} {d:Int×Int×Int}:decide (v_rcmp (v_thou (v_rat q)) (v_rint d.2.2) > 0)=v_beyond (v_frac q) d∧decide (v_rcmp (v_thou (v_rat q)) (v_rint d.2.2)≤0) = !(v_beyond (v_frac q) d) := by
 have h := v_rcmp_hi (q := q) (d := d)
 cases c:v_beyond (v_frac q) d <;> rw [c] at h
 ·have:¬ 0 < v_rcmp (v_thou (v_rat q)) (v_rint d.2.2) := fun e => by cases h.1 e
  exact ⟨decide_eq_false this,decide_eq_true (by omega)⟩
 ·have := h.2 rfl
  exact ⟨decide_eq_true this,decide_eq_false (by omega)⟩
/- base_RatioNeg -/
def C_base_RatioNeg:Cons := [(141,[],con_base_WideNeg)]
theorem hC_base_RatioNeg:ConsOk Try.prog C_base_RatioNeg := ConsOk.cons ok_base_WideNeg <| ConsOk.nil
def w_base_RatioNeg (p0:((Int×(List Int))×(Int×(List Int)))) (K:((Int×(List Int))×(Int×(List Int)))→Prop):Prop :=
  ((v_wok p0.1) ∧
 (K ((v_wide (-(v_wval p0.1))),p0.2)))
set_option maxHeartbeats 4000000 in
theorem w_base_RatioNeg_eq (p0:((Int×(List Int))×(Int×(List Int)))) (K:((Int×(List Int))×(Int×(List Int)))→Prop):tfn F_base_RatioNeg A_base_RatioNeg C_base_RatioNeg P_base_RatioNeg R_base_RatioNeg p0 K = w_base_RatioNeg p0 K := by kernel_rfl
def s_base_RatioNeg (p0:((Int×(List Int))×(Int×(List Int)))):((Int×(List Int))×(Int×(List Int))) :=
 ((v_wide (-(v_wval p0.1))),p0.2)
abbrev pre_base_RatioNeg (p0:((Int×(List Int))×(Int×(List Int)))):List Prop := [(v_wok p0.1)]
set_option maxHeartbeats 4000000 in
theorem d_base_RatioNeg (p0:((Int×(List Int))×(Int×(List Int)))) (K:((Int×(List Int))×(Int×(List Int)))→Prop) (hp:∀ p∈pre_base_RatioNeg p0,p) (h:K (s_base_RatioNeg p0)):w_base_RatioNeg p0 K := by
 unfold w_base_RatioNeg
 unfold s_base_RatioNeg at h
 obtain ⟨hp0,_⟩ := conj_of hp
 exact ⟨(hp0),h⟩
abbrev t_base_RatioNeg (p0:(Int×List Int)×(Int×List Int)):(Int×List Int)×(Int×List Int) := v_rneg p0
abbrev qre_base_RatioNeg (p0:(Int×List Int)×(Int×List Int)):List Prop := [v_rok p0]
theorem pp_base_RatioNeg (p0:(Int×List Int)×(Int×List Int)) (hq:∀ p∈qre_base_RatioNeg p0,p):∀ p∈pre_base_RatioNeg p0,p := by
 obtain ⟨h1,_⟩ := conj_of hq
 obtain ⟨q,rfl,d1,d2⟩ := h1.ex
 simp only [pre_base_RatioNeg,List.forall_mem_cons,v_rat_1,v_rat_2]
 and_intros
 all_goals first
  | (intro p hp; cases hp; done)
  | (intros; assumption)
  | (intros; rw [v_wval_wide]; assumption)
  | (intros; apply v_wok_of; omega)
  | (intros; rw [v_wide_len]; omega)
  | omega
  | (unfold v_fit at *; omega)
theorem tt_base_RatioNeg (p0:(Int×List Int)×(Int×List Int)) (hq:∀ p∈qre_base_RatioNeg p0,p):s_base_RatioNeg p0 = t_base_RatioNeg p0 := by
 obtain ⟨h1,_⟩ := conj_of hq
 obtain ⟨q,rfl,d1,d2⟩ := h1.ex
 unfold s_base_RatioNeg t_base_RatioNeg v_rneg
 rw [v_rat_1,v_rat_2,v_rv_rat,v_wval_wide]
 unfold v_rat
 rw [Rat.neg_num,Rat.neg_den]

abbrev con_base_RatioNeg:Con := ⟨P_base_RatioNeg,R_base_RatioNeg,fun x => qre_base_RatioNeg x,fun x => t_base_RatioNeg x⟩
theorem ok_base_RatioNeg:ConOk Try.prog 118 con_base_RatioNeg := ⟨k_base_RatioNeg,fun x hx => ret_tf (ps := P_base_RatioNeg) (rs := R_base_RatioNeg) (x := x) (y := t_base_RatioNeg x) e_base_RatioNeg hC_base_RatioNeg (tf_of (w_base_RatioNeg_eq x (fun z => z = t_base_RatioNeg x)) (d_base_RatioNeg x (fun z => z = t_base_RatioNeg x) (pp_base_RatioNeg x hx) (tt_base_RatioNeg x hx)))⟩
/- base_RatioSub -/
def C_base_RatioSub:Cons := [(118,[],con_base_RatioNeg),(87,[],con_base_RatioAdd)]
theorem hC_base_RatioSub:ConsOk Try.prog C_base_RatioSub := ConsOk.cons ok_base_RatioNeg <| ConsOk.cons ok_base_RatioAdd <| ConsOk.nil
def w_base_RatioSub (p0:((Int×(List Int))×(Int×(List Int)))) (p1:((Int×(List Int))×(Int×(List Int)))) (K:((Int×(List Int))×(Int×(List Int)))→Prop):Prop :=
  ((v_rok p1) ∧
 ((v_rok p0) ∧
 ((v_rok (v_rneg p1)) ∧
 (K (v_radd p0 (v_rneg p1))))))
set_option maxHeartbeats 4000000 in
theorem w_base_RatioSub_eq (p0:((Int×(List Int))×(Int×(List Int)))) (p1:((Int×(List Int))×(Int×(List Int)))) (K:((Int×(List Int))×(Int×(List Int)))→Prop):tfn F_base_RatioSub A_base_RatioSub C_base_RatioSub P_base_RatioSub R_base_RatioSub (p0,p1) K = w_base_RatioSub p0 p1 K := by kernel_rfl
def s_base_RatioSub (p0:((Int×(List Int))×(Int×(List Int)))) (p1:((Int×(List Int))×(Int×(List Int)))):((Int×(List Int))×(Int×(List Int))) :=
 (v_radd p0 (v_rneg p1))
abbrev pre_base_RatioSub (p0:((Int×(List Int))×(Int×(List Int)))) (p1:((Int×(List Int))×(Int×(List Int)))):List Prop := [(v_rok p1),
  (v_rok p0),
  (v_rok (v_rneg p1))]
set_option maxHeartbeats 4000000 in
theorem d_base_RatioSub (p0:((Int×(List Int))×(Int×(List Int)))) (p1:((Int×(List Int))×(Int×(List Int)))) (K:((Int×(List Int))×(Int×(List Int)))→Prop) (hp:∀ p∈pre_base_RatioSub p0 p1,p) (h:K (s_base_RatioSub p0 p1)):w_base_RatioSub p0 p1 K := by
 unfold w_base_RatioSub
 unfold s_base_RatioSub at h
 obtain ⟨hp0,hp1,hp2,_⟩ := conj_of hp
 exact ⟨(hp0),(hp1),(hp2),h⟩
abbrev t_base_RatioSub (p0:(Int×List Int)×(Int×List Int)) (p1:(Int×List Int)×(Int×List Int)):(Int×List Int)×(Int×List Int) := v_rsub p0 p1
abbrev qre_base_RatioSub (p0:(Int×List Int)×(Int×List Int)) (p1:(Int×List Int)×(Int×List Int)):List Prop := [v_rok p0,v_rok p1]
theorem pp_base_RatioSub (p0:(Int×List Int)×(Int×List Int)) (p1:(Int×List Int)×(Int×List Int)) (hq:∀ p∈qre_base_RatioSub p0 p1,p):∀ p∈pre_base_RatioSub p0 p1,p := by
 obtain ⟨h1,h2,_⟩ := conj_of hq
 obtain ⟨p,rfl,a1,a2⟩ := h1.ex
 obtain ⟨q,rfl,b1,b2⟩ := h2.ex
 have hr:v_rok (v_rneg (v_rat q)) := by unfold v_rneg; rw [v_rv_rat]; exact v_rok_of (by rw [Rat.neg_num,v_dl_neg]; exact b1) (by rw [Rat.neg_den]; exact b2)
 simp only [pre_base_RatioSub,List.forall_mem_cons]
 and_intros
 all_goals first
  | (intro p hp; cases hp; done)
  | (intros; assumption)
  | (intros; rw [v_wval_wide]; assumption)
  | (intros; apply v_wok_of; omega)
  | (intros; rw [v_wide_len]; omega)
  | omega
  | (unfold v_fit at *; omega)
theorem tt_base_RatioSub (p0:(Int×List Int)×(Int×List Int)) (p1:(Int×List Int)×(Int×List Int)) (hq:∀ p∈qre_base_RatioSub p0 p1,p):s_base_RatioSub p0 p1 = t_base_RatioSub p0 p1 := by
 obtain ⟨h1,h2,_⟩ := conj_of hq
 obtain ⟨p,rfl,a1,a2⟩ := h1.ex
 obtain ⟨q,rfl,b1,b2⟩ := h2.ex
 unfold s_base_RatioSub t_base_RatioSub v_rsub v_radd v_rneg
 rw [v_rv_rat,v_rv_rat,v_rv_rat,Rat.sub_eq_add_neg]

abbrev con_base_RatioSub:Con := ⟨P_base_RatioSub,R_base_RatioSub,fun x => qre_base_RatioSub x.1 x.2,fun x => t_base_RatioSub x.1 x.2⟩
theorem ok_base_RatioSub:ConOk Try.prog 117 con_base_RatioSub := ⟨k_base_RatioSub,fun x hx => ret_tf (ps := P_base_RatioSub) (rs := R_base_RatioSub) (x := x) (y := t_base_RatioSub x.1 x.2) e_base_RatioSub hC_base_RatioSub (tf_of (w_base_RatioSub_eq x.1 x.2 (fun z => z = t_base_RatioSub x.1 x.2)) (d_base_RatioSub x.1 x.2 (fun z => z = t_base_RatioSub x.1 x.2) (pp_base_RatioSub x.1 x.2 hx) (tt_base_RatioSub x.1 x.2 hx)))⟩
/- ref04_Distance -/
def C_ref04_Distance:Cons := [(104,[],con_ref04_thousand),(84,[],con_base_RatioInt),(105,[],con_base_RatioCmp),(117,[],con_base_RatioSub)]
theorem hC_ref04_Distance:ConsOk Try.prog C_ref04_Distance := ConsOk.cons ok_ref04_thousand <| ConsOk.cons ok_base_RatioInt <| ConsOk.cons ok_base_RatioCmp <| ConsOk.cons ok_base_RatioSub <| ConsOk.nil
def w_ref04_Distance (p0:((Int×(List Int))×(Int×(List Int)))) (p1:(Int×(Int×Int))) (K:((Int×(List Int))×(Int×(List Int)))→Prop):Prop :=
  ((v_rok p0) ∧
 ((v_fit p1.2.1) ∧
 ((v_rok (v_thou p0)) ∧
 ((v_rok (v_rint p1.2.1)) ∧
 ((((decide ((v_rcmp (v_thou p0) (v_rint p1.2.1)) < 0))=true) →
 ((v_rok (v_rint p1.2.1)) ∧
  ((v_rok (v_thou p0)) ∧
  (K (v_rsub (v_rint p1.2.1) (v_thou p0)))))) ∧
 (((decide ((v_rcmp (v_thou p0) (v_rint p1.2.1)) < 0))=false) →
 ((v_fit p1.2.2) ∧
  ((v_rok (v_thou p0)) ∧
  ((v_rok (v_rint p1.2.2)) ∧
  ((((decide ((v_rcmp (v_thou p0) (v_rint p1.2.2)) > 0))=true) →
  ((v_rok (v_thou p0)) ∧
   ((v_rok (v_rint p1.2.2)) ∧
   (K (v_rsub (v_thou p0) (v_rint p1.2.2)))))) ∧
  (((decide ((v_rcmp (v_thou p0) (v_rint p1.2.2)) > 0))=false) →
  ((v_fit (0:Int)) ∧
   (K (v_rint (0:Int)))))))))))))))
set_option maxHeartbeats 4000000 in
theorem w_ref04_Distance_eq (p0:((Int×(List Int))×(Int×(List Int)))) (p1:(Int×(Int×Int))) (K:((Int×(List Int))×(Int×(List Int)))→Prop):tfn F_ref04_Distance A_ref04_Distance C_ref04_Distance P_ref04_Distance R_ref04_Distance (p0,p1) K = w_ref04_Distance p0 p1 K := by kernel_rfl
def s_ref04_Distance (p0:((Int×(List Int))×(Int×(List Int)))) (p1:(Int×(Int×Int))):((Int×(List Int))×(Int×(List Int))) :=
 (cond (decide ((v_rcmp (v_thou p0) (v_rint p1.2.1)) < 0)) (v_rsub (v_rint p1.2.1) (v_thou p0))
  (cond (decide ((v_rcmp (v_thou p0) (v_rint p1.2.2)) > 0)) (v_rsub (v_thou p0) (v_rint p1.2.2))
  (v_rint (0:Int))))
abbrev pre_ref04_Distance (p0:((Int×(List Int))×(Int×(List Int)))) (p1:(Int×(Int×Int))):List Prop := [(v_rok p0),
  (v_fit p1.2.1),
  (v_rok (v_thou p0)),
  (v_rok (v_rint p1.2.1)),
  (((decide ((v_rcmp (v_thou p0) (v_rint p1.2.1)) < 0))=true)→(v_rok (v_rint p1.2.1))),
  (((decide ((v_rcmp (v_thou p0) (v_rint p1.2.1)) < 0))=true)→(v_rok (v_thou p0))),
  (((decide ((v_rcmp (v_thou p0) (v_rint p1.2.1)) < 0))=false)→(v_fit p1.2.2)),
  (((decide ((v_rcmp (v_thou p0) (v_rint p1.2.1)) < 0))=false)→(v_rok (v_thou p0))),
  (((decide ((v_rcmp (v_thou p0) (v_rint p1.2.1)) < 0))=false)→(v_rok (v_rint p1.2.2))),
  (((decide ((v_rcmp (v_thou p0) (v_rint p1.2.1)) < 0))=false)→(((decide ((v_rcmp (v_thou p0) (v_rint p1.2.2)) > 0))=true)→(v_rok (v_thou p0)))),
  (((decide ((v_rcmp (v_thou p0) (v_rint p1.2.1)) < 0))=false)→(((decide ((v_rcmp (v_thou p0) (v_rint p1.2.2)) > 0))=true)→(v_rok (v_rint p1.2.2)))),
  (((decide ((v_rcmp (v_thou p0) (v_rint p1.2.1)) < 0))=false)→(((decide ((v_rcmp (v_thou p0) (v_rint p1.2.2)) > 0))=false)→(v_fit (0:Int))))]
set_option maxHeartbeats 4000000 in
theorem d_ref04_Distance (p0:((Int×(List Int))×(Int×(List Int)))) (p1:(Int×(Int×Int))) (K:((Int×(List Int))×(Int×(List Int)))→Prop) (hp:∀ p∈pre_ref04_Distance p0 p1,p) (h:K (s_ref04_Distance p0 p1)):w_ref04_Distance p0 p1 K := by
 unfold w_ref04_Distance
 unfold s_ref04_Distance at h
 obtain ⟨hp0,hp1,hp2,hp3,hp4,hp5,hp6,hp7,hp8,hp9,hp10,hp11,_⟩ := conj_of hp
 exact ⟨(hp0),(hp1),(hp2),(hp3),(br' h (fun e0 h => ⟨(hp4 e0),(hp5 e0),h⟩)
  (fun e0 h => ⟨(hp6 e0),(hp7 e0),(hp8 e0),(br' h (fun e1 h => ⟨(hp9 e0 e1),(hp10 e0 e1),h⟩)
  (fun e1 h => ⟨(hp11 e0 e1),h⟩))⟩))⟩
/-- How far a response lies from a datum. -/
def v_dist (q:Rat) (d:Int×Int×Int):Rat := cond (v_below (v_frac q) d) ((d.2.1:Rat) - q * ((1000:Int):Rat)) (cond (v_beyond (v_frac q) d) (q * ((1000:Int):Rat) - (d.2.2:Rat)) ((0:Int):Rat))
theorem v_dist_rb {s:Int} (hs:v_sok s) {l:List (Int×Int)} (h:v_mok l) {d:Int×Int×Int} (hd:v_dok d):v_rb 2048000000000000000 (v_dist (v_resp s l) d) := by
 obtain ⟨_,_,b1,b2⟩ := v_rint_ok hd
 have b3 := v_thou_rb hs h
 unfold v_dist
 cases v_below (v_frac (v_resp s l)) d
 ·cases v_beyond (v_frac (v_resp s l)) d
  ·exact v_rb_int (by decide) (by decide)
  ·rw [cond_false,cond_true,Rat.sub_eq_add_neg]; exact v_rb_add b3 (v_rb_neg b2)
 ·rw [cond_true,Rat.sub_eq_add_neg]; exact v_rb_le (v_rb_add b1 (v_rb_neg b3)) (by decide)
abbrev t_ref04_Distance (p0:(Int×List Int)×(Int×List Int)) (p1:Int×Int×Int):(Int×List Int)×(Int×List Int) := v_rat (v_dist (v_rv p0) p1)
abbrev qre_ref04_Distance (p0:(Int×List Int)×(Int×List Int)) (p1:Int×Int×Int):List Prop := [v_rok p0,v_dok p1,v_rok (v_thou p0)]
theorem pp_ref04_Distance (p0:(Int×List Int)×(Int×List Int)) (p1:Int×Int×Int) (hq:∀ p∈qre_ref04_Distance p0 p1,p):∀ p∈pre_ref04_Distance p0 p1,p := by
 obtain ⟨h1,h3,h4,_⟩ := conj_of hq
 obtain ⟨f1,f2,b1,b2⟩ := v_rint_ok h3
 have k5:v_rok (v_rint p1.2.1) := b1.ok (by decide)
 have k6:v_rok (v_rint p1.2.2) := b2.ok (by decide)
 have f11 := f1.1
 have f12 := f1.2
 have f21 := f2.1
 have f22 := f2.2
 simp only [pre_ref04_Distance,List.forall_mem_cons]
 and_intros
 all_goals first
  | (intro p hp; cases hp; done)
  | (intros; assumption)
  | (intros; rw [v_wval_wide]; assumption)
  | (intros; apply v_wok_of; omega)
  | (intros; rw [v_wide_len]; omega)
  | omega
  | (unfold v_fit at *; omega)
theorem tt_ref04_Distance (p0:(Int×List Int)×(Int×List Int)) (p1:Int×Int×Int) (hq:∀ p∈qre_ref04_Distance p0 p1,p):s_ref04_Distance p0 p1 = t_ref04_Distance p0 p1 := by
 obtain ⟨h1,h3,h4,_⟩ := conj_of hq
 obtain ⟨q,rfl,a1,a2⟩ := h1.ex
 unfold s_ref04_Distance t_ref04_Distance v_dist
 rw [v_rcmp_lo_d.1,v_rcmp_hi_d.1,v_rv_rat]
 unfold v_rsub v_thou v_rint
 rw [v_rv_rat,v_rv_rat,v_rv_rat,v_rv_rat]
 cases v_below (v_frac q) p1
 ·cases v_beyond (v_frac q) p1 <;> rfl
 ·rfl

abbrev con_ref04_Distance:Con := ⟨P_ref04_Distance,R_ref04_Distance,fun x => qre_ref04_Distance x.1 x.2,fun x => t_ref04_Distance x.1 x.2⟩
theorem ok_ref04_Distance:ConOk Try.prog 112 con_ref04_Distance := ⟨k_ref04_Distance,fun x hx => ret_tf (ps := P_ref04_Distance) (rs := R_ref04_Distance) (x := x) (y := t_ref04_Distance x.1 x.2) e_ref04_Distance hC_ref04_Distance (tf_of (w_ref04_Distance_eq x.1 x.2 (fun z => z = t_ref04_Distance x.1 x.2)) (d_ref04_Distance x.1 x.2 (fun z => z = t_ref04_Distance x.1 x.2) (pp_ref04_Distance x.1 x.2 hx) (tt_ref04_Distance x.1 x.2 hx)))⟩
/- ref04_Misfit -/
def C_ref04_Misfit:Cons := [(84,[],con_base_RatioInt),(20,[],con_ref04_Response),(112,[],con_ref04_Distance),(105,[],con_base_RatioCmp)]
theorem hC_ref04_Misfit:ConsOk Try.prog C_ref04_Misfit := ConsOk.cons ok_base_RatioInt <| ConsOk.cons ok_ref04_Response <| ConsOk.cons ok_ref04_Distance <| ConsOk.cons ok_base_RatioCmp <| ConsOk.nil
abbrev q0_ref04_Misfit (p0:(List (Int×Int))) (p1:(List (Int×(Int×Int)))) (y1:(Int×(Int×((List Int)×(Int×(List Int)))))) := (v_rat (v_dist (v_rv (v_rat (v_resp (p1.getD y1.1.toNat (zz0,(zz0,zz0))).1 p0))) (p1.getD y1.1.toNat (zz0,(zz0,zz0)))))
def w_ref04_Misfit (p0:(List (Int×Int))) (p1:(List (Int×(Int×Int)))) (K:((Int×(List Int))×(Int×(List Int)))→Prop):Prop :=
  ((v_fit zz0) ∧
 (∃ n0,(loopP (fun (y1:(Int×(Int×((List Int)×(Int×(List Int)))))) k2 =>
  ((((decide (y1.1 < (List.length p1:Int)))=true) →
  ((zz0≤y1.1) ∧
   ((y1.1 < (List.length p1:Int)) ∧
   ((v_mok p0) ∧
   ((v_sok (p1.getD y1.1.toNat (zz0,(zz0,zz0))).1) ∧
   ((zz0≤y1.1) ∧
   ((y1.1 < (List.length p1:Int)) ∧
   ((v_rok (v_rat (v_resp (p1.getD y1.1.toNat (zz0,(zz0,zz0))).1 p0))) ∧
   ((v_dok (p1.getD y1.1.toNat (zz0,(zz0,zz0)))) ∧
   ((v_rok (v_thou (v_rat (v_resp (p1.getD y1.1.toNat (zz0,(zz0,zz0))).1 p0)))) ∧
   ((v_rok (q0_ref04_Misfit p0 p1 y1)) ∧
   ((v_rok ((y1.2.1,y1.2.2.1),y1.2.2.2)) ∧
   ((((decide ((v_rcmp (q0_ref04_Misfit p0 p1 y1) ((y1.2.1,y1.2.2.1),y1.2.2.2)) > zz0))=true) →
   (k2 ((wi (y1.1 + zz1)),((q0_ref04_Misfit p0 p1 y1).1.1,((q0_ref04_Misfit p0 p1 y1).1.2,(q0_ref04_Misfit p0 p1 y1).2))))) ∧
   (((decide ((v_rcmp (q0_ref04_Misfit p0 p1 y1) ((y1.2.1,y1.2.2.1),y1.2.2.2)) > zz0))=false) →
   (k2 ((wi (y1.1 + zz1)),y1.2)))))))))))))))) ∧
  (((decide (y1.1 < (List.length p1:Int)))=false) →
  (K ((y1.2.1,y1.2.2.1),y1.2.2.2))))) n0 (zz0,((v_rint zz0).1.1,((v_rint zz0).1.2,(v_rint zz0).2))))))
set_option maxHeartbeats 4000000 in
theorem w_ref04_Misfit_eq (p0:(List (Int×Int))) (p1:(List (Int×(Int×Int)))) (K:((Int×(List Int))×(Int×(List Int)))→Prop):tfn F_ref04_Misfit A_ref04_Misfit C_ref04_Misfit P_ref04_Misfit R_ref04_Misfit (p0,p1) K = w_ref04_Misfit p0 p1 K := by kernel_rfl
def st_ref04_Misfit_0 (p0:(List (Int×Int))) (p1:(List (Int×(Int×Int)))) (y0:(Int×(Int×((List Int)×(Int×(List Int)))))):(Int×(Int×((List Int)×(Int×(List Int))))) ⊕ ((Int×(List Int))×(Int×(List Int))) :=
 (cond (decide (y0.1 < (List.length p1:Int))) (cond (decide ((v_rcmp (v_rat (v_dist (v_rv (v_rat (v_resp (p1.getD y0.1.toNat ((0:Int),((0:Int),(0:Int)))).1 p0))) (p1.getD y0.1.toNat ((0:Int),((0:Int),(0:Int)))))) ((y0.2.1,y0.2.2.1),y0.2.2.2)) > 0)) (Sum.inl ((IntKind.i64.wrap (y0.1 + 1)),((v_rat (v_dist (v_rv (v_rat (v_resp (p1.getD y0.1.toNat ((0:Int),((0:Int),(0:Int)))).1 p0))) (p1.getD y0.1.toNat ((0:Int),((0:Int),(0:Int)))))).1.1,((v_rat (v_dist (v_rv (v_rat (v_resp (p1.getD y0.1.toNat ((0:Int),((0:Int),(0:Int)))).1 p0))) (p1.getD y0.1.toNat ((0:Int),((0:Int),(0:Int)))))).1.2,(v_rat (v_dist (v_rv (v_rat (v_resp (p1.getD y0.1.toNat ((0:Int),((0:Int),(0:Int)))).1 p0))) (p1.getD y0.1.toNat ((0:Int),((0:Int),(0:Int)))))).2))))
  (Sum.inl ((IntKind.i64.wrap (y0.1 + 1)),y0.2)))
  (Sum.inr ((y0.2.1,y0.2.2.1),y0.2.2.2)))
abbrev sp_ref04_Misfit_0 (p0:(List (Int×Int))) (p1:(List (Int×(Int×Int)))) (y0:(Int×(Int×((List Int)×(Int×(List Int)))))):List Prop := [(((decide (y0.1 < (List.length p1:Int)))=true)→((0:Int)≤y0.1)),
  (((decide (y0.1 < (List.length p1:Int)))=true)→(y0.1 < (List.length p1:Int))),
  (((decide (y0.1 < (List.length p1:Int)))=true)→(v_mok p0)),
  (((decide (y0.1 < (List.length p1:Int)))=true)→(v_sok (p1.getD y0.1.toNat ((0:Int),((0:Int),(0:Int)))).1)),
  (((decide (y0.1 < (List.length p1:Int)))=true)→(v_rok (v_rat (v_resp (p1.getD y0.1.toNat ((0:Int),((0:Int),(0:Int)))).1 p0)))),
  (((decide (y0.1 < (List.length p1:Int)))=true)→(v_dok (p1.getD y0.1.toNat ((0:Int),((0:Int),(0:Int)))))),
  (((decide (y0.1 < (List.length p1:Int)))=true)→(v_rok (v_thou (v_rat (v_resp (p1.getD y0.1.toNat ((0:Int),((0:Int),(0:Int)))).1 p0))))),
  (((decide (y0.1 < (List.length p1:Int)))=true)→(v_rok (v_rat (v_dist (v_rv (v_rat (v_resp (p1.getD y0.1.toNat ((0:Int),((0:Int),(0:Int)))).1 p0))) (p1.getD y0.1.toNat ((0:Int),((0:Int),(0:Int)))))))),
  (((decide (y0.1 < (List.length p1:Int)))=true)→(v_rok ((y0.2.1,y0.2.2.1),y0.2.2.2)))]
def s_ref04_Misfit (p0:(List (Int×Int))) (p1:(List (Int×(Int×Int)))):((Int×(List Int))×(Int×(List Int))) :=
 (lpv (((0:Int),[]),((0:Int),[])) (st_ref04_Misfit_0 p0 p1) ((0:Int),((v_rint (0:Int)).1.1,((v_rint (0:Int)).1.2,(v_rint (0:Int)).2))))
abbrev pre_ref04_Misfit (p0:(List (Int×Int))) (p1:(List (Int×(Int×Int)))):List Prop := [(v_fit (0:Int)),
  (OkL (st_ref04_Misfit_0 p0 p1) (sp_ref04_Misfit_0 p0 p1) ((0:Int),((v_rint (0:Int)).1.1,((v_rint (0:Int)).1.2,(v_rint (0:Int)).2))))]
set_option maxHeartbeats 4000000 in
theorem d_ref04_Misfit (p0:(List (Int×Int))) (p1:(List (Int×(Int×Int)))) (K:((Int×(List Int))×(Int×(List Int)))→Prop) (hp:∀ p∈pre_ref04_Misfit p0 p1,p) (h:K (s_ref04_Misfit p0 p1)):w_ref04_Misfit p0 p1 K := by
 unfold w_ref04_Misfit
 unfold s_ref04_Misfit at h
 obtain ⟨hp0,hp1,_⟩ := conj_of hp
 exact ⟨(hp0),(loop_gen (hp1) h (fun y0 k0 hp h => by
 unfold st_ref04_Misfit_0 at h; obtain ⟨hp0,hp1,hp2,hp3,hp4,hp5,hp6,hp7,hp8,_⟩ := conj_of hp
 exact (br' h (fun e1 h => ⟨(hp0 e1),(hp1 e1),(hp2 e1),(hp3 e1),(hp0 e1),(hp1 e1),(hp4 e1),(hp5 e1),(hp6 e1),(hp7 e1),(hp8 e1),(br' h (fun e2 h => h)
  (fun e2 h => h))⟩)
  (fun e1 h => h))))⟩
/-- The greatest distance. -/
def v_rmax (w x:Rat):Rat := cond (decide (w < x)) x w
def v_misf (m:List (Int×Int)):Rat→List (Int×Int×Int)→Rat
 | w,[] => w
 | w,d :: r => v_misf m (v_rmax w (v_dist (v_resp d.1 m) d)) r
def v_unfl (t:Int×(List Int×(Int×List Int))):(Int×List Int)×(Int×List Int) := ((t.1,t.2.1),t.2.2)
theorem v_unfl_fl (q:Rat):v_unfl (v_fl q)=v_rat q := rfl
theorem l_ref04_Misfit_0 (p0:List (Int×Int)) (p1:List (Int×Int×Int)) (hm:v_mok p0) (hd:v_dat p1):OkL (st_ref04_Misfit_0 p0 p1) (sp_ref04_Misfit_0 p0 p1) (0,v_fl ((0:Int):Rat))∧lpv ((0,[]),(0,[])) (st_ref04_Misfit_0 p0 p1) (0,v_fl ((0:Int):Rat))=v_rat (v_misf p0 ((0:Int):Rat) p1) := by
 have hl := hd.len
 have main := @for_is (Int×(List Int×(Int×List Int))) (Int×(Int×(List Int×(Int×List Int)))) ((Int×List Int)×(Int×List Int)) ((0,[]),(0,[])) (st_ref04_Misfit_0 p0 p1) (sp_ref04_Misfit_0 p0 p1) (fun i t => (i,t)) 0 p1.length
  (fun _ t => ∃ w,t = v_fl w∧v_rb 2048000000000000000 w) (fun j t => v_rat (v_misf p0 (v_rv (v_unfl t)) (p1.drop j))) (by omega) (by omega) ?_ ?_ (v_fl ((0:Int):Rat)) ⟨_,rfl,v_rb_int (by decide) (by decide)⟩
 ·rw [v_unfl_fl,v_rv_rat,List.drop_zero] at main; exact main
 ·rintro t ⟨w,rfl,hw⟩
  simp only [sp_ref04_Misfit_0,st_ref04_Misfit_0,List.forall_mem_cons,show decide ((p1.length:Int) < (p1.length:Int))=false from decide_eq_false (by omega),cond_false]
  refine ⟨?_,?_⟩
  ·and_intros
   all_goals first
    | (intro h; cases h; done)
    | (intro p hp; cases hp)
  ·rw [v_unfl_fl,v_rv_rat,List.drop_length]; rfl
 ·rintro j t - hj ⟨w,rfl,hw⟩
  have hd1:decide ((j:Int) < (p1.length:Int))=true := decide_eq_true (by omega)
  have hw1:IntKind.i64.wrap ((j:Int) + 1)=((j + 1:Nat):Int) := wrap_id (by omega) (by omega)
  have hx:v_dok (p1.getD j (0,0,0)) := hd.ok _ (v_getD_mem (by omega))
  have s0:v_sok (p1.getD j (0,0,0)).1 := hx.s
  have k1 := v_resp_rok s0 hm
  have k3 := v_thou_ok s0 hm
  have bd := v_dist_rb s0 hm hx
  have k4 := bd.ok (by decide)
  have k5 := hw.ok (by decide)
  have s1 := s0.1
  have s2 := s0.2
  have eg:(((v_fl w).1,(v_fl w).2.1),(v_fl w).2.2)=v_rat w := rfl
  simp only [sp_ref04_Misfit_0,st_ref04_Misfit_0,List.forall_mem_cons,hd1,cond_true,Int.toNat_natCast,hw1,v_rv_rat]
  rw [eg]
  refine ⟨?_,.inl ?_⟩
  ·and_intros
   all_goals first
    | (intro p hp; cases hp; done)
    | (intros; assumption)
    | (intros; omega)
  ·have hc:decide (v_rcmp (v_rat (v_dist (v_resp (p1.getD j (0,0,0)).1 p0) (p1.getD j (0,0,0)))) (v_rat w) > 0)=decide (w < v_dist (v_resp (p1.getD j (0,0,0)).1 p0) (p1.getD j (0,0,0))) := by
    unfold v_rcmp
    rw [v_rv_rat,v_rv_rat]
    exact decide_eq_decide.2 v_qcmp_gt
   rw [hc,drop_getD (0,0,0) hj,v_unfl_fl,v_rv_rat]
   rcases Decidable.em (w < v_dist (v_resp (p1.getD j (0,0,0)).1 p0) (p1.getD j (0,0,0))) with c | c
   ·refine ⟨v_fl (v_dist (v_resp (p1.getD j (0,0,0)).1 p0) (p1.getD j (0,0,0))),?_,⟨_,rfl,bd⟩,?_⟩
    ·rw [decide_eq_true c]; rfl
    ·rw [v_unfl_fl,v_rv_rat]
     show _ = v_rat (v_misf p0 (v_rmax w _) _)
     unfold v_rmax
     rw [decide_eq_true c]; rfl
   ·refine ⟨v_fl w,?_,⟨_,rfl,hw⟩,?_⟩
    ·rw [decide_eq_false c]; rfl
    ·rw [v_unfl_fl,v_rv_rat]
     show _ = v_rat (v_misf p0 (v_rmax w _) _)
     unfold v_rmax
     rw [decide_eq_false c]; rfl
def v_misf0 (m:List (Int×Int)) (l:List (Int×Int×Int)):Rat := v_misf m ((0:Int):Rat) l
theorem v_misf_rb {m:List (Int×Int)} (hm:v_mok m):∀ {l:List (Int×Int×Int)} {w:Rat},(∀ x∈l,v_dok x)→v_rb 2048000000000000000 w→v_rb 2048000000000000000 (v_misf m w l)
 | [],_,_,hw => hw
 | d :: r,w,h,hw => by
  have hx := h d (by simp)
  show v_rb _ (v_misf m (v_rmax w _) r)
  refine v_misf_rb hm (fun x hx => h x (List.mem_cons_of_mem _ hx)) ?_
  unfold v_rmax
  cases decide (w < v_dist (v_resp d.1 m) d)
  ·exact hw
  ·exact v_dist_rb hx.s hm hx
abbrev t_ref04_Misfit (p0:List (Int×Int)) (p1:List (Int×Int×Int)):(Int×List Int)×(Int×List Int) := v_rat (v_misf0 p0 p1)
abbrev qre_ref04_Misfit (p0:List (Int×Int)) (p1:List (Int×Int×Int)):List Prop := [v_mok p0,v_dat p1]
theorem pp_ref04_Misfit (p0:List (Int×Int)) (p1:List (Int×Int×Int)) (hq:∀ p∈qre_ref04_Misfit p0 p1,p):∀ p∈pre_ref04_Misfit p0 p1,p := by
 obtain ⟨h1,h2,_⟩ := conj_of hq
 simp only [pre_ref04_Misfit,List.forall_mem_cons]
 exact ⟨by unfold v_fit; omega,(l_ref04_Misfit_0 p0 p1 h1 h2).1,(by intro p hp; cases hp)⟩
theorem tt_ref04_Misfit (p0:List (Int×Int)) (p1:List (Int×Int×Int)) (hq:∀ p∈qre_ref04_Misfit p0 p1,p):s_ref04_Misfit p0 p1 = t_ref04_Misfit p0 p1 := by
 obtain ⟨h1,h2,_⟩ := conj_of hq
 exact (l_ref04_Misfit_0 p0 p1 h1 h2).2

abbrev con_ref04_Misfit:Con := ⟨P_ref04_Misfit,R_ref04_Misfit,fun x => qre_ref04_Misfit x.1 x.2,fun x => t_ref04_Misfit x.1 x.2⟩
theorem ok_ref04_Misfit:ConOk Try.prog 55 con_ref04_Misfit := ⟨k_ref04_Misfit,fun x hx => ret_tf (ps := P_ref04_Misfit) (rs := R_ref04_Misfit) (x := x) (y := t_ref04_Misfit x.1 x.2) e_ref04_Misfit hC_ref04_Misfit (tf_of (w_ref04_Misfit_eq x.1 x.2 (fun z => z = t_ref04_Misfit x.1 x.2)) (d_ref04_Misfit x.1 x.2 (fun z => z = t_ref04_Misfit x.1 x.2) (pp_ref04_Misfit x.1 x.2 hx) (tt_ref04_Misfit x.1 x.2 hx)))⟩
/- mathbits_Mul64 -/
def C_mathbits_Mul64:Cons := []
theorem hC_mathbits_Mul64:ConsOk Try.prog C_mathbits_Mul64 := ConsOk.nil
def w_mathbits_Mul64 (p0:Int) (p1:Int) (K:(Int×Int)→Prop):Prop :=
  (K ((IntKind.wrap .u64 ((IntKind.wrap .u64 ((IntKind.wrap .u64 ((v_shr .u64 p0 (32:Int)) * (v_shr .u64 p1 (32:Int)))) + (v_shr .u64 (IntKind.wrap .u64 ((IntKind.wrap .u64 ((v_shr .u64 p0 (32:Int)) * (v_and .u64 p1 (4294967295:Int)))) + (v_shr .u64 (IntKind.wrap .u64 ((v_and .u64 p0 (4294967295:Int)) * (v_and .u64 p1 (4294967295:Int)))) (32:Int)))) (32:Int)))) + (v_shr .u64 (IntKind.wrap .u64 ((v_and .u64 (IntKind.wrap .u64 ((IntKind.wrap .u64 ((v_shr .u64 p0 (32:Int)) * (v_and .u64 p1 (4294967295:Int)))) + (v_shr .u64 (IntKind.wrap .u64 ((v_and .u64 p0 (4294967295:Int)) * (v_and .u64 p1 (4294967295:Int)))) (32:Int)))) (4294967295:Int)) + (IntKind.wrap .u64 ((v_and .u64 p0 (4294967295:Int)) * (v_shr .u64 p1 (32:Int)))))) (32:Int)))),(IntKind.wrap .u64 (p0 * p1))))
set_option maxHeartbeats 4000000 in
theorem w_mathbits_Mul64_eq (p0:Int) (p1:Int) (K:(Int×Int)→Prop):tfn F_mathbits_Mul64 A_mathbits_Mul64 C_mathbits_Mul64 P_mathbits_Mul64 R_mathbits_Mul64 (p0,p1) K = w_mathbits_Mul64 p0 p1 K := by kernel_rfl
def s_mathbits_Mul64 (p0:Int) (p1:Int):(Int×Int) :=
 ((IntKind.wrap .u64 ((IntKind.wrap .u64 ((IntKind.wrap .u64 ((v_shr .u64 p0 (32:Int)) * (v_shr .u64 p1 (32:Int)))) + (v_shr .u64 (IntKind.wrap .u64 ((IntKind.wrap .u64 ((v_shr .u64 p0 (32:Int)) * (v_and .u64 p1 (4294967295:Int)))) + (v_shr .u64 (IntKind.wrap .u64 ((v_and .u64 p0 (4294967295:Int)) * (v_and .u64 p1 (4294967295:Int)))) (32:Int)))) (32:Int)))) + (v_shr .u64 (IntKind.wrap .u64 ((v_and .u64 (IntKind.wrap .u64 ((IntKind.wrap .u64 ((v_shr .u64 p0 (32:Int)) * (v_and .u64 p1 (4294967295:Int)))) + (v_shr .u64 (IntKind.wrap .u64 ((v_and .u64 p0 (4294967295:Int)) * (v_and .u64 p1 (4294967295:Int)))) (32:Int)))) (4294967295:Int)) + (IntKind.wrap .u64 ((v_and .u64 p0 (4294967295:Int)) * (v_shr .u64 p1 (32:Int)))))) (32:Int)))),(IntKind.wrap .u64 (p0 * p1)))
abbrev pre_mathbits_Mul64 (_p0:Int) (_p1:Int):List Prop := []
set_option maxHeartbeats 4000000 in
theorem d_mathbits_Mul64 (p0:Int) (p1:Int) (K:(Int×Int)→Prop) (_hp:∀ p∈pre_mathbits_Mul64 p0 p1,p) (h:K (s_mathbits_Mul64 p0 p1)):w_mathbits_Mul64 p0 p1 K := by
 unfold w_mathbits_Mul64
 unfold s_mathbits_Mul64 at h
 exact h
/-- Both halves of a product. -/
def v_m64 (p0 p1:Int):Int×Int := (p0 * p1 / 18446744073709551616,p0 * p1 % 18446744073709551616)
abbrev t_mathbits_Mul64 (p0 p1:Int):Int×Int := v_m64 p0 p1
abbrev qre_mathbits_Mul64 (p0 p1:Int):List Prop := [0≤p0∧p0 < 18446744073709551616,0≤p1∧p1 < 18446744073709551616]
theorem pp_mathbits_Mul64 (p0 p1:Int) (_hq:∀ p∈qre_mathbits_Mul64 p0 p1,p):∀ p∈pre_mathbits_Mul64 p0 p1,p := by
 intro p hp; simp at hp
theorem tt_mathbits_Mul64 (p0 p1:Int) (hq:∀ p∈qre_mathbits_Mul64 p0 p1,p):s_mathbits_Mul64 p0 p1 = t_mathbits_Mul64 p0 p1 := by
 obtain ⟨h0,h1,_⟩ := conj_of hq
 obtain ⟨x,rfl⟩ : ∃ x:Nat,p0 = x := ⟨p0.toNat,by omega⟩
 obtain ⟨y,rfl⟩ : ∃ y:Nat,p1 = y := ⟨p1.toNat,by omega⟩
 obtain ⟨e1,e2⟩ := u_mul64 x y (by omega) (by omega)
 exact Prod.ext e1 e2

abbrev con_mathbits_Mul64:Con := ⟨P_mathbits_Mul64,R_mathbits_Mul64,fun x => qre_mathbits_Mul64 x.1 x.2,fun x => t_mathbits_Mul64 x.1 x.2⟩
theorem ok_mathbits_Mul64:ConOk Try.prog 140 con_mathbits_Mul64 := ⟨k_mathbits_Mul64,fun x hx => ret_tf (ps := P_mathbits_Mul64) (rs := R_mathbits_Mul64) (x := x) (y := t_mathbits_Mul64 x.1 x.2) e_mathbits_Mul64 hC_mathbits_Mul64 (tf_of (w_mathbits_Mul64_eq x.1 x.2 (fun z => z = t_mathbits_Mul64 x.1 x.2)) (d_mathbits_Mul64 x.1 x.2 (fun z => z = t_mathbits_Mul64 x.1 x.2) (pp_mathbits_Mul64 x.1 x.2 hx) (tt_mathbits_Mul64 x.1 x.2 hx)))⟩
/- ground_compare -/
def C_ground_compare:Cons := [(140,[],con_mathbits_Mul64)]
theorem hC_ground_compare:ConsOk Try.prog C_ground_compare := ConsOk.cons ok_mathbits_Mul64 <| ConsOk.nil
def w_ground_compare (p0:Int) (p1:Int) (p2:Int) (p3:Int) (K:Int→Prop):Prop :=
  ((((0:Int)≤(IntKind.wrap .u64 p0)) ∧
 ((IntKind.wrap .u64 p0) < 18446744073709551616)) ∧
 ((((0:Int)≤(IntKind.wrap .u64 p1)) ∧
 ((IntKind.wrap .u64 p1) < 18446744073709551616)) ∧
 ((((0:Int)≤(IntKind.wrap .u64 p2)) ∧
 ((IntKind.wrap .u64 p2) < 18446744073709551616)) ∧
 ((((0:Int)≤(IntKind.wrap .u64 p3)) ∧
 ((IntKind.wrap .u64 p3) < 18446744073709551616)) ∧
 (((((v_m64 (IntKind.wrap .u64 p0) (IntKind.wrap .u64 p1)).1 == (v_m64 (IntKind.wrap .u64 p2) (IntKind.wrap .u64 p3)).1)=true) →
 (((v_m64 (IntKind.wrap .u64 p0) (IntKind.wrap .u64 p1)).1 == (v_m64 (IntKind.wrap .u64 p2) (IntKind.wrap .u64 p3)).1)=((v_m64 (IntKind.wrap .u64 p0) (IntKind.wrap .u64 p1)).1 == (v_m64 (IntKind.wrap .u64 p2) (IntKind.wrap .u64 p3)).1))) ∧
 (((((v_m64 (IntKind.wrap .u64 p0) (IntKind.wrap .u64 p1)).1 == (v_m64 (IntKind.wrap .u64 p2) (IntKind.wrap .u64 p3)).1)=true) →
 (((v_m64 (IntKind.wrap .u64 p0) (IntKind.wrap .u64 p1)).1 == (v_m64 (IntKind.wrap .u64 p2) (IntKind.wrap .u64 p3)).1)=((v_m64 (IntKind.wrap .u64 p0) (IntKind.wrap .u64 p1)).1 == (v_m64 (IntKind.wrap .u64 p2) (IntKind.wrap .u64 p3)).1))) ∧
 ((((v_m64 (IntKind.wrap .u64 p0) (IntKind.wrap .u64 p1)).1 == (v_m64 (IntKind.wrap .u64 p2) (IntKind.wrap .u64 p3)).1)=((v_m64 (IntKind.wrap .u64 p0) (IntKind.wrap .u64 p1)).1 == (v_m64 (IntKind.wrap .u64 p2) (IntKind.wrap .u64 p3)).1)) ∧
 ((((cond ((v_m64 (IntKind.wrap .u64 p0) (IntKind.wrap .u64 p1)).1 == (v_m64 (IntKind.wrap .u64 p2) (IntKind.wrap .u64 p3)).1) ((v_m64 (IntKind.wrap .u64 p0) (IntKind.wrap .u64 p1)).2 == (v_m64 (IntKind.wrap .u64 p2) (IntKind.wrap .u64 p3)).2) false)=true) →
 (K (0:Int))) ∧
 (((cond ((v_m64 (IntKind.wrap .u64 p0) (IntKind.wrap .u64 p1)).1 == (v_m64 (IntKind.wrap .u64 p2) (IntKind.wrap .u64 p3)).1) ((v_m64 (IntKind.wrap .u64 p0) (IntKind.wrap .u64 p1)).2 == (v_m64 (IntKind.wrap .u64 p2) (IntKind.wrap .u64 p3)).2) false)=false) →
 ((((decide ((v_m64 (IntKind.wrap .u64 p0) (IntKind.wrap .u64 p1)).1 > (v_m64 (IntKind.wrap .u64 p2) (IntKind.wrap .u64 p3)).1))=false) →
  ((decide ((v_m64 (IntKind.wrap .u64 p0) (IntKind.wrap .u64 p1)).1 > (v_m64 (IntKind.wrap .u64 p2) (IntKind.wrap .u64 p3)).1))=(decide ((v_m64 (IntKind.wrap .u64 p0) (IntKind.wrap .u64 p1)).1 > (v_m64 (IntKind.wrap .u64 p2) (IntKind.wrap .u64 p3)).1)))) ∧
  ((((decide ((v_m64 (IntKind.wrap .u64 p0) (IntKind.wrap .u64 p1)).1 > (v_m64 (IntKind.wrap .u64 p2) (IntKind.wrap .u64 p3)).1))=false) →
  ((decide ((v_m64 (IntKind.wrap .u64 p0) (IntKind.wrap .u64 p1)).1 > (v_m64 (IntKind.wrap .u64 p2) (IntKind.wrap .u64 p3)).1))=(decide ((v_m64 (IntKind.wrap .u64 p0) (IntKind.wrap .u64 p1)).1 > (v_m64 (IntKind.wrap .u64 p2) (IntKind.wrap .u64 p3)).1)))) ∧
  ((((decide ((v_m64 (IntKind.wrap .u64 p0) (IntKind.wrap .u64 p1)).1 > (v_m64 (IntKind.wrap .u64 p2) (IntKind.wrap .u64 p3)).1))=false) →
  ((decide ((v_m64 (IntKind.wrap .u64 p0) (IntKind.wrap .u64 p1)).1 > (v_m64 (IntKind.wrap .u64 p2) (IntKind.wrap .u64 p3)).1))=(decide ((v_m64 (IntKind.wrap .u64 p0) (IntKind.wrap .u64 p1)).1 > (v_m64 (IntKind.wrap .u64 p2) (IntKind.wrap .u64 p3)).1)))) ∧
  (((((!(decide ((v_m64 (IntKind.wrap .u64 p0) (IntKind.wrap .u64 p1)).1 > (v_m64 (IntKind.wrap .u64 p2) (IntKind.wrap .u64 p3)).1))) && ((v_m64 (IntKind.wrap .u64 p0) (IntKind.wrap .u64 p1)).1 == (v_m64 (IntKind.wrap .u64 p2) (IntKind.wrap .u64 p3)).1))=true) →
  (((!(decide ((v_m64 (IntKind.wrap .u64 p0) (IntKind.wrap .u64 p1)).1 > (v_m64 (IntKind.wrap .u64 p2) (IntKind.wrap .u64 p3)).1))) && ((v_m64 (IntKind.wrap .u64 p0) (IntKind.wrap .u64 p1)).1 == (v_m64 (IntKind.wrap .u64 p2) (IntKind.wrap .u64 p3)).1))=((!(decide ((v_m64 (IntKind.wrap .u64 p0) (IntKind.wrap .u64 p1)).1 > (v_m64 (IntKind.wrap .u64 p2) (IntKind.wrap .u64 p3)).1))) && ((v_m64 (IntKind.wrap .u64 p0) (IntKind.wrap .u64 p1)).1 == (v_m64 (IntKind.wrap .u64 p2) (IntKind.wrap .u64 p3)).1)))) ∧
  (((((!(decide ((v_m64 (IntKind.wrap .u64 p0) (IntKind.wrap .u64 p1)).1 > (v_m64 (IntKind.wrap .u64 p2) (IntKind.wrap .u64 p3)).1))) && ((v_m64 (IntKind.wrap .u64 p0) (IntKind.wrap .u64 p1)).1 == (v_m64 (IntKind.wrap .u64 p2) (IntKind.wrap .u64 p3)).1))=true) →
  (((!(decide ((v_m64 (IntKind.wrap .u64 p0) (IntKind.wrap .u64 p1)).1 > (v_m64 (IntKind.wrap .u64 p2) (IntKind.wrap .u64 p3)).1))) && ((v_m64 (IntKind.wrap .u64 p0) (IntKind.wrap .u64 p1)).1 == (v_m64 (IntKind.wrap .u64 p2) (IntKind.wrap .u64 p3)).1))=((!(decide ((v_m64 (IntKind.wrap .u64 p0) (IntKind.wrap .u64 p1)).1 > (v_m64 (IntKind.wrap .u64 p2) (IntKind.wrap .u64 p3)).1))) && ((v_m64 (IntKind.wrap .u64 p0) (IntKind.wrap .u64 p1)).1 == (v_m64 (IntKind.wrap .u64 p2) (IntKind.wrap .u64 p3)).1)))) ∧
  ((((decide ((v_m64 (IntKind.wrap .u64 p0) (IntKind.wrap .u64 p1)).1 > (v_m64 (IntKind.wrap .u64 p2) (IntKind.wrap .u64 p3)).1))=false) →
  ((decide ((v_m64 (IntKind.wrap .u64 p0) (IntKind.wrap .u64 p1)).1 > (v_m64 (IntKind.wrap .u64 p2) (IntKind.wrap .u64 p3)).1))=(decide ((v_m64 (IntKind.wrap .u64 p0) (IntKind.wrap .u64 p1)).1 > (v_m64 (IntKind.wrap .u64 p2) (IntKind.wrap .u64 p3)).1)))) ∧
  ((((decide ((v_m64 (IntKind.wrap .u64 p0) (IntKind.wrap .u64 p1)).1 > (v_m64 (IntKind.wrap .u64 p2) (IntKind.wrap .u64 p3)).1))=false) →
  (((!(decide ((v_m64 (IntKind.wrap .u64 p0) (IntKind.wrap .u64 p1)).1 > (v_m64 (IntKind.wrap .u64 p2) (IntKind.wrap .u64 p3)).1))) && ((v_m64 (IntKind.wrap .u64 p0) (IntKind.wrap .u64 p1)).1 == (v_m64 (IntKind.wrap .u64 p2) (IntKind.wrap .u64 p3)).1))=((v_m64 (IntKind.wrap .u64 p0) (IntKind.wrap .u64 p1)).1 == (v_m64 (IntKind.wrap .u64 p2) (IntKind.wrap .u64 p3)).1))) ∧
  (((decide ((v_m64 (IntKind.wrap .u64 p0) (IntKind.wrap .u64 p1)).1 > (v_m64 (IntKind.wrap .u64 p2) (IntKind.wrap .u64 p3)).1))=(decide ((v_m64 (IntKind.wrap .u64 p0) (IntKind.wrap .u64 p1)).1 > (v_m64 (IntKind.wrap .u64 p2) (IntKind.wrap .u64 p3)).1))) ∧
  ((((cond (decide ((v_m64 (IntKind.wrap .u64 p0) (IntKind.wrap .u64 p1)).1 > (v_m64 (IntKind.wrap .u64 p2) (IntKind.wrap .u64 p3)).1)) true (cond ((v_m64 (IntKind.wrap .u64 p0) (IntKind.wrap .u64 p1)).1 == (v_m64 (IntKind.wrap .u64 p2) (IntKind.wrap .u64 p3)).1) (decide ((v_m64 (IntKind.wrap .u64 p0) (IntKind.wrap .u64 p1)).2 > (v_m64 (IntKind.wrap .u64 p2) (IntKind.wrap .u64 p3)).2)) false))=true) →
  (K (1:Int))) ∧
  (((cond (decide ((v_m64 (IntKind.wrap .u64 p0) (IntKind.wrap .u64 p1)).1 > (v_m64 (IntKind.wrap .u64 p2) (IntKind.wrap .u64 p3)).1)) true (cond ((v_m64 (IntKind.wrap .u64 p0) (IntKind.wrap .u64 p1)).1 == (v_m64 (IntKind.wrap .u64 p2) (IntKind.wrap .u64 p3)).1) (decide ((v_m64 (IntKind.wrap .u64 p0) (IntKind.wrap .u64 p1)).2 > (v_m64 (IntKind.wrap .u64 p2) (IntKind.wrap .u64 p3)).2)) false))=false) →
  (K (-1:Int)))))))))))))))))))))
set_option maxHeartbeats 4000000 in
theorem w_ground_compare_eq (p0:Int) (p1:Int) (p2:Int) (p3:Int) (K:Int→Prop):tfn F_ground_compare A_ground_compare C_ground_compare P_ground_compare R_ground_compare (p0,p1,p2,p3) K = w_ground_compare p0 p1 p2 p3 K := by kernel_rfl
def s_ground_compare (p0:Int) (p1:Int) (p2:Int) (p3:Int):Int :=
 (cond (cond ((v_m64 (IntKind.wrap .u64 p0) (IntKind.wrap .u64 p1)).1 == (v_m64 (IntKind.wrap .u64 p2) (IntKind.wrap .u64 p3)).1) ((v_m64 (IntKind.wrap .u64 p0) (IntKind.wrap .u64 p1)).2 == (v_m64 (IntKind.wrap .u64 p2) (IntKind.wrap .u64 p3)).2) false) (0:Int)
  (cond (cond (decide ((v_m64 (IntKind.wrap .u64 p0) (IntKind.wrap .u64 p1)).1 > (v_m64 (IntKind.wrap .u64 p2) (IntKind.wrap .u64 p3)).1)) true (cond ((v_m64 (IntKind.wrap .u64 p0) (IntKind.wrap .u64 p1)).1 == (v_m64 (IntKind.wrap .u64 p2) (IntKind.wrap .u64 p3)).1) (decide ((v_m64 (IntKind.wrap .u64 p0) (IntKind.wrap .u64 p1)).2 > (v_m64 (IntKind.wrap .u64 p2) (IntKind.wrap .u64 p3)).2)) false)) (1:Int)
  (-1:Int)))
abbrev pre_ground_compare (p0:Int) (p1:Int) (p2:Int) (p3:Int):List Prop := [(((0:Int)≤(IntKind.wrap .u64 p0))∧((IntKind.wrap .u64 p0) < 18446744073709551616)),
  (((0:Int)≤(IntKind.wrap .u64 p1))∧((IntKind.wrap .u64 p1) < 18446744073709551616)),
  (((0:Int)≤(IntKind.wrap .u64 p2))∧((IntKind.wrap .u64 p2) < 18446744073709551616)),
  (((0:Int)≤(IntKind.wrap .u64 p3))∧((IntKind.wrap .u64 p3) < 18446744073709551616)),
  (((cond ((v_m64 (IntKind.wrap .u64 p0) (IntKind.wrap .u64 p1)).1 == (v_m64 (IntKind.wrap .u64 p2) (IntKind.wrap .u64 p3)).1) ((v_m64 (IntKind.wrap .u64 p0) (IntKind.wrap .u64 p1)).2 == (v_m64 (IntKind.wrap .u64 p2) (IntKind.wrap .u64 p3)).2) false)=false)→(((decide ((v_m64 (IntKind.wrap .u64 p0) (IntKind.wrap .u64 p1)).1 > (v_m64 (IntKind.wrap .u64 p2) (IntKind.wrap .u64 p3)).1))=false)→(((!(decide ((v_m64 (IntKind.wrap .u64 p0) (IntKind.wrap .u64 p1)).1 > (v_m64 (IntKind.wrap .u64 p2) (IntKind.wrap .u64 p3)).1))) && ((v_m64 (IntKind.wrap .u64 p0) (IntKind.wrap .u64 p1)).1 == (v_m64 (IntKind.wrap .u64 p2) (IntKind.wrap .u64 p3)).1))=((v_m64 (IntKind.wrap .u64 p0) (IntKind.wrap .u64 p1)).1 == (v_m64 (IntKind.wrap .u64 p2) (IntKind.wrap .u64 p3)).1))))]
set_option maxHeartbeats 4000000 in
theorem d_ground_compare (p0:Int) (p1:Int) (p2:Int) (p3:Int) (K:Int→Prop) (hp:∀ p∈pre_ground_compare p0 p1 p2 p3,p) (h:K (s_ground_compare p0 p1 p2 p3)):w_ground_compare p0 p1 p2 p3 K := by
 unfold w_ground_compare
 unfold s_ground_compare at h
 obtain ⟨hp0,hp1,hp2,hp3,hp4,_⟩ := conj_of hp
 exact ⟨(hp0),(hp1),(hp2),(hp3),rf,rf,rfl,(br' h (fun e0 h => h)
  (fun e0 h => ⟨rf,rf,rf,rf,rf,rf,(hp4 e0),rfl,(br' h (fun e1 h => h)
  (fun e1 h => h))⟩))⟩
abbrev t_ground_compare (p0:Int) (p1:Int) (p2:Int) (p3:Int):Int := v_cmp (p0 * p1) (p2 * p3)
abbrev qre_ground_compare (p0:Int) (p1:Int) (p2:Int) (p3:Int):List Prop := [0≤p0∧p0≤9223372036854775807,0≤p1∧p1≤9223372036854775807,0≤p2∧p2≤9223372036854775807,0≤p3∧p3≤9223372036854775807]
theorem pp_ground_compare (p0:Int) (p1:Int) (p2:Int) (p3:Int) (hq:∀ p∈qre_ground_compare p0 p1 p2 p3,p):∀ p∈pre_ground_compare p0 p1 p2 p3,p := by
 obtain ⟨h1,h2,h3,h4,_⟩ := conj_of hq
 simp only [pre_ground_compare,v_m64,List.forall_mem_cons,u_wrap h1.1 (show p0 < 18446744073709551616 by omega),u_wrap h2.1 (show p1 < 18446744073709551616 by omega),u_wrap h3.1 (show p2 < 18446744073709551616 by omega),u_wrap h4.1 (show p3 < 18446744073709551616 by omega)]
 refine ⟨by omega,by omega,by omega,by omega,?_⟩
 generalize p0 * p1 = x
 generalize p2 * p3 = y
 simp only [List.not_mem_nil,false_implies,implies_true,and_true]
 intros
 simp_all
theorem tt_ground_compare (p0:Int) (p1:Int) (p2:Int) (p3:Int) (hq:∀ p∈qre_ground_compare p0 p1 p2 p3,p):s_ground_compare p0 p1 p2 p3 = t_ground_compare p0 p1 p2 p3 := by
 obtain ⟨h1,h2,h3,h4,_⟩ := conj_of hq
 unfold s_ground_compare t_ground_compare v_cmp v_m64
 rw [u_wrap h1.1 (by omega),u_wrap h2.1 (by omega),u_wrap h3.1 (by omega),u_wrap h4.1 (by omega)]
 simp only
 generalize p0 * p1 = x
 generalize p2 * p3 = y
 rcases Int.lt_trichotomy x y with h | h | h
 ·rw [decide_eq_true h,decide_eq_false (show ¬ x / 18446744073709551616 > y / 18446744073709551616 by omega)]
  rcases Decidable.em (x / 18446744073709551616 = y / 18446744073709551616) with e | e
  ·rw [beq_iff_eq.2 e,decide_eq_false (show ¬ x % 18446744073709551616 > y % 18446744073709551616 by omega),beq_eq_false_iff_ne.2 (show x % 18446744073709551616 ≠ y % 18446744073709551616 by omega)]; rfl
  ·rw [beq_eq_false_iff_ne.2 e]; rfl
 ·subst h
  rw [decide_eq_false (show ¬ x < x by omega),beq_self_eq_true,beq_self_eq_true]; rfl
 ·rw [decide_eq_false (show ¬ x < y by omega),decide_eq_true (show x > y from h)]
  rcases Decidable.em (x / 18446744073709551616 = y / 18446744073709551616) with e | e
  ·rw [beq_iff_eq.2 e,decide_eq_true (show x % 18446744073709551616 > y % 18446744073709551616 by omega),beq_eq_false_iff_ne.2 (show x % 18446744073709551616 ≠ y % 18446744073709551616 by omega),decide_eq_false (show ¬ x / 18446744073709551616 > y / 18446744073709551616 by omega)]; rfl
  ·rw [beq_eq_false_iff_ne.2 e,decide_eq_true (show x / 18446744073709551616 > y / 18446744073709551616 by omega)]; rfl

abbrev con_ground_compare:Con := ⟨P_ground_compare,R_ground_compare,fun x => qre_ground_compare x.1 x.2.1 x.2.2.1 x.2.2.2,fun x => t_ground_compare x.1 x.2.1 x.2.2.1 x.2.2.2⟩
theorem ok_ground_compare:ConOk Try.prog 116 con_ground_compare := ⟨k_ground_compare,fun x hx => ret_tf (ps := P_ground_compare) (rs := R_ground_compare) (x := x) (y := t_ground_compare x.1 x.2.1 x.2.2.1 x.2.2.2) e_ground_compare hC_ground_compare (tf_of (w_ground_compare_eq x.1 x.2.1 x.2.2.1 x.2.2.2 (fun z => z = t_ground_compare x.1 x.2.1 x.2.2.1 x.2.2.2)) (d_ground_compare x.1 x.2.1 x.2.2.1 x.2.2.2 (fun z => z = t_ground_compare x.1 x.2.1 x.2.2.1 x.2.2.2) (pp_ground_compare x.1 x.2.1 x.2.2.1 x.2.2.2 hx) (tt_ground_compare x.1 x.2.1 x.2.2.1 x.2.2.2 hx)))⟩
/- ground_quotient_above -/
def C_ground_quotient_above:Cons := [(116,[],con_ground_compare)]
theorem hC_ground_quotient_above:ConsOk Try.prog C_ground_quotient_above := ConsOk.cons ok_ground_compare <| ConsOk.nil
def w_ground_quotient_above (p0:(Int×Int)) (p1:(Int×Int)) (K:Bool→Prop):Prop :=
  ((((0:Int)≤p0.1) ∧
 (p0.1≤9223372036854775807)) ∧
 ((((0:Int)≤p1.2) ∧
 (p1.2≤9223372036854775807)) ∧
 ((((0:Int)≤p1.1) ∧
 (p1.1≤9223372036854775807)) ∧
 ((((0:Int)≤p0.2) ∧
 (p0.2≤9223372036854775807)) ∧
 (K (decide ((v_cmp (p0.1 * p1.2) (p1.1 * p0.2)) > 0)))))))
set_option maxHeartbeats 4000000 in
theorem w_ground_quotient_above_eq (p0:(Int×Int)) (p1:(Int×Int)) (K:Bool→Prop):tfn F_ground_quotient_above A_ground_quotient_above C_ground_quotient_above P_ground_quotient_above R_ground_quotient_above (p0,p1) K = w_ground_quotient_above p0 p1 K := by kernel_rfl
def s_ground_quotient_above (p0:(Int×Int)) (p1:(Int×Int)):Bool :=
 (decide ((v_cmp (p0.1 * p1.2) (p1.1 * p0.2)) > 0))
abbrev pre_ground_quotient_above (p0:(Int×Int)) (p1:(Int×Int)):List Prop := [(((0:Int)≤p0.1)∧(p0.1≤9223372036854775807)),
  (((0:Int)≤p1.2)∧(p1.2≤9223372036854775807)),
  (((0:Int)≤p1.1)∧(p1.1≤9223372036854775807)),
  (((0:Int)≤p0.2)∧(p0.2≤9223372036854775807))]
set_option maxHeartbeats 4000000 in
theorem d_ground_quotient_above (p0:(Int×Int)) (p1:(Int×Int)) (K:Bool→Prop) (hp:∀ p∈pre_ground_quotient_above p0 p1,p) (h:K (s_ground_quotient_above p0 p1)):w_ground_quotient_above p0 p1 K := by
 unfold w_ground_quotient_above
 unfold s_ground_quotient_above at h
 obtain ⟨hp0,hp1,hp2,hp3,_⟩ := conj_of hp
 exact ⟨(hp0),(hp1),(hp2),(hp3),h⟩
def v_qab (p q:Int×Int):Bool := decide (q.1 * p.2 < p.1 * q.2)
abbrev t_ground_quotient_above (p0:Int×Int) (p1:Int×Int):Bool := v_qab p0 p1
abbrev qre_ground_quotient_above (p0:Int×Int) (p1:Int×Int):List Prop := [0≤p0.1∧p0.1≤9223372036854775807,0≤p0.2∧p0.2≤9223372036854775807,0≤p1.1∧p1.1≤9223372036854775807,0≤p1.2∧p1.2≤9223372036854775807]
theorem pp_ground_quotient_above (p0:Int×Int) (p1:Int×Int) (hq:∀ p∈qre_ground_quotient_above p0 p1,p):∀ p∈pre_ground_quotient_above p0 p1,p := by
 obtain ⟨h1,h2,h3,h4,_⟩ := conj_of hq
 simp only [pre_ground_quotient_above,List.forall_mem_cons]
 and_intros
 all_goals first
  | (intro p hp; cases hp; done)
  | omega
theorem tt_ground_quotient_above (p0:Int×Int) (p1:Int×Int) (_hq:∀ p∈qre_ground_quotient_above p0 p1,p):s_ground_quotient_above p0 p1 = t_ground_quotient_above p0 p1 := by
 unfold s_ground_quotient_above t_ground_quotient_above v_qab
 exact decide_eq_decide.2 v_cmp_gt

abbrev con_ground_quotient_above:Con := ⟨P_ground_quotient_above,R_ground_quotient_above,fun x => qre_ground_quotient_above x.1 x.2,fun x => t_ground_quotient_above x.1 x.2⟩
theorem ok_ground_quotient_above:ConOk Try.prog 138 con_ground_quotient_above := ⟨k_ground_quotient_above,fun x hx => ret_tf (ps := P_ground_quotient_above) (rs := R_ground_quotient_above) (x := x) (y := t_ground_quotient_above x.1 x.2) e_ground_quotient_above hC_ground_quotient_above (tf_of (w_ground_quotient_above_eq x.1 x.2 (fun z => z = t_ground_quotient_above x.1 x.2)) (d_ground_quotient_above x.1 x.2 (fun z => z = t_ground_quotient_above x.1 x.2) (pp_ground_quotient_above x.1 x.2 hx) (tt_ground_quotient_above x.1 x.2 hx)))⟩
end Go.Proofs.Ytehblgccaiiikaa
