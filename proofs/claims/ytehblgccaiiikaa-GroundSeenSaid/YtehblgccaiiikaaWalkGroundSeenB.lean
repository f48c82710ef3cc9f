/- What the functions that GroundSeen reaches compute: contracts, each function once. No condition. -/
import Derived.Test.YtehblgccaiiikaaWalkGroundSeenA
import Derived.KernelRfl
namespace Go.Proofs.Ytehblgccaiiikaa
open Go Go.Mx
set_option maxRecDepth 100000
set_option maxHeartbeats 4000000
def C_Zg:Cons := [(131,[],con_Z17),(146,[],con_Zp)]
theorem hC_Zg:ConsOk Try.prog C_Zg := cC ok_Z17 <| cC ok_Zp <| ConsOk.nil
def w_Zg (p0:Int) (K:(Int×(List Int))→Prop):Prop := ((((decide (p0 < 0))=true) →(∃ n0,(loopP (fun (y1:gE) k2 => ((((y1.1 != 0)=true) →((((y1.2.length + (List.length ((s_Z17 (Int.tmod y1.1 (1000000000:Int))) :: ([]:List Int)))) * 8)≤140737488355328) ∧(k2 ((IntKind.i64.wrap (Int.tdiv y1.1 (1000000000:Int))),(y1.2 ++ ((s_Z17 (Int.tmod y1.1 (1000000000:Int))) :: ([]:List Int))))))) ∧(((y1.1 != 0)=false) →((v_sgn (-1:Int) y1.2) ∧((v_dgok y1.2) ∧((y1.2.length≤10000000000000) ∧(K (v_wide ((-1:Int) * (v_val y1.2)))))))))) n0 (p0,([]:List Int))))) ∧(((decide (p0 < 0))=false) →(∃ n3,(loopP (fun (y4:gE) k5 => ((((y4.1 != 0)=true) →((((y4.2.length + (List.length ((s_Z17 (Int.tmod y4.1 (1000000000:Int))) :: ([]:List Int)))) * 8)≤140737488355328) ∧(k5 ((IntKind.i64.wrap (Int.tdiv y4.1 (1000000000:Int))),(y4.2 ++ ((s_Z17 (Int.tmod y4.1 (1000000000:Int))) :: ([]:List Int))))))) ∧(((y4.1 != 0)=false) →((v_sgn zz1 y4.2) ∧((v_dgok y4.2) ∧((y4.2.length≤10000000000000) ∧(K (v_wide (zz1 * (v_val y4.2)))))))))) n3 (p0,([]:List Int))))))
theorem w_Zg_eq (p0:Int) (K:(Int×(List Int))→Prop):tfn F_Zg A_Zg C_Zg P_Zg R_Zg p0 K = w_Zg p0 K := by kernel_rfl
def st_Zg_0 (_p0:Int) (y1:gE):(Int×(List Int)) ⊕ (Int×(List Int)) := (cond (y1.1 != 0) (Sum.inl ((IntKind.i64.wrap (Int.tdiv y1.1 (1000000000:Int))),(y1.2 ++ ((s_Z17 (Int.tmod y1.1 (1000000000:Int))) :: ([]:List Int))))) (Sum.inr (v_wide ((-1:Int) * (v_val y1.2)))))
abbrev sp_Zg_0 (_p0:Int) (y1:gE):List Prop := [(((y1.1 != 0)=true)→(((y1.2.length + (List.length ((s_Z17 (Int.tmod y1.1 (1000000000:Int))) :: ([]:List Int)))) * 8)≤140737488355328)),(((y1.1 != 0)=false)→(v_sgn (-1:Int) y1.2)),(((y1.1 != 0)=false)→(v_dgok y1.2)),(((y1.1 != 0)=false)→(y1.2.length≤10000000000000))]
def st_Zg_1 (_p0:Int) (y3:gE):(Int×(List Int)) ⊕ (Int×(List Int)) := (cond (y3.1 != 0) (Sum.inl ((IntKind.i64.wrap (Int.tdiv y3.1 (1000000000:Int))),(y3.2 ++ ((s_Z17 (Int.tmod y3.1 (1000000000:Int))) :: ([]:List Int))))) (Sum.inr (v_wide ((1:Int) * (v_val y3.2)))))
abbrev sp_Zg_1 (_p0:Int) (y3:gE):List Prop := [(((y3.1 != 0)=true)→(((y3.2.length + (List.length ((s_Z17 (Int.tmod y3.1 (1000000000:Int))) :: ([]:List Int)))) * 8)≤140737488355328)),(((y3.1 != 0)=false)→(v_sgn (1:Int) y3.2)),(((y3.1 != 0)=false)→(v_dgok y3.2)),(((y3.1 != 0)=false)→(y3.2.length≤10000000000000))]
def s_Zg (p0:Int):(Int×(List Int)) := (cond (decide (p0 < 0)) (lpv ((0:Int),[]) (st_Zg_0 p0) (p0,([]:List Int))) (lpv ((0:Int),[]) (st_Zg_1 p0) (p0,([]:List Int))))
abbrev pre_Zg (p0:Int):List Prop := [(((decide (p0 < 0))=true)→(OkL (st_Zg_0 p0) (sp_Zg_0 p0) (p0,([]:List Int)))),(((decide (p0 < 0))=false)→(OkL (st_Zg_1 p0) (sp_Zg_1 p0) (p0,([]:List Int))))]
theorem d_Zg (p0:Int) (K:(Int×(List Int))→Prop) (hp:∀ p∈pre_Zg p0,p) (h:K (s_Zg p0)):w_Zg p0 K := by
 unfold w_Zg
 unfold s_Zg at h
 obtain ⟨hp0,hp1,_⟩ := conj_of hp
 exact (br' h (fun e0 h => (loop_gen (hp0 e0) h (fun y1 k1 hp h => by
 unfold st_Zg_0 at h; obtain ⟨hp0,hp1,hp2,hp3,_⟩ := conj_of hp
 exact (br' h (fun e2 h => ⟨(hp0 e2),h⟩)
  (fun e2 h => ⟨(hp1 e2),(hp2 e2),(hp3 e2),h⟩)))))
  (fun e0 h => (loop_gen (hp1 e0) h (fun y3 k3 hp h => by
 unfold st_Zg_1 at h; obtain ⟨hp0,hp1,hp2,hp3,_⟩ := conj_of hp
 exact (br' h (fun e4 h => ⟨(hp0 e4),h⟩)
  (fun e4 h => ⟨(hp1 e4),(hp2 e4),(hp3 e4),h⟩))))))
theorem v_size_tmod {n:Int} (h:v_fit n):s_Z17 (n.tmod 1000000000)=((n.natAbs % 1000000000:Nat):Int)∧IntKind.i64.wrap (n.tdiv 1000000000)=n.tdiv 1000000000∧(n.tdiv 1000000000).natAbs = n.natAbs / 1000000000 := by
 have h1:(n.tmod 1000000000).natAbs = n.natAbs % 1000000000 := by rw [Int.natAbs_tmod]; rfl
 have h2:(n.tdiv 1000000000).natAbs = n.natAbs / 1000000000 := by rw [Int.natAbs_tdiv]; rfl
 unfold v_fit at h
 refine ⟨?_,wrap_id (by omega) (by omega),h2⟩
 unfold s_Z17
 rcases Int.lt_or_le (n.tmod 1000000000) 0 with c | c
 ·first
  | (rw [decide_eq_true c]; simp only [cond_true]; rw [wrap_id (by omega) (by omega)]; omega)
  | (rw [wrap_id (by omega) (by omega)]; omega)
 ·first
  | (rw [decide_eq_false (by omega)]; simp only [cond_false]; omega)
  | (rw [wrap_id (by omega) (by omega)]; omega)
theorem v_wof_loop {dd:Int×List Int} {st:Int×List Int→(Int×List Int) ⊕ (Int×List Int)} {sp:Int×List Int→List Prop} (s p0:Int) (hs:s = 1∧0≤p0 ∨ s = -1∧p0 < 0) (hf:v_fit p0)
  (hst:∀ y,st y = cond (y.1 != 0) (.inl (IntKind.i64.wrap (y.1.tdiv 1000000000),y.2 ++ [s_Z17 (y.1.tmod 1000000000)])) (.inr (v_wide (s * v_val y.2))))
  (hsp:∀ y,(y.1 ≠ 0→y.2.length≤2)→v_dgok y.2→y.2.length≤3→∀ p∈sp y,p):OkL st sp (p0,[])∧lpv dd st (p0,[])=v_wide p0 := by
 refine loop_is (fun (y:Int×List Int) => v_fit y.1∧v_dgok y.2∧y.2.length≤3∧(y.1.natAbs:Int) < v_pow (3 - y.2.length)∧v_val y.2 + v_pow y.2.length * y.1.natAbs = p0.natAbs) (fun (y:Int×List Int) => y.1.natAbs) (fun _ => v_wide p0) ?_ ⟨hf,(fun d hd => by cases hd),by simp,?_,?_⟩ (by unfold fuel; unfold v_fit at hf; simp only; omega)
 ·rintro ⟨n,l⟩ ⟨g1,g2,g3,g4,g5⟩
  simp only at g1 g2 g3 g4 g5
  have hl:n ≠ 0→l.length≤2 := fun hn => by
   rcases Nat.lt_or_ge 2 l.length with h | h
   ·rw [show 3 - l.length = 0 by omega,v_pow_0] at g4; omega
   ·exact h
  refine ⟨hsp _ hl g2 g3,?_⟩
  rw [hst]
  simp only
  rcases int0 n with ⟨z,e,_⟩ | ⟨z,e,_⟩ <;> rw [e]
  ·simp only [cond_false]
   subst z
   have e5:v_val l = p0.natAbs := by simpa using g5
   rw [e5]
   rcases hs with ⟨rfl,h⟩ | ⟨rfl,h⟩
   ·congr 1; omega
   ·congr 1; omega
  ·simp only [cond_true]
   have h2 := hl z
   obtain ⟨q1,q2,q3⟩ := v_size_tmod g1
   rw [q1,q2]
   have hdiv := Nat.div_add_mod n.natAbs 1000000000
   have hlt:n.natAbs / 1000000000 < n.natAbs := Nat.div_lt_self (by omega) (by decide)
   have hp:v_pow (3 - l.length)=1000000000 * v_pow (2 - l.length) := by rw [show 3 - l.length = 2 - l.length + 1 by omega,v_pow_s]
   refine ⟨⟨?_,v_dgok_snoc g2 ⟨by omega,by omega⟩,by simp; omega,?_,?_⟩,by rw [q3]; exact hlt,trivial⟩
   ·unfold v_fit at g1 ⊢; omega
   ·rw [q3,List.length_append,List.length_singleton,show 3 - (l.length + 1)=2 - l.length by omega]; omega
   ·rw [q3,v_val_snoc,List.length_append,List.length_singleton,v_pow_s,← g5]
    have:(n.natAbs:Int)=1000000000 * ((n.natAbs / 1000000000:Nat):Int) + ((n.natAbs % 1000000000:Nat):Int) := by omega
    rw [this]
    generalize ((n.natAbs / 1000000000:Nat):Int)=a
    generalize ((n.natAbs % 1000000000:Nat):Int)=b
    grind
 ·simp only [List.length_nil]
  have:v_pow (3 - 0)=1000000000000000000000000000 := by decide
  rw [this]
  unfold v_fit at hf; omega
 ·simp only [List.length_nil,v_pow_0]
  show 0 + 1 * (p0.natAbs:Int)=p0.natAbs
  omega
abbrev t_Zg (p0:Int):Int×List Int := v_wide p0
abbrev qre_Zg (p0:Int):List Prop := [v_fit p0]
theorem pp_Zg (p0:Int) (hq:∀ p∈qre_Zg p0,p):∀ p∈pre_Zg p0,p := by
 have hf := (conj_of hq).1
 simp only [pre_Zg,fM]
 refine ⟨fun h => ?_,fun h => ?_,by simp⟩
 ·exact (v_wof_loop (dd := (0,[])) (-1) p0 (.inr ⟨rfl,of_decide_eq_true h⟩) hf (fun y => rfl) (fun y h1 h2 h3 => by simp only [sp_Zg_0,fM]; exact ⟨fun h => by have := h1 (by simpa using h); simp; omega,fun _ => .inr (.inl rfl),fun _ => h2,fun _ => by omega,by simp⟩)).1
 ·have := of_decide_eq_false h
  exact (v_wof_loop (dd := (0,[])) 1 p0 (.inl ⟨rfl,by omega⟩) hf (fun y => rfl) (fun y h1 h2 h3 => by simp only [sp_Zg_1,fM]; exact ⟨fun h => by have := h1 (by simpa using h); simp; omega,fun _ => .inl rfl,fun _ => h2,fun _ => by omega,by simp⟩)).1
theorem tt_Zg (p0:Int) (hq:∀ p∈qre_Zg p0,p):s_Zg p0 = t_Zg p0 := by
 have hf := (conj_of hq).1
 unfold s_Zg t_Zg
 cases h:decide (p0 < 0)
 ·have h := of_decide_eq_false h
  have e:lpv (0,[]) (st_Zg_1 p0) (p0,[])=v_wide p0 := (v_wof_loop (dd := (0,[])) (sp := fun _ => []) 1 p0 (.inl ⟨rfl,by omega⟩) hf (fun y => rfl) (fun y _ _ _ => by simp)).2
  rw [e,cond_false]
 ·have e:lpv (0,[]) (st_Zg_0 p0) (p0,[])=v_wide p0 := (v_wof_loop (dd := (0,[])) (sp := fun _ => []) (-1) p0 (.inr ⟨rfl,of_decide_eq_true h⟩) hf (fun y => rfl) (fun y _ _ _ => by simp)).2
  rw [e,cond_true]

abbrev con_Zg:Con := ⟨P_Zg,R_Zg,fun x => qre_Zg x,fun x => t_Zg x⟩
theorem ok_Zg:ConOk Try.prog 127 con_Zg := okG k_Zg e_Zg hC_Zg fun x hx => tf_of (w_Zg_eq x _) (d_Zg x _ (pp_Zg x hx) (tt_Zg x hx))
def C_Z5:Cons := [(156,[],con_Zl),(146,[],con_Zp),(127,[],con_Zg),(129,[],con_Z3),(150,[],con_Zk),(151,[],con_Zd),(153,[],con_Zr)]
theorem hC_Z5:ConsOk Try.prog C_Z5 := cC ok_Zl <| cC ok_Zp <| cC ok_Zg <| cC ok_Z3 <| cC ok_Zk <| cC ok_Zd <| cC ok_Zr <| ConsOk.nil
abbrev q0_Z5 (p0:gE) (y1:(Int×((List Int)×(List Int)))) := (v_trim (((p0.2.getD y1.1.toNat zz0) :: ([]:List Int)) ++ y1.2.1))
def w_Z5 (p0:gE) (p1:gE) (K:(Int×(List Int))→Prop):Prop := ((((p0.1 == zz0)=true) →(K (zz0,([]:List Int)))) ∧(((p0.1 == zz0)=false) →((zz0≤(p0.2.length:Int)) ∧((((8:Int) * (p0.2.length:Int))≤281474976710656) ∧(((p0.2.length:Int)≤9223372036854775807) ∧(∃ n0,(loopP (fun (y1:(Int×((List Int)×(List Int)))) k2 => ((((decide (y1.1 ≥ zz0))=true) →((zz0≤y1.1) ∧((y1.1 < (p0.2.length:Int)) ∧(((((List.length ((p0.2.getD y1.1.toNat zz0) :: ([]:List Int))) + y1.2.1.length) * 8)≤140737488355328) ∧(((List.length (((p0.2.getD y1.1.toNat zz0) :: ([]:List Int)) ++ y1.2.1))≤10000000000000) ∧(∃ n3,(loopP (fun (y4:gG) k5 => ((((decide (y4.2 < y4.1))=true) →((v_sgn zz1 p1.2) ∧((v_dgok p1.2) ∧((p1.2.length≤10000000000000) ∧((v_fit (wi (Int.tdiv (wi ((wi (y4.2 + y4.1)) + zz1)) zz2))) ∧((v_wok (v_wide (zz1 * (v_val p1.2)))) ∧((v_wok (v_wide (wi (Int.tdiv (wi ((wi (y4.2 + y4.1)) + zz1)) zz2)))) ∧((v_can (v_wide ((v_wval (v_wide (zz1 * (v_val p1.2)))) * (v_wval (v_wide (wi (Int.tdiv (wi ((wi (y4.2 + y4.1)) + zz1)) zz2)))))).2) ∧((v_can (q0_Z5 p0 y1)) ∧((((decide ((v_cmp (v_val (v_wide ((v_wval (v_wide (zz1 * (v_val p1.2)))) * (v_wval (v_wide (wi (Int.tdiv (wi ((wi (y4.2 + y4.1)) + zz1)) zz2)))))).2) (v_val (q0_Z5 p0 y1)))≤zz0))=true) →(k5 (y4.1,(wi (Int.tdiv (wi ((wi (y4.2 + y4.1)) + zz1)) zz2))))) ∧(((decide ((v_cmp (v_val (v_wide ((v_wval (v_wide (zz1 * (v_val p1.2)))) * (v_wval (v_wide (wi (Int.tdiv (wi ((wi (y4.2 + y4.1)) + zz1)) zz2)))))).2) (v_val (q0_Z5 p0 y1)))≤zz0))=false) →(k5 ((wi ((wi (Int.tdiv (wi ((wi (y4.2 + y4.1)) + zz1)) zz2)) - zz1)),y4.2))))))))))))) ∧(((decide (y4.2 < y4.1))=false) →((zz0≤y1.1) ∧((y1.1 < (y1.2.2.length:Int)) ∧((v_sgn zz1 p1.2) ∧((v_dgok p1.2) ∧((p1.2.length≤10000000000000) ∧((v_fit y4.2) ∧((v_wok (v_wide (zz1 * (v_val p1.2)))) ∧((v_wok (v_wide y4.2)) ∧((v_dgok (q0_Z5 p0 y1)) ∧((v_dgok (v_wide ((v_wval (v_wide (zz1 * (v_val p1.2)))) * (v_wval (v_wide y4.2)))).2) ∧(((List.length (q0_Z5 p0 y1))≤5000000000000) ∧(((v_val (v_wide ((v_wval (v_wide (zz1 * (v_val p1.2)))) * (v_wval (v_wide y4.2)))).2)≤(v_val (q0_Z5 p0 y1))) ∧(k2 ((wi (y1.1 - zz1)),((v_digs (Int.toNat ((v_val (q0_Z5 p0 y1)) - (v_val (v_wide ((v_wval (v_wide (zz1 * (v_val p1.2)))) * (v_wval (v_wide y4.2)))).2)))),(List.set y1.2.2 y1.1.toNat y4.2))))))))))))))))))) n3 ((999999999:Int),zz0)))))))) ∧(((decide (y1.1 ≥ zz0))=false) →((v_sgn p0.1 y1.2.2) ∧((v_dgok y1.2.2) ∧((y1.2.2.length≤10000000000000) ∧((((decide (p0.1 < zz0))=true) →((decide (p0.1 < zz0))=(decide (p0.1 < zz0)))) ∧((((decide (p0.1 < zz0))=true) →((decide (p0.1 < zz0))=(decide (p0.1 < zz0)))) ∧(((decide (p0.1 < zz0))=(decide (p0.1 < zz0))) ∧((((cond (decide (p0.1 < zz0)) (decide ((y1.2.1.length:Int) > zz0)) false)=true) →((v_fit zz1) ∧((v_wok (v_wide (p0.1 * (v_val y1.2.2)))) ∧((v_wok (v_wide zz1)) ∧(K (v_wide ((v_wval (v_wide (p0.1 * (v_val y1.2.2)))) - (v_wval (v_wide zz1))))))))) ∧(((cond (decide (p0.1 < zz0)) (decide ((y1.2.1.length:Int) > zz0)) false)=false) →(K (v_wide (p0.1 * (v_val y1.2.2))))))))))))))) n0 ((wi ((p0.2.length:Int) - zz1)),(([]:List Int),(List.replicate (Int.toNat (p0.2.length:Int)) zz0))))))))))
theorem w_Z5_eq (p0:gE) (p1:gE) (K:(Int×(List Int))→Prop):tfn F_Z5 A_Z5 C_Z5 P_Z5 R_Z5 (p0,p1) K = w_Z5 p0 p1 K := by kernel_rfl
def st_Z5_0 (p0:gE) (p1:gE) (y1:(Int×((List Int)×(List Int)))) (y3:gG):(Int×Int) ⊕ ((Int×((List Int)×(List Int))) ⊕ (Int×(List Int))) := (cond (decide (y3.2 < y3.1)) (cond (decide ((v_cmp (v_val (v_wide ((v_wval (v_wide ((1:Int) * (v_val p1.2)))) * (v_wval (v_wide (IntKind.i64.wrap (Int.tdiv (IntKind.i64.wrap ((IntKind.i64.wrap (y3.2 + y3.1)) + 1)) (2:Int))))))).2) (v_val (v_trim (((p0.2.getD y1.1.toNat (0:Int)) :: ([]:List Int)) ++ y1.2.1))))≤0)) (Sum.inl (y3.1,(IntKind.i64.wrap (Int.tdiv (IntKind.i64.wrap ((IntKind.i64.wrap (y3.2 + y3.1)) + 1)) (2:Int))))) (Sum.inl ((IntKind.i64.wrap ((IntKind.i64.wrap (Int.tdiv (IntKind.i64.wrap ((IntKind.i64.wrap (y3.2 + y3.1)) + 1)) (2:Int))) - 1)),y3.2))) (Sum.inr (Sum.inl ((IntKind.i64.wrap (y1.1 - 1)),((v_digs (Int.toNat ((v_val (v_trim (((p0.2.getD y1.1.toNat (0:Int)) :: ([]:List Int)) ++ y1.2.1))) - (v_val (v_wide ((v_wval (v_wide ((1:Int) * (v_val p1.2)))) * (v_wval (v_wide y3.2)))).2)))),(List.set y1.2.2 y1.1.toNat y3.2))))))
abbrev sp_Z5_0 (p0:gE) (p1:gE) (y1:(Int×((List Int)×(List Int)))) (y3:gG):List Prop := [(((decide (y3.2 < y3.1))=true)→(v_sgn (1:Int) p1.2)),(((decide (y3.2 < y3.1))=true)→(v_dgok p1.2)),(((decide (y3.2 < y3.1))=true)→(p1.2.length≤10000000000000)),(((decide (y3.2 < y3.1))=true)→(v_fit (IntKind.i64.wrap (Int.tdiv (IntKind.i64.wrap ((IntKind.i64.wrap (y3.2 + y3.1)) + 1)) (2:Int))))),(((decide (y3.2 < y3.1))=true)→(v_wok (v_wide ((1:Int) * (v_val p1.2))))),(((decide (y3.2 < y3.1))=true)→(v_wok (v_wide (IntKind.i64.wrap (Int.tdiv (IntKind.i64.wrap ((IntKind.i64.wrap (y3.2 + y3.1)) + 1)) (2:Int)))))),(((decide (y3.2 < y3.1))=true)→(v_can (v_wide ((v_wval (v_wide ((1:Int) * (v_val p1.2)))) * (v_wval (v_wide (IntKind.i64.wrap (Int.tdiv (IntKind.i64.wrap ((IntKind.i64.wrap (y3.2 + y3.1)) + 1)) (2:Int))))))).2)),(((decide (y3.2 < y3.1))=true)→(v_can (v_trim (((p0.2.getD y1.1.toNat (0:Int)) :: ([]:List Int)) ++ y1.2.1)))),(((decide (y3.2 < y3.1))=false)→((0:Int)≤y1.1)),(((decide (y3.2 < y3.1))=false)→(y1.1 < (y1.2.2.length:Int))),(((decide (y3.2 < y3.1))=false)→(v_sgn (1:Int) p1.2)),(((decide (y3.2 < y3.1))=false)→(v_dgok p1.2)),(((decide (y3.2 < y3.1))=false)→(p1.2.length≤10000000000000)),(((decide (y3.2 < y3.1))=false)→(v_fit y3.2)),(((decide (y3.2 < y3.1))=false)→(v_wok (v_wide ((1:Int) * (v_val p1.2))))),(((decide (y3.2 < y3.1))=false)→(v_wok (v_wide y3.2))),(((decide (y3.2 < y3.1))=false)→(v_dgok (v_trim (((p0.2.getD y1.1.toNat (0:Int)) :: ([]:List Int)) ++ y1.2.1)))),(((decide (y3.2 < y3.1))=false)→(v_dgok (v_wide ((v_wval (v_wide ((1:Int) * (v_val p1.2)))) * (v_wval (v_wide y3.2)))).2)),(((decide (y3.2 < y3.1))=false)→((List.length (v_trim (((p0.2.getD y1.1.toNat (0:Int)) :: ([]:List Int)) ++ y1.2.1)))≤5000000000000)),(((decide (y3.2 < y3.1))=false)→((v_val (v_wide ((v_wval (v_wide ((1:Int) * (v_val p1.2)))) * (v_wval (v_wide y3.2)))).2)≤(v_val (v_trim (((p0.2.getD y1.1.toNat (0:Int)) :: ([]:List Int)) ++ y1.2.1)))))]
def st_Z5_1 (p0:gE) (p1:gE) (y1:(Int×((List Int)×(List Int)))):(Int×((List Int)×(List Int))) ⊕ (Int×(List Int)) := (cond (decide (y1.1 ≥ 0)) (lpv (Sum.inr ((0:Int),[])) (st_Z5_0 p0 p1 y1) ((999999999:Int),(0:Int))) (cond (cond (decide (p0.1 < 0)) (decide ((y1.2.1.length:Int) > 0)) false) (Sum.inr (v_wide ((v_wval (v_wide (p0.1 * (v_val y1.2.2)))) - (v_wval (v_wide (1:Int)))))) (Sum.inr (v_wide (p0.1 * (v_val y1.2.2))))))
abbrev sp_Z5_1 (p0:gE) (p1:gE) (y1:(Int×((List Int)×(List Int)))):List Prop := [(((decide (y1.1 ≥ 0))=true)→((0:Int)≤y1.1)),(((decide (y1.1 ≥ 0))=true)→(y1.1 < (p0.2.length:Int))),(((decide (y1.1 ≥ 0))=true)→((((List.length ((p0.2.getD y1.1.toNat (0:Int)) :: ([]:List Int))) + y1.2.1.length) * 8)≤140737488355328)),(((decide (y1.1 ≥ 0))=true)→((List.length (((p0.2.getD y1.1.toNat (0:Int)) :: ([]:List Int)) ++ y1.2.1))≤10000000000000)),(((decide (y1.1 ≥ 0))=true)→(OkL (st_Z5_0 p0 p1 y1) (sp_Z5_0 p0 p1 y1) ((999999999:Int),(0:Int)))),(((decide (y1.1 ≥ 0))=false)→(v_sgn p0.1 y1.2.2)),(((decide (y1.1 ≥ 0))=false)→(v_dgok y1.2.2)),(((decide (y1.1 ≥ 0))=false)→(y1.2.2.length≤10000000000000)),(((decide (y1.1 ≥ 0))=false)→(((cond (decide (p0.1 < 0)) (decide ((y1.2.1.length:Int) > 0)) false)=true)→(v_fit (1:Int)))),(((decide (y1.1 ≥ 0))=false)→(((cond (decide (p0.1 < 0)) (decide ((y1.2.1.length:Int) > 0)) false)=true)→(v_wok (v_wide (p0.1 * (v_val y1.2.2)))))),(((decide (y1.1 ≥ 0))=false)→(((cond (decide (p0.1 < 0)) (decide ((y1.2.1.length:Int) > 0)) false)=true)→(v_wok (v_wide (1:Int)))))]
def s_Z5 (p0:gE) (p1:gE):(Int×(List Int)) := (cond (p0.1 == 0) ((0:Int),([]:List Int)) (lpv ((0:Int),[]) (st_Z5_1 p0 p1) ((IntKind.i64.wrap ((p0.2.length:Int) - 1)),(([]:List Int),(List.replicate (Int.toNat (p0.2.length:Int)) (0:Int))))))
abbrev pre_Z5 (p0:gE) (p1:gE):List Prop := [(((p0.1 == 0)=false)→((0:Int)≤(p0.2.length:Int))),(((p0.1 == 0)=false)→(((8:Int) * (p0.2.length:Int))≤281474976710656)),(((p0.1 == 0)=false)→((p0.2.length:Int)≤9223372036854775807)),(((p0.1 == 0)=false)→(OkL (st_Z5_1 p0 p1) (sp_Z5_1 p0 p1) ((IntKind.i64.wrap ((p0.2.length:Int) - 1)),(([]:List Int),(List.replicate (Int.toNat (p0.2.length:Int)) (0:Int))))))]
theorem d_Z5 (p0:gE) (p1:gE) (K:(Int×(List Int))→Prop) (hp:∀ p∈pre_Z5 p0 p1,p) (h:K (s_Z5 p0 p1)):w_Z5 p0 p1 K := by
 unfold w_Z5
 unfold s_Z5 at h
 obtain ⟨hp0,hp1,hp2,hp3,_⟩ := conj_of hp
 exact (br' h (fun e0 h => h)
  (fun e0 h => ⟨(hp0 e0),(hp1 e0),(hp2 e0),(loop_gen (hp3 e0) h (fun y1 k1 hp h => by
 unfold st_Z5_1 at h; obtain ⟨hp0,hp1,hp2,hp3,hp4,hp5,hp6,hp7,hp8,hp9,hp10,_⟩ := conj_of hp
 exact (br' h (fun e2 h => ⟨(hp0 e2),(hp1 e2),(hp2 e2),(hp3 e2),(loop_gen (hp4 e2) h (fun y3 k3 hp h => by
 unfold st_Z5_0 at h; obtain ⟨hp0,hp1,hp2,hp3,hp4,hp5,hp6,hp7,hp8,hp9,hp10,hp11,hp12,hp13,hp14,hp15,hp16,hp17,hp18,hp19,_⟩ := conj_of hp
 exact (br' h (fun e4 h => ⟨(hp0 e4),(hp1 e4),(hp2 e4),(hp3 e4),(hp4 e4),(hp5 e4),(hp6 e4),(hp7 e4),(br' h (fun e5 h => h)
  (fun e5 h => h))⟩)
  (fun e4 h => ⟨(hp8 e4),(hp9 e4),(hp10 e4),(hp11 e4),(hp12 e4),(hp13 e4),(hp14 e4),(hp15 e4),(hp16 e4),(hp17 e4),(hp18 e4),(hp19 e4),h⟩))))⟩)
  (fun e2 h => ⟨(hp5 e2),(hp6 e2),(hp7 e2),rf,rf,rfl,(br' h (fun e6 h => ⟨(hp8 e2 e6),(hp9 e2 e6),(hp10 e2 e6),h⟩)
  (fun e6 h => h))⟩))))⟩))
theorem l_Z5_0 (p0 p1:Int×List Int) {b:Int} (hb:0 < b) (eb:p1.2 = (v_wide b).2) (lb:v_dl b≤500000000000) (d0:v_dgok p0.2) (j:Nat) (hj:j < p0.2.length) (hl:p0.2.length≤1000000000000) (L:Int) (hL:0≤L∧L < b) (q:gF) (hq:q.length = p0.2.length) :
  OkL (st_Z5_0 p0 p1 ((j:Int),(v_digs L.toNat,q))) (sp_Z5_0 p0 p1 ((j:Int),(v_digs L.toNat,q))) (999999999,0)∧lpv (.inr (0,[])) (st_Z5_0 p0 p1 ((j:Int),(v_digs L.toNat,q))) (999999999,0) = .inl ((j:Int) - 1,(v_digs ((p0.2.getD j 0 + 1000000000 * L) % b).toNat,q.set j ((p0.2.getD j 0 + 1000000000 * L) / b))) := by
 have hd := v_dgok_get d0 j
 obtain ⟨R,hR⟩ : ∃ R,R = p0.2.getD j 0 + 1000000000 * L := ⟨_,rfl⟩
 have hR0:0≤R := by omega
 have gd:v_dgok (p0.2.getD j 0 :: v_digs L.toNat) := fun x hx => by
  rcases List.mem_cons.1 hx with rfl | hx
  ·exact hd
  ·exact v_digs_ok _ x hx
 have hv:v_val (p0.2.getD j 0 :: v_digs L.toNat)=R := by
  show p0.2.getD j 0 + 1000000000 * v_val (v_digs L.toNat)=R
  rw [v_digs_val,hR]; omega
 have hT:v_trim ([p0.2.getD j 0] ++ v_digs L.toNat)=v_digs R.toNat := by
  rw [List.singleton_append,v_trim_is gd,hv]
 have hTv:v_val (v_digs R.toNat)=R := by rw [v_digs_val]; omega
 have hRb:R < 1000000000 * b := by omega
 have dR:(v_digs R.toNat).length≤500000000001 := by
  have h1:(v_digs R.toNat).length = v_dl R := by unfold v_dl; congr 2; omega
  have h2 := v_dl_mono (m := R) (n := 1000000000 * b) (by omega)
  have h3 := v_dl_mul 999999999 b
  have h4:v_dl 1000000000≤2 := v_digs_len (by decide)
  have h5 := v_dl_mono (m := R) (n := 999999999 * b + b) (by omega)
  have h6 := v_dl_mul 1000000000 b
  rw [h1]
  have h7:v_dl R≤v_dl b + 1 := by
   refine v_digs_len ?_
   have h8 := v_digs_high b.natAbs
   unfold v_dl
   rw [v_pow_s]; omega
  omega
 have hbv:v_val p1.2 = b := by rw [eb,v_wide_val]; omega
 have hbl:p1.2.length≤500000000000 := by rw [eb]; exact lb
 have hbg:v_dgok p1.2 := by rw [eb]; exact v_wide_ok b
 have e1 := Int.mul_ediv_add_emod R b
 have r1 := Int.emod_nonneg R (show b ≠ 0 by omega)
 have r2 := Int.emod_lt_of_pos R hb
 have hq1:R / b < 1000000000 := Int.ediv_lt_of_lt_mul hb (by omega)
 have hq0:0≤R / b := Int.ediv_nonneg hR0 (by omega)
 have wb:v_wok (v_wide b) := v_wok_of (by omega)
 have dm:∀ m:Int,0≤m∧m≤999999999→v_dl m≤1 := fun m hm => v_digs_len (by rw [v_pow_s,v_pow_0]; omega)
 have wm:∀ m:Int,0≤m∧m≤999999999→v_wok (v_wide m) := fun m hm => v_wok_of (by have := dm m hm; omega)
 have hval:∀ m:Int,0≤m∧m≤999999999→v_val (v_wide (b * m)).2 = b * m := fun m hm => by
  rw [v_wide_val]; have := Int.mul_nonneg (show 0≤b by omega) hm.1; omega
 have hcan:∀ m:Int,0≤m∧m≤999999999→v_can (v_wide (b * m)).2 := fun m hm => v_wide_can (by have := dm m hm; have := v_dl_mul b m; omega)
 have hcR:v_can (v_digs R.toNat) := ⟨by rw [hTv],by omega⟩
 rw [← hR]
 refine @loop_is (Int×Int) ((Int×(List Int×List Int)) ⊕ (Int×List Int)) (.inr (0,[])) (st_Z5_0 p0 p1 ((j:Int),(v_digs L.toNat,q))) (sp_Z5_0 p0 p1 ((j:Int),(v_digs L.toNat,q))) (fun (y:gG) => (0≤y.2∧y.2≤R / b)∧R / b≤y.1∧y.1≤999999999) (fun (y:gG) => (y.1 - y.2).toNat) (fun _ => .inl ((j:Int) - 1,(v_digs (R % b).toNat,q.set j (R / b)))) ?_ (999999999,0) ⟨⟨Int.le_refl _,hq0⟩,by simp only; omega,Int.le_refl _⟩ (by unfold fuel; simp only; omega)
 rintro ⟨hi,lo⟩ ⟨⟨g1,g2⟩,g3,g4⟩
 simp only at g1 g2 g3 g4
 have hw1:IntKind.i64.wrap (Int.tdiv (IntKind.i64.wrap (IntKind.i64.wrap (lo + hi) + 1)) 2)=(lo + hi + 1) / 2 := by
  rw [w_add_l,wrap_id (n := lo + hi + 1) (by omega) (by omega),Int.tdiv_eq_ediv_of_nonneg (by omega),wrap_id (by omega) (by omega)]
 simp only [sp_Z5_0,st_Z5_0,hw1,Int.toNat_natCast,hT,hTv,hbv,Int.one_mul,v_wval_wide,fM]
 rcases Int.lt_or_le lo hi with c | c
 ·have hm:0≤(lo + hi + 1) / 2∧(lo + hi + 1) / 2≤999999999 := by omega
  rw [decide_eq_true c,hval _ hm]
  have h1 := hcan _ hm
  have h2 := wm _ hm
  have h3:v_fit ((lo + hi + 1) / 2) := by unfold v_fit; omega
  refine ⟨⟨fun _ => .inl rfl,fun _ => hbg,fun _ => by omega,fun _ => h3,fun _ => wb,fun _ => h2,fun _ => h1,fun _ => hcR,?_⟩,?_⟩
  ·and_intros <;> first | (intro p hp; cases hp; done) | (intro h; cases h; done)
  rw [cond_true]
  rcases Int.lt_or_le R (b * ((lo + hi + 1) / 2)) with k | k
  ·rw [decide_eq_false (by have := v_cmp_gt (a := b * ((lo + hi + 1) / 2)) (b := R); omega),cond_false,wrap_id (n := (lo + hi + 1) / 2 - 1) (by omega) (by omega)]
   have:R / b < (lo + hi + 1) / 2 := Int.ediv_lt_of_lt_mul hb (by rw [Int.mul_comm]; exact k)
   exact ⟨⟨⟨g1,g2⟩,by simp only; omega,by simp only; omega⟩,by simp only; omega,trivial⟩
  ·rw [decide_eq_true (by have := v_cmp_gt (a := b * ((lo + hi + 1) / 2)) (b := R); omega),cond_true]
   have:(lo + hi + 1) / 2≤R / b := Int.le_ediv_of_mul_le hb (by rw [Int.mul_comm]; exact k)
   exact ⟨⟨⟨by simp only; omega,this⟩,g3,g4⟩,by simp only; omega,trivial⟩
 ·have hlo:lo = R / b := by omega
  have hm:0≤lo∧lo≤999999999 := by omega
  rw [decide_eq_false (by omega),hval _ hm]
  have h2 := wm _ hm
  have h3:v_fit lo := by unfold v_fit; omega
  have h4:v_dgok (v_wide (b * lo)).2 := v_wide_ok _
  refine ⟨?_,?_⟩
  ·refine ⟨fun h => (by cases h),fun h => (by cases h),fun h => (by cases h),fun h => (by cases h),fun h => (by cases h),fun h => (by cases h),fun h => (by cases h),fun h => (by cases h),fun _ => by omega,fun _ => by omega,fun _ => .inl rfl,fun _ => hbg,fun _ => by omega,fun _ => h3,fun _ => wb,fun _ => h2,fun _ => v_digs_ok _,fun _ => h4,fun _ => by omega,fun _ => by rw [hlo]; omega,by simp⟩
  ·rw [cond_false,wrap_id (n := (j:Int) - 1) (by omega) (by omega),hlo]
   simp only
   congr 4
   omega
theorem v_neg_ediv {n b:Int} (hb:0 < b):(-n) / b = cond (decide (n % b = 0)) (-(n / b)) (-(n / b) - 1) := by
 have e := Int.mul_ediv_add_emod n b
 have r1 := Int.emod_nonneg n (show b ≠ 0 by omega)
 have r2 := Int.emod_lt_of_pos n hb
 rcases Decidable.em (n % b = 0) with h | h
 ·rw [decide_eq_true h,cond_true]
  exact ediv_is (r := 0) hb (by rw [Int.mul_neg]; omega) (Int.le_refl _) hb
 ·rw [decide_eq_false h,cond_false]
  exact ediv_is (r := b - n % b) hb (by rw [Int.mul_sub,Int.mul_neg]; omega) (by omega) (by omega)
theorem l_Z5_1 (p0 p1:Int×List Int) (h1:v_wok p0) (h2:v_wok p1) (h3:0 < v_wval p1) (h4:p1.2.length≤500000000000):OkL (st_Z5_1 p0 p1) (sp_Z5_1 p0 p1) (IntKind.i64.wrap ((p0.2.length:Int) - 1),([],List.replicate p0.2.length 0))∧lpv (0,[]) (st_Z5_1 p0 p1) (IntKind.i64.wrap ((p0.2.length:Int) - 1),([],List.replicate p0.2.length 0))=v_wide (v_wval p0 / v_wval p1) := by
 have l1 := h1.ln
 obtain ⟨a,ea,da⟩ := h1.ex
 obtain ⟨b,eb,_⟩ := h2.ex
 have eb2:p1.2 = (v_wide b).2 := by rw [eb]
 have db:v_dl b≤500000000000 := by rw [eb2] at h4; exact h4
 have wb:v_wval p1 = b := by rw [eb,v_wval_wide]
 have wa:v_wval p0 = a := by rw [ea,v_wval_wide]
 rw [wb] at h3
 rw [wa,wb]
 have d1:v_dgok p0.2 := by rw [ea]; exact v_wide_ok a
 have va:v_val p0.2 = a.natAbs := by rw [ea]; exact v_wide_val a
 have s0:p0.1 = a.sign := by rw [ea]; rfl
 rw [wrap_id (n := (p0.2.length:Int) - 1) (by omega) (by omega)]
 refine @down_is (List Int×List Int) (Int×List Int×List Int) (Int×List Int) (0,[]) (st_Z5_1 p0 p1) (sp_Z5_1 p0 p1) (fun i t => (i,t)) p0.2.length
  (fun j t => t.1 = v_digs (v_val (p0.2.drop j) % b).toNat∧t.2.length = p0.2.length∧v_dgok t.2∧v_val (t.2.drop j)=v_val (p0.2.drop j) / b) (fun _ _ => v_wide (a / b)) (by omega) ?_ ?_ ([],List.replicate p0.2.length 0) ⟨?_,by simp,?_,?_⟩
 ·rintro ⟨left,q⟩ ⟨g1,g2,g3,g4⟩
  simp only [List.drop_zero] at g1 g2 g3 g4
  rw [va] at g1 g4
  have q0:0≤(a.natAbs:Int) / b := Int.ediv_nonneg (by omega) (by omega)
  have r1 := Int.emod_nonneg (a.natAbs:Int) (show b ≠ 0 by omega)
  have qle:(a.natAbs:Int) / b≤a.natAbs := Int.ediv_le_self _ (by omega)
  have hs:v_sgn a.sign q := by
   rcases v_sign3 a with ⟨_,e,_⟩ | ⟨z,e,_⟩ | ⟨_,e,_⟩ <;> rw [e]
   ·exact .inr (.inl rfl)
   ·right; right; rw [g4,z]; simp
   ·exact .inl rfl
  have wq:v_wok (v_wide (a.sign * v_val q)) := v_wok_of (Nat.le_trans (v_dl_mono (n := a) (by
   rw [g4]
   rcases v_sign3 a with ⟨_,e,_⟩ | ⟨z,e,_⟩ | ⟨_,e,_⟩ <;> rw [e] <;> omega)) da)
  have w1:v_wok (v_wide 1) := v_wok_of (Nat.le_trans (v_digs_len (k := 1) (by decide)) (by decide))
  simp only [sp_Z5_1,st_Z5_1,fM,show decide ((-1:Int) ≥ 0)=false from rfl,cond_false,s0,v_wval_wide]
  refine ⟨⟨fun h => (by cases h),fun h => (by cases h),fun h => (by cases h),fun h => (by cases h),fun h => (by cases h),fun _ => hs,fun _ => g3,fun _ => by omega,fun _ _ => by unfold v_fit; omega,fun _ _ => wq,fun _ _ => w1,by simp⟩,?_⟩
  rw [g4]
  rcases v_sign3 a with ⟨ha,e,_⟩ | ⟨z,e,_⟩ | ⟨ha,e,_⟩ <;> rw [e]
  ·have en:a = -(a.natAbs:Int) := by omega
   have hn := v_neg_ediv (n := (a.natAbs:Int)) h3
   rw [← en] at hn
   rw [hn,show decide ((-1:Int) < 0)=true from rfl,cond_true]
   rcases Decidable.em ((a.natAbs:Int) % b = 0) with k | k
   ·rw [decide_eq_true k,g1,k,show (0:Int).toNat = 0 from rfl,v_digs_0]
    show Sum.inr _ = Sum.inr _
    congr 2
    rw [cond_true]; omega
   ·have hpos:(left.length:Int) > 0 := by rw [g1,v_digs_pos (by omega),List.length_cons]; omega
    rw [decide_eq_false k,decide_eq_true hpos,cond_true,cond_false]
    congr 2; omega
  ·rw [z]; simp
  ·rw [show decide ((1:Int) < 0)=false from rfl,cond_false,cond_false,Int.one_mul]
   congr 3; omega
 ·rintro j ⟨left,q⟩ hj ⟨g1,g2,g3,g4⟩
  simp only at g1 g2 g3 g4
  have nA := v_val_nn (v_dgok_drop d1 (j + 1))
  have rA := Int.emod_nonneg (v_val (p0.2.drop (j + 1))) (show b ≠ 0 by omega)
  have rB := Int.emod_lt_of_pos (v_val (p0.2.drop (j + 1))) h3
  obtain ⟨i1,i2⟩ := l_Z5_0 p0 p1 h3 eb2 db d1 j hj l1 (v_val (p0.2.drop (j + 1)) % b) ⟨rA,rB⟩ q g2
  have hd:decide ((j:Int) ≥ 0)=true := decide_eq_true (by omega)
  have hlen:left.length≤1000000000000 := by
   rw [g1]
   have := v_dl_mono (m := v_val (p0.2.drop (j + 1)) % b) (n := b) (by omega)
   have e:(v_digs (v_val (p0.2.drop (j + 1)) % b).toNat).length = v_dl (v_val (p0.2.drop (j + 1)) % b) := by unfold v_dl; congr 2; omega
   omega
  subst g1
  simp only [sp_Z5_1,st_Z5_1,fM,hd,cond_true]
  refine ⟨⟨fun _ => by omega,fun _ => by omega,fun _ => by simp; omega,fun _ => by simp; omega,fun _ => i1,fun h => (by cases h),fun h => (by cases h),fun h => (by cases h),fun h => (by cases h),fun h => (by cases h),fun h => (by cases h),by simp⟩,.inl ⟨_,i2,?_,trivial⟩⟩
  have hA:v_val (p0.2.drop j)=p0.2.getD j 0 + 1000000000 * v_val (p0.2.drop (j + 1)) := by rw [drop_getD 0 hj]; rfl
  have eA := Int.mul_ediv_add_emod (v_val (p0.2.drop (j + 1))) b
  have hA2:v_val (p0.2.drop j)=(p0.2.getD j 0 + 1000000000 * (v_val (p0.2.drop (j + 1)) % b)) + b * (1000000000 * (v_val (p0.2.drop (j + 1)) / b)) := by
   rw [hA]
   generalize v_val (p0.2.drop (j + 1)) / b = Q at *
   generalize v_val (p0.2.drop (j + 1)) % b = L at *
   rw [← eA]; grind
  have hdg := v_dgok_get d1 j
  have hR0:0≤(p0.2.getD j 0 + 1000000000 * (v_val (p0.2.drop (j + 1)) % b)) / b := Int.ediv_nonneg (by omega) (by omega)
  have hR1:(p0.2.getD j 0 + 1000000000 * (v_val (p0.2.drop (j + 1)) % b)) / b < 1000000000 := Int.ediv_lt_of_lt_mul h3 (by omega)
  refine ⟨?_,by rw [List.length_set]; exact g2,v_dgok_set g3 ⟨hR0,hR1⟩,?_⟩
  ·show v_digs _ = _
   rw [hA2,Int.add_mul_emod_self_left]
  ·have ed:(q.set j ((p0.2.getD j 0 + 1000000000 * (v_val (p0.2.drop (j + 1)) % b)) / b)).drop j = (p0.2.getD j 0 + 1000000000 * (v_val (p0.2.drop (j + 1)) % b)) / b :: q.drop (j + 1) := by
    rw [drop_getD 0 (by rw [List.length_set]; omega),gd_set (by omega),if_pos rfl]
    congr 1
    rw [List.drop_set]
    simp
   show v_val ((q.set j _).drop j)=_
   rw [ed]
   show (p0.2.getD j 0 + 1000000000 * (v_val (p0.2.drop (j + 1)) % b)) / b + 1000000000 * v_val (q.drop (j + 1))=_
   rw [g4,hA2,Int.add_mul_ediv_left _ _ (by omega)]
 ·rw [List.drop_length]
  have e:v_val ([]:List Int)=0 := rfl
  rw [e,Int.zero_emod]
  show []=v_digs 0
  rw [v_digs_0]
 ·intro d hd
  rw [List.eq_of_mem_replicate hd]; exact ⟨Int.le_refl _,by decide⟩
 ·rw [List.drop_length,show List.drop p0.2.length (List.replicate p0.2.length (0:Int))=[] from by rw [List.drop_replicate,Nat.sub_self]; rfl]
  show (0:Int)=0 / b
  rw [Int.zero_ediv]
abbrev t_Z5 (p0:Int×List Int) (p1:Int×List Int):Int×List Int := v_wide (v_wval p0 / v_wval p1)
abbrev qre_Z5 (p0:Int×List Int) (p1:Int×List Int):List Prop := [v_wok p0,v_wok p1,0 < v_wval p1,p1.2.length≤500000000000]
theorem pp_Z5 (p0:Int×List Int) (p1:Int×List Int) (hq:∀ p∈qre_Z5 p0 p1,p):∀ p∈pre_Z5 p0 p1,p := by
 obtain ⟨h1,h2,h3,h4,_⟩ := conj_of hq
 have l1 := h1.ln
 simp only [pre_Z5,fM,Int.toNat_natCast]
 exact ⟨fun _ => by omega,fun _ => by omega,fun _ => by omega,fun _ => (l_Z5_1 p0 p1 h1 h2 h3 h4).1,by simp⟩
theorem tt_Z5 (p0:Int×List Int) (p1:Int×List Int) (hq:∀ p∈qre_Z5 p0 p1,p):s_Z5 p0 p1 = t_Z5 p0 p1 := by
 obtain ⟨h1,h2,h3,h4,_⟩ := conj_of hq
 have l1 := h1.ln
 have e := (l_Z5_1 p0 p1 h1 h2 h3 h4).2
 unfold s_Z5 t_Z5
 rw [Int.toNat_natCast,e]
 obtain ⟨a,rfl,_⟩ := h1.ex
 rw [v_wval_wide,v_wide_1]
 rcases v_sign3 a with ⟨_,_,f⟩ | ⟨z,_,f⟩ | ⟨_,_,f⟩ <;> rw [f]
 ·rfl
 ·subst z
  rw [cond_true,Int.zero_ediv]
  unfold v_wide
  rw [show Int.natAbs 0 = 0 from rfl,v_digs_0]; rfl
 ·rfl

abbrev con_Z5:Con := ⟨P_Z5,R_Z5,fun x => qre_Z5 x.1 x.2,fun x => t_Z5 x.1 x.2⟩
theorem ok_Z5:ConOk Try.prog 148 con_Z5 := okG k_Z5 e_Z5 hC_Z5 fun x hx => tf_of (w_Z5_eq x.1 x.2 _) (d_Z5 x.1 x.2 _ (pp_Z5 x.1 x.2 hx) (tt_Z5 x.1 x.2 hx))
def C_Z16:Cons := [(141,[],con_Zo)]
theorem hC_Z16:ConsOk Try.prog C_Z16 := cC ok_Zo <| ConsOk.nil
def w_Z16 (p0:gE) (K:(Int×(List Int))→Prop):Prop := ((((decide (p0.1 < 0))=true) →((v_wok p0) ∧(K (v_wide (-(v_wval p0)))))) ∧(((decide (p0.1 < 0))=false) →(K p0)))
theorem w_Z16_eq (p0:gE) (K:(Int×(List Int))→Prop):tfn F_Z16 A_Z16 C_Z16 P_Z16 R_Z16 p0 K = w_Z16 p0 K := by kernel_rfl
def s_Z16 (p0:gE):(Int×(List Int)) := (cond (decide (p0.1 < 0)) (v_wide (-(v_wval p0))) p0)
abbrev pre_Z16 (p0:gE):List Prop := [(((decide (p0.1 < 0))=true)→(v_wok p0))]
theorem d_Z16 (p0:gE) (K:(Int×(List Int))→Prop) (hp:∀ p∈pre_Z16 p0,p) (h:K (s_Z16 p0)):w_Z16 p0 K := by
 unfold w_Z16
 unfold s_Z16 at h
 obtain ⟨hp0,_⟩ := conj_of hp
 exact (br' h (fun e0 h => ⟨(hp0 e0),h⟩)
  (fun e0 h => h))
def v_abs (n:Int):Int := n.natAbs
abbrev t_Z16 (p0:Int×List Int):Int×List Int := v_wide (v_abs (v_wval p0))
abbrev qre_Z16 (p0:Int×List Int):List Prop := [v_wok p0]
theorem pp_Z16 (p0:Int×List Int) (hq:∀ p∈qre_Z16 p0,p):∀ p∈pre_Z16 p0,p := by
 obtain ⟨h,_⟩ := conj_of hq
 simp only [pre_Z16,fM]
 exact ⟨fun _ => h,by simp⟩
theorem tt_Z16 (p0:Int×List Int) (hq:∀ p∈qre_Z16 p0,p):s_Z16 p0 = t_Z16 p0 := by
 obtain ⟨n,rfl,h⟩ := (conj_of hq).1.ex
 unfold s_Z16 t_Z16 v_abs
 rw [v_wval_wide,v_wide_1]
 rcases v_sign3 n with ⟨k,e,_⟩ | ⟨k,e,_⟩ | ⟨k,e,_⟩ <;> rw [e]
 ·show v_wide (-n)=_
  congr 1; omega
 ·subst k; rfl
 ·show v_wide n = _
  congr 1; omega

abbrev con_Z16:Con := ⟨P_Z16,R_Z16,fun x => qre_Z16 x,fun x => t_Z16 x⟩
theorem ok_Z16:ConOk Try.prog 157 con_Z16 := okG k_Z16 e_Z16 hC_Z16 fun x hx => tf_of (w_Z16_eq x _) (d_Z16 x _ (pp_Z16 x hx) (tt_Z16 x hx))
def C_Z19:Cons := []
theorem hC_Z19:ConsOk Try.prog C_Z19 := ConsOk.nil
def w_Z19 (p0:gE) (K:Int→Prop):Prop := (K p0.1)
theorem w_Z19_eq (p0:gE) (K:Int→Prop):tfn F_Z19 A_Z19 C_Z19 P_Z19 R_Z19 p0 K = w_Z19 p0 K := by kernel_rfl
def s_Z19 (p0:gE):Int := p0.1
abbrev pre_Z19 (_p0:gE):List Prop := []
theorem d_Z19 (p0:gE) (K:Int→Prop) (_hp:∀ p∈pre_Z19 p0,p) (h:K (s_Z19 p0)):w_Z19 p0 K := by
 unfold w_Z19
 unfold s_Z19 at h
 exact h
abbrev con_Z19:Con := ⟨P_Z19,R_Z19,fun x => pre_Z19 x,fun x => s_Z19 x⟩
theorem ok_Z19:ConOk Try.prog 139 con_Z19 := okG k_Z19 e_Z19 hC_Z19 fun x hx => tf_of (w_Z19_eq x _) (d_Z19 x _ hx rfl)
def C_Z9:Cons := [(157,[],con_Z16),(139,[],con_Z19),(148,[],con_Z5),(129,[],con_Z3),(153,[],con_Zr)]
theorem hC_Z9:ConsOk Try.prog C_Z9 := cC ok_Z16 <| cC ok_Z19 <| cC ok_Z5 <| cC ok_Z3 <| cC ok_Zr <| ConsOk.nil
def w_Z9 (p0:gE) (p1:gE) (K:(Int×(List Int))→Prop):Prop := ((v_wok p0) ∧((v_wok p1) ∧(∃ n0,(loopP (fun (y1:gD) k2 => ((((y1.2.1 != 0)=true) →((v_wok y1.1) ∧((v_wok y1.2) ∧((zz0 < (v_wval y1.2)) ∧((y1.2.2.length≤500000000000) ∧((v_wok (v_wide ((v_wval y1.1) / (v_wval y1.2)))) ∧((v_wok y1.2) ∧((v_wok y1.1) ∧((v_wok (v_wide ((v_wval (v_wide ((v_wval y1.1) / (v_wval y1.2)))) * (v_wval y1.2)))) ∧(k2 (y1.2,(v_wide ((v_wval y1.1) - (v_wval (v_wide ((v_wval (v_wide ((v_wval y1.1) / (v_wval y1.2)))) * (v_wval y1.2))))))))))))))))) ∧(((y1.2.1 != 0)=false) →(K y1.1)))) n0 ((v_wide (v_abs (v_wval p0))),(v_wide (v_abs (v_wval p1))))))))
theorem w_Z9_eq (p0:gE) (p1:gE) (K:(Int×(List Int))→Prop):tfn F_Z9 A_Z9 C_Z9 P_Z9 R_Z9 (p0,p1) K = w_Z9 p0 p1 K := by kernel_rfl
def st_Z9_0 (_p0:gE) (_p1:gE) (y0:gD):((Int×(List Int))×(Int×(List Int))) ⊕ (Int×(List Int)) := (cond (y0.2.1 != 0) (Sum.inl (y0.2,(v_wide ((v_wval y0.1) - (v_wval (v_wide ((v_wval (v_wide ((v_wval y0.1) / (v_wval y0.2)))) * (v_wval y0.2)))))))) (Sum.inr y0.1))
abbrev sp_Z9_0 (_p0:gE) (_p1:gE) (y0:gD):List Prop := [(((y0.2.1 != 0)=true)→(v_wok y0.1)),(((y0.2.1 != 0)=true)→(v_wok y0.2)),(((y0.2.1 != 0)=true)→((0:Int) < (v_wval y0.2))),(((y0.2.1 != 0)=true)→(y0.2.2.length≤500000000000)),(((y0.2.1 != 0)=true)→(v_wok (v_wide ((v_wval y0.1) / (v_wval y0.2))))),(((y0.2.1 != 0)=true)→(v_wok (v_wide ((v_wval (v_wide ((v_wval y0.1) / (v_wval y0.2)))) * (v_wval y0.2)))))]
def s_Z9 (p0:gE) (p1:gE):(Int×(List Int)) := (lpv ((0:Int),[]) (st_Z9_0 p0 p1) ((v_wide (v_abs (v_wval p0))),(v_wide (v_abs (v_wval p1)))))
abbrev pre_Z9 (p0:gE) (p1:gE):List Prop := [(v_wok p0),(v_wok p1),(OkL (st_Z9_0 p0 p1) (sp_Z9_0 p0 p1) ((v_wide (v_abs (v_wval p0))),(v_wide (v_abs (v_wval p1)))))]
theorem d_Z9 (p0:gE) (p1:gE) (K:(Int×(List Int))→Prop) (hp:∀ p∈pre_Z9 p0 p1,p) (h:K (s_Z9 p0 p1)):w_Z9 p0 p1 K := by
 unfold w_Z9
 unfold s_Z9 at h
 obtain ⟨hp0,hp1,hp2,_⟩ := conj_of hp
 exact ⟨(hp0),(hp1),(loop_gen (hp2) h (fun y0 k0 hp h => by
 unfold st_Z9_0 at h; obtain ⟨hp0,hp1,hp2,hp3,hp4,hp5,_⟩ := conj_of hp
 exact (br' h (fun e1 h => ⟨(hp0 e1),(hp1 e1),(hp2 e1),(hp3 e1),(hp4 e1),(hp1 e1),(hp0 e1),(hp5 e1),h⟩)
  (fun e1 h => h))))⟩
theorem l_Z9_0 (p0 p1:Int×List Int) (h1:v_wok p0) (h2:v_wok p1) (l1:p0.2.length≤400000000000) (l2:p1.2.length≤400000000000):OkL (st_Z9_0 p0 p1) (sp_Z9_0 p0 p1) (v_wide (v_abs (v_wval p0)),v_wide (v_abs (v_wval p1)))∧lpv (0,[]) (st_Z9_0 p0 p1) (v_wide (v_abs (v_wval p0)),v_wide (v_abs (v_wval p1)))=v_wide (v_gcd (v_wval p0) (v_wval p1)) := by
 obtain ⟨a,ea,_⟩ := h1.ex
 obtain ⟨b,eb,_⟩ := h2.ex
 have da:v_dl a≤400000000000 := by rw [ea] at l1; exact l1
 have db:v_dl b≤400000000000 := by rw [eb] at l2; exact l2
 have wa:v_wval p0 = a := by rw [ea,v_wval_wide]
 have wb:v_wval p1 = b := by rw [eb,v_wval_wide]
 rw [wa,wb]
 -- as many rounds as the second number says: bounded by fuel no more,so the digits' number is the measure
 have key:∀ (k:Nat) (x y:Int),0≤x→0≤y→y < 2 ^ k→v_dl x≤400000000000→v_dl y≤400000000000→∀ f,2 * k + 2≤f→OkN (st_Z9_0 p0 p1) (sp_Z9_0 p0 p1) f (v_wide x,v_wide y)∧runL (0,[]) (st_Z9_0 p0 p1) f (v_wide x,v_wide y)=v_wide (v_gcd x y) := by
  have fin:∀ (x:Int),0≤x→∀ f,OkN (st_Z9_0 p0 p1) (sp_Z9_0 p0 p1) (f + 1) (v_wide x,v_wide 0)∧runL (0,[]) (st_Z9_0 p0 p1) (f + 1) (v_wide x,v_wide 0)=v_wide (v_gcd x 0) := by
   intro x hx f
   have e0:v_gcd x 0 = x := by unfold v_gcd; rw [Int.gcd_zero_right]; omega
   unfold OkN runL
   simp only [sp_Z9_0,st_Z9_0,fM,v_wide_1,show (Int.sign 0 != 0)=false from rfl,cond_false,e0]
   exact ⟨⟨⟨fun h => (by cases h),fun h => (by cases h),fun h => (by cases h),fun h => (by cases h),fun h => (by cases h),fun h => (by cases h),by simp⟩,trivial⟩,trivial⟩
  have round:∀ (x y:Int),0≤x→0 < y→v_dl x≤400000000000→v_dl y≤400000000000→(∀ p∈sp_Z9_0 p0 p1 (v_wide x,v_wide y),p)∧st_Z9_0 p0 p1 (v_wide x,v_wide y) = .inl (v_wide y,v_wide (x % y)) := by
   intro x y hx hy dx dy
   have q1 := Int.mul_ediv_add_emod x y
   have q2 := Int.emod_nonneg x (show y ≠ 0 by omega)
   have q3:0≤x / y := Int.ediv_nonneg hx (by omega)
   have q4:x / y≤x := Int.ediv_le_self _ hx
   have d1:v_dl (x / y)≤400000000000 := Nat.le_trans (v_dl_mono (by omega)) dx
   have d2:v_dl (x / y * y)≤400000000000 := Nat.le_trans (v_dl_mono (n := x) (by rw [Int.mul_comm]; have := Int.mul_nonneg (show 0≤y by omega) q3; omega)) dx
   have w1:v_wok (v_wide x) := v_wok_of (Nat.le_trans dx (by decide))
   have w2:v_wok (v_wide y) := v_wok_of (Nat.le_trans dy (by decide))
   have w3:v_wok (v_wide (x / y)) := v_wok_of (Nat.le_trans d1 (by decide))
   have w4:v_wok (v_wide (x / y * y)) := v_wok_of (Nat.le_trans d2 (by decide))
   have l2:(v_wide y).2.length≤500000000000 := Nat.le_trans dy (by decide)
   have hs:(y.sign != 0)=true := by rw [Int.sign_eq_one_of_pos hy]; rfl
   simp only [sp_Z9_0,st_Z9_0,fM,v_wide_1,hs,cond_true,v_wval_wide]
   refine ⟨⟨fun _ => w1,fun _ => w2,fun _ => hy,fun _ => l2,fun _ => w3,fun _ => w4,by simp⟩,?_⟩
   congr 3
   rw [Int.mul_comm]; omega
  have gs:∀ (x y:Int),0≤x→v_gcd y (x % y)=v_gcd x y := fun x y hx => by rw [← Int.tmod_eq_emod_of_nonneg hx]; exact v_gcd_step x y
  have one:∀ (x y:Int) (f:Nat),0≤x→0 < y→v_dl x≤400000000000→v_dl y≤400000000000→(OkN (st_Z9_0 p0 p1) (sp_Z9_0 p0 p1) f (v_wide y,v_wide (x % y))∧runL (0,[]) (st_Z9_0 p0 p1) f (v_wide y,v_wide (x % y))=v_wide (v_gcd y (x % y)))→OkN (st_Z9_0 p0 p1) (sp_Z9_0 p0 p1) (f + 1) (v_wide x,v_wide y)∧runL (0,[]) (st_Z9_0 p0 p1) (f + 1) (v_wide x,v_wide y)=v_wide (v_gcd x y) := by
   intro x y f hx hy dx dy ih
   obtain ⟨r1,r2⟩ := round x y hx hy dx dy
   unfold OkN runL
   rw [r2]
   exact ⟨⟨r1,ih.1⟩,ih.2.trans (by rw [gs x y hx])⟩
  have dmod:∀ (x y:Int),0 < y→v_dl y≤400000000000→v_dl (x % y)≤400000000000 := fun x y hy dy => by
   have q2 := Int.emod_nonneg x (show y ≠ 0 by omega)
   have q3 := Int.emod_lt_of_pos x hy
   exact Nat.le_trans (v_dl_mono (by omega)) dy
  intro k
  induction k with
  | zero =>
   intro x y hx hy hk dx dy f hf
   have:y = 0 := by simp at hk; omega
   subst this
   obtain ⟨f,rfl⟩ : ∃ g,f = g + 1 := ⟨f - 1,by omega⟩
   exact fin x hx f
  | succ k ih =>
   intro x y hx hy hk dx dy f hf
   rcases Int.lt_or_le 0 y with h0 | h0
   ·obtain ⟨f,rfl⟩ : ∃ g,f = g + 2 := ⟨f - 2,by omega⟩
    have q2 := Int.emod_nonneg x (show y ≠ 0 by omega)
    have q3 := Int.emod_lt_of_pos x h0
    refine one x y (f + 1) hx h0 dx dy ?_
    rcases Int.lt_or_le 0 (x % y) with h1 | h1
    ·have s2 := Int.emod_nonneg y (show x % y ≠ 0 by omega)
     have s3 := Int.emod_lt_of_pos y h1
     have hlt:y % (x % y) < 2 ^ k := by
      rw [Int.pow_succ] at hk
      rcases Int.lt_or_le (x % y) (2 ^ k) with c | c
      ·omega
      ·have:y % (x % y)≤y - x % y := by
        have e := Int.mul_ediv_add_emod y (x % y)
        have:1≤y / (x % y) := Int.le_ediv_of_mul_le h1 (by omega)
        have := Int.mul_le_mul_of_nonneg_left this (show 0≤x % y by omega)
        omega
       omega
     exact one y (x % y) f (by omega) h1 dy (dmod x y h0 dy) (ih _ _ q2 s2 hlt (dmod x y h0 dy) (dmod y _ h1 (dmod x y h0 dy)) f (by omega))
    ·have:x % y = 0 := by omega
     rw [this]
     exact fin y (by omega) f
   ·have:y = 0 := by omega
    subst this
    obtain ⟨f,rfl⟩ : ∃ g,f = g + 1 := ⟨f - 1,by omega⟩
    exact fin x hx f
 have hb:(v_abs b) < 2 ^ (30 * v_dl b) := by
  have h1 := v_digs_high b.natAbs
  have h2:∀ n:Nat,v_pow n≤2 ^ (30 * n) := by
   intro n
   induction n with
   | zero => exact Int.le_refl _
   | succ n ih =>
    rw [v_pow_s,Nat.mul_succ,Int.pow_add,show (2:Int) ^ 30 = 1073741824 from by decide]
    have := v_pow_pos n
    omega
  have h2 := h2 (v_digs b.natAbs).length
  unfold v_abs v_dl
  omega
 have ga:v_gcd (v_abs a) (v_abs b)=v_gcd a b := by unfold v_gcd v_abs Int.gcd; rw [Int.natAbs_natCast,Int.natAbs_natCast]
 have := key (30 * v_dl b) (v_abs a) (v_abs b) (by unfold v_abs; omega) (by unfold v_abs; omega) hb (by unfold v_dl v_abs at *; rw [Int.natAbs_natCast]; exact da) (by unfold v_dl v_abs at *; rw [Int.natAbs_natCast]; exact db) fuel (by unfold fuel; omega)
 rw [ga] at this
 exact this
abbrev t_Z9 (p0:Int×List Int) (p1:Int×List Int):Int×List Int := v_wide (v_gcd (v_wval p0) (v_wval p1))
abbrev qre_Z9 (p0:Int×List Int) (p1:Int×List Int):List Prop := [v_wok p0,v_wok p1,p0.2.length≤400000000000,p1.2.length≤400000000000]
theorem pp_Z9 (p0:Int×List Int) (p1:Int×List Int) (hq:∀ p∈qre_Z9 p0 p1,p):∀ p∈pre_Z9 p0 p1,p := by
 obtain ⟨h1,h2,h3,h4,_⟩ := conj_of hq
 simp only [pre_Z9,fM]
 exact ⟨h1,h2,(l_Z9_0 p0 p1 h1 h2 h3 h4).1,by simp⟩
theorem tt_Z9 (p0:Int×List Int) (p1:Int×List Int) (hq:∀ p∈qre_Z9 p0 p1,p):s_Z9 p0 p1 = t_Z9 p0 p1 := by
 obtain ⟨h1,h2,h3,h4,_⟩ := conj_of hq
 have e := (l_Z9_0 p0 p1 h1 h2 h3 h4).2
 unfold s_Z9 t_Z9
 rw [e]

abbrev con_Z9:Con := ⟨P_Z9,R_Z9,fun x => qre_Z9 x.1 x.2,fun x => t_Z9 x.1 x.2⟩
theorem ok_Z9:ConOk Try.prog 147 con_Z9 := okG k_Z9 e_Z9 hC_Z9 fun x hx => tf_of (w_Z9_eq x.1 x.2 _) (d_Z9 x.1 x.2 _ (pp_Z9 x.1 x.2 hx) (tt_Z9 x.1 x.2 hx))
def C_Zx:Cons := [(153,[],con_Zr)]
theorem hC_Zx:ConsOk Try.prog C_Zx := cC ok_Zr <| ConsOk.nil
def w_Zx (p0:gE) (p1:gE) (K:Int→Prop):Prop := ((v_wok p0) ∧((v_wok p1) ∧(K (v_wide ((v_wval p0) - (v_wval p1))).1)))
theorem w_Zx_eq (p0:gE) (p1:gE) (K:Int→Prop):tfn F_Zx A_Zx C_Zx P_Zx R_Zx (p0,p1) K = w_Zx p0 p1 K := by kernel_rfl
def s_Zx (p0:gE) (p1:gE):Int := (v_wide ((v_wval p0) - (v_wval p1))).1
abbrev pre_Zx (p0:gE) (p1:gE):List Prop := [(v_wok p0),(v_wok p1)]
theorem d_Zx (p0:gE) (p1:gE) (K:Int→Prop) (hp:∀ p∈pre_Zx p0 p1,p) (h:K (s_Zx p0 p1)):w_Zx p0 p1 K := by
 unfold w_Zx
 unfold s_Zx at h
 obtain ⟨hp0,hp1,_⟩ := conj_of hp
 exact ⟨(hp0),(hp1),h⟩
abbrev t_Zx (p0:Int×List Int) (p1:Int×List Int):Int := v_cmp (v_wval p0) (v_wval p1)
abbrev qre_Zx (p0:Int×List Int) (p1:Int×List Int):List Prop := [v_wok p0,v_wok p1]
theorem pp_Zx (p0:Int×List Int) (p1:Int×List Int) (hq:∀ p∈qre_Zx p0 p1,p):∀ p∈pre_Zx p0 p1,p := by
 simpa only [pre_Zx] using hq
theorem tt_Zx (p0:Int×List Int) (p1:Int×List Int) (_hq:∀ p∈qre_Zx p0 p1,p):s_Zx p0 p1 = t_Zx p0 p1 := by
 unfold s_Zx t_Zx
 exact v_cmp_sign _ _

abbrev con_Zx:Con := ⟨P_Zx,R_Zx,fun x => qre_Zx x.1 x.2,fun x => t_Zx x.1 x.2⟩
theorem ok_Zx:ConOk Try.prog 134 con_Zx := okG k_Zx e_Zx hC_Zx fun x hx => tf_of (w_Zx_eq x.1 x.2 _) (d_Zx x.1 x.2 _ (pp_Zx x.1 x.2 hx) (tt_Zx x.1 x.2 hx))
def C_Zj:Cons := [(139,[],con_Z19),(141,[],con_Zo),(147,[],con_Z9),(127,[],con_Zg),(134,[],con_Zx),(148,[],con_Z5)]
theorem hC_Zj:ConsOk Try.prog C_Zj := cC ok_Z19 <| cC ok_Zo <| cC ok_Z9 <| cC ok_Zg <| cC ok_Zx <| cC ok_Z5 <| ConsOk.nil
abbrev q0_Zj (p0:gE) (p1:gE) := (v_wide (v_gcd (v_wval (v_wide (-(v_wval p0)))) (v_wval (v_wide (-(v_wval p1))))))
def w_Zj (p0:gE) (p1:gE) (K:((Int×(List Int))×(Int×(List Int)))→Prop):Prop := ((((decide (p1.1 < zz0))=true) →((v_wok p0) ∧((v_wok p1) ∧((v_wok (v_wide (-(v_wval p0)))) ∧((v_wok (v_wide (-(v_wval p1)))) ∧(((List.length (v_wide (-(v_wval p0))).2)≤400000000000) ∧(((List.length (v_wide (-(v_wval p1))).2)≤400000000000) ∧((v_fit zz1) ∧((v_wok (q0_Zj p0 p1)) ∧((v_wok (v_wide zz1)) ∧(((((v_cmp (v_wval (q0_Zj p0 p1)) (v_wval (v_wide zz1))) == zz0)=true) →(K ((v_wide (-(v_wval p0))),(v_wide (-(v_wval p1)))))) ∧((((v_cmp (v_wval (q0_Zj p0 p1)) (v_wval (v_wide zz1))) == zz0)=false) →((v_wok (v_wide (-(v_wval p0)))) ∧((v_wok (q0_Zj p0 p1)) ∧((zz0 < (v_wval (q0_Zj p0 p1))) ∧(((List.length (q0_Zj p0 p1).2)≤500000000000) ∧((v_wok (v_wide (-(v_wval p1)))) ∧((v_wok (q0_Zj p0 p1)) ∧((zz0 < (v_wval (q0_Zj p0 p1))) ∧(((List.length (q0_Zj p0 p1).2)≤500000000000) ∧(K ((v_wide ((v_wval (v_wide (-(v_wval p0)))) / (v_wval (q0_Zj p0 p1)))),(v_wide ((v_wval (v_wide (-(v_wval p1)))) / (v_wval (q0_Zj p0 p1)))))))))))))))))))))))))) ∧(((decide (p1.1 < zz0))=false) →((v_wok p0) ∧((v_wok p1) ∧((p0.2.length≤400000000000) ∧((p1.2.length≤400000000000) ∧((v_fit zz1) ∧((v_wok (v_wide (v_gcd (v_wval p0) (v_wval p1)))) ∧((v_wok (v_wide zz1)) ∧(((((v_cmp (v_wval (v_wide (v_gcd (v_wval p0) (v_wval p1)))) (v_wval (v_wide zz1))) == zz0)=true) →(K (p0,p1))) ∧((((v_cmp (v_wval (v_wide (v_gcd (v_wval p0) (v_wval p1)))) (v_wval (v_wide zz1))) == zz0)=false) →((v_wok p0) ∧((v_wok (v_wide (v_gcd (v_wval p0) (v_wval p1)))) ∧((zz0 < (v_wval (v_wide (v_gcd (v_wval p0) (v_wval p1))))) ∧(((List.length (v_wide (v_gcd (v_wval p0) (v_wval p1))).2)≤500000000000) ∧((v_wok p1) ∧((v_wok (v_wide (v_gcd (v_wval p0) (v_wval p1)))) ∧((zz0 < (v_wval (v_wide (v_gcd (v_wval p0) (v_wval p1))))) ∧(((List.length (v_wide (v_gcd (v_wval p0) (v_wval p1))).2)≤500000000000) ∧(K ((v_wide ((v_wval p0) / (v_wval (v_wide (v_gcd (v_wval p0) (v_wval p1)))))),(v_wide ((v_wval p1) / (v_wval (v_wide (v_gcd (v_wval p0) (v_wval p1)))))))))))))))))))))))))))
theorem w_Zj_eq (p0:gE) (p1:gE) (K:((Int×(List Int))×(Int×(List Int)))→Prop):tfn F_Zj A_Zj C_Zj P_Zj R_Zj (p0,p1) K = w_Zj p0 p1 K := by kernel_rfl
def s_Zj (p0:gE) (p1:gE):((Int×(List Int))×(Int×(List Int))) := (cond (decide (p1.1 < 0)) (cond ((v_cmp (v_wval (v_wide (v_gcd (v_wval (v_wide (-(v_wval p0)))) (v_wval (v_wide (-(v_wval p1))))))) (v_wval (v_wide (1:Int)))) == 0) ((v_wide (-(v_wval p0))),(v_wide (-(v_wval p1)))) ((v_wide ((v_wval (v_wide (-(v_wval p0)))) / (v_wval (v_wide (v_gcd (v_wval (v_wide (-(v_wval p0)))) (v_wval (v_wide (-(v_wval p1))))))))),(v_wide ((v_wval (v_wide (-(v_wval p1)))) / (v_wval (v_wide (v_gcd (v_wval (v_wide (-(v_wval p0)))) (v_wval (v_wide (-(v_wval p1))))))))))) (cond ((v_cmp (v_wval (v_wide (v_gcd (v_wval p0) (v_wval p1)))) (v_wval (v_wide (1:Int)))) == 0) (p0,p1) ((v_wide ((v_wval p0) / (v_wval (v_wide (v_gcd (v_wval p0) (v_wval p1)))))),(v_wide ((v_wval p1) / (v_wval (v_wide (v_gcd (v_wval p0) (v_wval p1)))))))))
abbrev pre_Zj (p0:gE) (p1:gE):List Prop := [(((decide (p1.1 < 0))=true)→(v_wok p0)),(((decide (p1.1 < 0))=true)→(v_wok p1)),(((decide (p1.1 < 0))=true)→(v_wok (v_wide (-(v_wval p0))))),(((decide (p1.1 < 0))=true)→(v_wok (v_wide (-(v_wval p1))))),(((decide (p1.1 < 0))=true)→((List.length (v_wide (-(v_wval p0))).2)≤400000000000)),(((decide (p1.1 < 0))=true)→((List.length (v_wide (-(v_wval p1))).2)≤400000000000)),(((decide (p1.1 < 0))=true)→(v_fit (1:Int))),(((decide (p1.1 < 0))=true)→(v_wok (v_wide (v_gcd (v_wval (v_wide (-(v_wval p0)))) (v_wval (v_wide (-(v_wval p1)))))))),(((decide (p1.1 < 0))=true)→(v_wok (v_wide (1:Int)))),(((decide (p1.1 < 0))=true)→((((v_cmp (v_wval (v_wide (v_gcd (v_wval (v_wide (-(v_wval p0)))) (v_wval (v_wide (-(v_wval p1))))))) (v_wval (v_wide (1:Int)))) == 0)=false)→(v_wok (v_wide (-(v_wval p0)))))),(((decide (p1.1 < 0))=true)→((((v_cmp (v_wval (v_wide (v_gcd (v_wval (v_wide (-(v_wval p0)))) (v_wval (v_wide (-(v_wval p1))))))) (v_wval (v_wide (1:Int)))) == 0)=false)→(v_wok (v_wide (v_gcd (v_wval (v_wide (-(v_wval p0)))) (v_wval (v_wide (-(v_wval p1))))))))),(((decide (p1.1 < 0))=true)→((((v_cmp (v_wval (v_wide (v_gcd (v_wval (v_wide (-(v_wval p0)))) (v_wval (v_wide (-(v_wval p1))))))) (v_wval (v_wide (1:Int)))) == 0)=false)→((0:Int) < (v_wval (v_wide (v_gcd (v_wval (v_wide (-(v_wval p0)))) (v_wval (v_wide (-(v_wval p1)))))))))),(((decide (p1.1 < 0))=true)→((((v_cmp (v_wval (v_wide (v_gcd (v_wval (v_wide (-(v_wval p0)))) (v_wval (v_wide (-(v_wval p1))))))) (v_wval (v_wide (1:Int)))) == 0)=false)→((List.length (v_wide (v_gcd (v_wval (v_wide (-(v_wval p0)))) (v_wval (v_wide (-(v_wval p1)))))).2)≤500000000000))),(((decide (p1.1 < 0))=true)→((((v_cmp (v_wval (v_wide (v_gcd (v_wval (v_wide (-(v_wval p0)))) (v_wval (v_wide (-(v_wval p1))))))) (v_wval (v_wide (1:Int)))) == 0)=false)→(v_wok (v_wide (-(v_wval p1)))))),(((decide (p1.1 < 0))=false)→(v_wok p0)),(((decide (p1.1 < 0))=false)→(v_wok p1)),(((decide (p1.1 < 0))=false)→(p0.2.length≤400000000000)),(((decide (p1.1 < 0))=false)→(p1.2.length≤400000000000)),(((decide (p1.1 < 0))=false)→(v_fit (1:Int))),(((decide (p1.1 < 0))=false)→(v_wok (v_wide (v_gcd (v_wval p0) (v_wval p1))))),(((decide (p1.1 < 0))=false)→(v_wok (v_wide (1:Int)))),(((decide (p1.1 < 0))=false)→((((v_cmp (v_wval (v_wide (v_gcd (v_wval p0) (v_wval p1)))) (v_wval (v_wide (1:Int)))) == 0)=false)→(v_wok p0))),(((decide (p1.1 < 0))=false)→((((v_cmp (v_wval (v_wide (v_gcd (v_wval p0) (v_wval p1)))) (v_wval (v_wide (1:Int)))) == 0)=false)→(v_wok (v_wide (v_gcd (v_wval p0) (v_wval p1)))))),(((decide (p1.1 < 0))=false)→((((v_cmp (v_wval (v_wide (v_gcd (v_wval p0) (v_wval p1)))) (v_wval (v_wide (1:Int)))) == 0)=false)→((0:Int) < (v_wval (v_wide (v_gcd (v_wval p0) (v_wval p1))))))),(((decide (p1.1 < 0))=false)→((((v_cmp (v_wval (v_wide (v_gcd (v_wval p0) (v_wval p1)))) (v_wval (v_wide (1:Int)))) == 0)=false)→((List.length (v_wide (v_gcd (v_wval p0) (v_wval p1))).2)≤500000000000))),(((decide (p1.1 < 0))=false)→((((v_cmp (v_wval (v_wide (v_gcd (v_wval p0) (v_wval p1)))) (v_wval (v_wide (1:Int)))) == 0)=false)→(v_wok p1)))]
theorem d_Zj (p0:gE) (p1:gE) (K:((Int×(List Int))×(Int×(List Int)))→Prop) (hp:∀ p∈pre_Zj p0 p1,p) (h:K (s_Zj p0 p1)):w_Zj p0 p1 K := by
 unfold w_Zj
 unfold s_Zj at h
 obtain ⟨hp0,hp1,hp2,hp3,hp4,hp5,hp6,hp7,hp8,hp9,hp10,hp11,hp12,hp13,hp14,hp15,hp16,hp17,hp18,hp19,hp20,hp21,hp22,hp23,hp24,hp25,_⟩ := conj_of hp
 exact (br' h (fun e0 h => ⟨(hp0 e0),(hp1 e0),(hp2 e0),(hp3 e0),(hp4 e0),(hp5 e0),(hp6 e0),(hp7 e0),(hp8 e0),(br' h (fun e1 h => h)
  (fun e1 h => ⟨(hp9 e0 e1),(hp10 e0 e1),(hp11 e0 e1),(hp12 e0 e1),(hp13 e0 e1),(hp10 e0 e1),(hp11 e0 e1),(hp12 e0 e1),h⟩))⟩)
  (fun e0 h => ⟨(hp14 e0),(hp15 e0),(hp16 e0),(hp17 e0),(hp18 e0),(hp19 e0),(hp20 e0),(br' h (fun e2 h => h)
  (fun e2 h => ⟨(hp21 e0 e2),(hp22 e0 e2),(hp23 e0 e2),(hp24 e0 e2),(hp25 e0 e2),(hp22 e0 e2),(hp23 e0 e2),(hp24 e0 e2),h⟩))⟩))
/-- A rational number as the reference keeps it. -/
def v_rat (q:Rat):(Int×List Int)×(Int×List Int) := (v_wide q.num,v_wide (q.den:Int))
def v_rv (p:(Int×List Int)×(Int×List Int)):Rat := (v_wval p.1:Rat) / (v_wval p.2:Rat)
theorem v_rv_rat (q:Rat):v_rv (v_rat q)=q := by
 unfold v_rv v_rat
 rw [v_wval_wide,v_wval_wide,← Rat.divInt_eq_div,Rat.num_divInt_den]
structure v_rok (p:(Int×List Int)×(Int×List Int)):Prop where
 eq:p = v_rat (v_rv p)
 l1:p.1.2.length≤100000000000
 l2:p.2.2.length≤100000000000
theorem v_rok.ex {p:(Int×List Int)×(Int×List Int)} (h:v_rok p):∃ q:Rat,p = v_rat q∧v_dl q.num≤100000000000∧v_dl q.den≤100000000000 := ⟨_,h.eq,by have := h.l1; rw [h.eq] at this; exact this,by have := h.l2; rw [h.eq] at this; exact this⟩
theorem v_rok_of {q:Rat} (h1:v_dl q.num≤100000000000) (h2:v_dl q.den≤100000000000):v_rok (v_rat q) := ⟨by rw [v_rv_rat],h1,h2⟩
/-- Bounds of both parts. -/
structure v_rb (B:Int) (q:Rat):Prop where
 n:(q.num.natAbs:Int)≤B
 d:(q.den:Int)≤B
theorem v_rb.ok {B:Int} {q:Rat} (h:v_rb B q) (hB:B < v_pow 100):v_rok (v_rat q) :=
 v_rok_of (Nat.le_trans (v_digs_len (k := 100) (by have := h.n; omega)) (by decide)) (Nat.le_trans (v_digs_len (k := 100) (by have := h.d; omega)) (by decide))
/-- What a quotient of two whole numbers is at most. -/
theorem v_rdiv_le2 {n d:Int} (hd:d ≠ 0):((n:Rat) / (d:Rat)).num.natAbs≤n.natAbs∧((n:Rat) / (d:Rat)).den≤d.natAbs := by
 rw [← Rat.divInt_eq_div,Rat.num_divInt,Rat.den_divInt,if_neg hd]
 refine ⟨?_,Nat.div_le_self _ _⟩
 rw [Int.natAbs_ediv_of_dvd (by
  have:(d.gcd n:Int) ∣ n := Int.gcd_dvd_right d n
  exact Int.dvd_trans this (Int.dvd_mul_left _ _))]
 refine Nat.le_trans (Nat.div_le_self _ _) ?_
 rw [Int.natAbs_mul]
 have:d.sign.natAbs = 1 := Int.natAbs_sign_of_ne_zero hd
 rw [this,Nat.one_mul]
 exact Nat.le_refl _
theorem v_rb_div {B n d:Int} (hd:d ≠ 0) (h1:(n.natAbs:Int)≤B) (h2:(d.natAbs:Int)≤B):v_rb B ((n:Rat) / (d:Rat)) := by
 have := v_rdiv_le2 (n := n) hd
 exact ⟨by omega,by omega⟩
theorem v_rcast_ne {d:Int} (h:d ≠ 0):(d:Rat) ≠ 0 := fun e => h (Rat.intCast_eq_zero_iff.1 e)
/-- Sums,products and quotients,by their parts. -/
theorem v_qnum (q:Rat):(q.num:Rat)=q * ((q.den:Int):Rat) := by
 have hq := v_rcast_ne (d := (q.den:Int)) (by have := q.den_pos; omega)
 have e := Rat.num_divInt_den q
 rw [Rat.divInt_eq_div] at e
 have h := Rat.div_mul_cancel (a := (q.num:Rat)) hq
 rw [e] at h
 exact h.symm
theorem v_qadd (p q:Rat):p + q = ((p.num * q.den + q.num * p.den:Int):Rat) / ((p.den * q.den:Int):Rat) := by
 have hp := v_rcast_ne (d := (p.den:Int)) (by have := p.den_pos; omega)
 have hq := v_rcast_ne (d := (q.den:Int)) (by have := q.den_pos; omega)
 have ep := v_qnum p
 have eq := v_qnum q
 rw [Rat.intCast_add,Rat.intCast_mul,Rat.intCast_mul,Rat.intCast_mul,ep,eq]
 generalize ((p.den:Int):Rat)=a at *
 generalize ((q.den:Int):Rat)=b at *
 grind
theorem v_qmul (p q:Rat):p * q = ((p.num * q.num:Int):Rat) / ((p.den * q.den:Int):Rat) := by
 have hp := v_rcast_ne (d := (p.den:Int)) (by have := p.den_pos; omega)
 have hq := v_rcast_ne (d := (q.den:Int)) (by have := q.den_pos; omega)
 have ep := v_qnum p
 have eq := v_qnum q
 rw [Rat.intCast_mul,Rat.intCast_mul,ep,eq]
 generalize ((p.den:Int):Rat)=a at *
 generalize ((q.den:Int):Rat)=b at *
 grind
theorem v_qdiv (p q:Rat) (h:q.num ≠ 0):p / q = ((p.num * q.den:Int):Rat) / ((p.den * q.num:Int):Rat) := by
 have hp := v_rcast_ne (d := (p.den:Int)) (by have := p.den_pos; omega)
 have hq := v_rcast_ne (d := (q.den:Int)) (by have := q.den_pos; omega)
 have hn := v_rcast_ne h
 have ep := v_qnum p
 have eq := v_qnum q
 have hq0:q ≠ 0 := fun e => by rw [e] at h; exact h rfl
 rw [Rat.intCast_mul,Rat.intCast_mul,ep,eq]
 generalize ((p.den:Int):Rat)=a at *
 generalize ((q.den:Int):Rat)=b at *
 rw [Rat.div_def,Rat.div_def,Rat.inv_mul_rev,Rat.inv_mul_rev]
 have h1:a * a⁻¹ = 1 := Rat.mul_inv_cancel _ hp
 have h2:b * b⁻¹ = 1 := Rat.mul_inv_cancel _ hq
 grind
theorem v_natmul {a b A B:Int} (h1:(a.natAbs:Int)≤A) (h2:(b.natAbs:Int)≤B):((a * b).natAbs:Int)≤A * B := by
 rw [Int.natAbs_mul,Int.natCast_mul]
 exact (mul_in (by omega) h1 (by omega) h2).2
theorem v_rb_add {A B:Int} {p q:Rat} (hp:v_rb A p) (hq:v_rb B q):v_rb (2 * (A * B)) (p + q) := by
 rw [v_qadd]
 have h1 := v_natmul hp.n (b := (q.den:Int)) (B := B) (by have := hq.d; omega)
 have h2 := v_natmul hq.n (b := (p.den:Int)) (B := A) (by have := hp.d; omega)
 have h3 := v_natmul (a := (p.den:Int)) (A := A) (by have := hp.d; omega) (b := (q.den:Int)) (B := B) (by have := hq.d; omega)
 rw [Int.mul_comm B A] at h2
 have hd:(p.den:Int) * (q.den:Int) ≠ 0 := Int.mul_ne_zero (by have := p.den_pos; omega) (by have := q.den_pos; omega)
 exact v_rb_div hd (by omega) (by omega)
theorem v_rb_mul {A B:Int} {p q:Rat} (hp:v_rb A p) (hq:v_rb B q):v_rb (A * B) (p * q) := by
 rw [v_qmul]
 have h1 := v_natmul hp.n hq.n
 have h3 := v_natmul (a := (p.den:Int)) (A := A) (by have := hp.d; omega) (b := (q.den:Int)) (B := B) (by have := hq.d; omega)
 have hd:(p.den:Int) * (q.den:Int) ≠ 0 := Int.mul_ne_zero (by have := p.den_pos; omega) (by have := q.den_pos; omega)
 exact v_rb_div hd h1 h3
theorem v_rb_neg {A:Int} {p:Rat} (hp:v_rb A p):v_rb A (-p) := ⟨by rw [Rat.neg_num,Int.natAbs_neg]; exact hp.n,by rw [Rat.neg_den]; exact hp.d⟩
theorem v_rb_int {A n:Int} (h:(n.natAbs:Int)≤A) (h1:1≤A):v_rb A (n:Rat) := ⟨h,h1⟩
theorem v_rb_le {A B:Int} {p:Rat} (hp:v_rb A p) (h:A≤B):v_rb B p := ⟨Int.le_trans hp.n h,Int.le_trans hp.d h⟩
/-- Operations on such numbers. -/
def v_rmk (n d:Int):(Int×List Int)×(Int×List Int) := v_rat ((n:Rat) / (d:Rat))
def v_rint (n:Int):(Int×List Int)×(Int×List Int) := v_rat (n:Rat)
def v_rneg (p:(Int×List Int)×(Int×List Int)):(Int×List Int)×(Int×List Int) := v_rat (-(v_rv p))
def v_radd (p q:(Int×List Int)×(Int×List Int)):(Int×List Int)×(Int×List Int) := v_rat (v_rv p + v_rv q)
def v_rsub (p q:(Int×List Int)×(Int×List Int)):(Int×List Int)×(Int×List Int) := v_rat (v_rv p - v_rv q)
def v_rmul (p q:(Int×List Int)×(Int×List Int)):(Int×List Int)×(Int×List Int) := v_rat (v_rv p * v_rv q)
def v_rdiv (p q:(Int×List Int)×(Int×List Int)):(Int×List Int)×(Int×List Int) := v_rat (v_rv p / v_rv q)
def v_qcmp (p q:Rat):Int := v_cmp (p.num * q.den) (q.num * p.den)
def v_rcmp (p q:(Int×List Int)×(Int×List Int)):Int := v_qcmp (v_rv p) (v_rv q)
def v_rsgn (p:(Int×List Int)×(Int×List Int)):Int := (v_rv p).num.sign
theorem v_qcmp_gt {p q:Rat}:0 < v_qcmp p q ↔ q < p := by rw [Rat.lt_iff]; exact v_cmp_gt
abbrev t_Zj (p0:Int×List Int) (p1:Int×List Int):(Int×List Int)×(Int×List Int) := v_rmk (v_wval p0) (v_wval p1)
abbrev qre_Zj (p0:Int×List Int) (p1:Int×List Int):List Prop := [v_wok p0,v_wok p1,p0.2.length≤400000000000,p1.2.length≤400000000000,v_wval p1 ≠ 0]
theorem pp_Zj (p0:Int×List Int) (p1:Int×List Int) (hq:∀ p∈qre_Zj p0 p1,p):∀ p∈pre_Zj p0 p1,p := by
 obtain ⟨h1,h2,h3,h4,h5,_⟩ := conj_of hq
 obtain ⟨n,rfl,hn⟩ := h1.ex
 obtain ⟨d,rfl,hd⟩ := h2.ex
 rw [v_wide_len] at h3 h4
 rw [v_wval_wide] at h5
 have g0 := v_gcd_pos (a := n) h5
 have g0' := v_gcd_pos (a := -n) (b := -d) (by omega)
 have gd:v_dl (v_gcd n d)≤400000000000 := Nat.le_trans (v_dl_mono (by have := Nat.le_of_dvd (by omega) (show n.gcd d ∣ d.natAbs from Nat.gcd_dvd_right _ _); unfold v_gcd; omega)) h4
 have gg:v_gcd (-n) (-d)=v_gcd n d := by unfold v_gcd; rw [Int.neg_gcd,Int.gcd_neg]
 have w1:v_wok (v_wide 1) := v_wok_of (Nat.le_trans (v_digs_len (k := 1) (by decide)) (by decide))
 have wg:v_wok (v_wide (v_gcd n d)) := v_wok_of (Nat.le_trans gd (by decide))
 have wn:v_wok (v_wide (-n)) := v_wok_of (by rw [v_dl_neg]; exact hn)
 have wd:v_wok (v_wide (-d)) := v_wok_of (by rw [v_dl_neg]; exact hd)
 have f1:v_fit 1 := by unfold v_fit; omega
 have lg:(v_wide (v_gcd n d)).2.length≤500000000000 := Nat.le_trans gd (by decide)
 have ln:(v_wide (-n)).2.length≤400000000000 := by rw [v_wide_len,v_dl_neg]; exact h3
 have ld:(v_wide (-d)).2.length≤400000000000 := by rw [v_wide_len,v_dl_neg]; exact h4
 simp only [pre_Zj,fM,v_wval_wide,gg]
 and_intros
 all_goals first
  | (intro p hp; cases hp; done)
  | exact f1
  | exact w1
  | (intros; first | exact h1 | exact h2 | exact wn | exact wd | exact wg | exact w1 | exact f1 | exact h3 | exact h4 | exact ln | exact ld | exact lg | exact g0)
theorem tt_Zj (p0:Int×List Int) (p1:Int×List Int) (hq:∀ p∈qre_Zj p0 p1,p):s_Zj p0 p1 = t_Zj p0 p1 := by
 obtain ⟨h1,h2,h3,h4,h5,_⟩ := conj_of hq
 obtain ⟨n,rfl,hn⟩ := h1.ex
 obtain ⟨d,rfl,hd⟩ := h2.ex
 rw [v_wval_wide] at h5
 unfold s_Zj t_Zj v_rmk v_rat
 have key:∀ n d:Int,0 < d→cond (v_cmp (v_gcd n d) 1 == 0) (v_wide n,v_wide d) (v_wide (n / v_gcd n d),v_wide (d / v_gcd n d))=(v_wide ((n:Rat) / (d:Rat)).num,v_wide (((n:Rat) / (d:Rat)).den:Int)) := by
  intro n d hd
  have e := v_low_frac (n := n) hd
  unfold v_low v_frac at e
  simp only [pJ] at e
  rw [← e.1,← e.2]
  have g := v_gcd_pos (a := n) (b := d) (by omega)
  rcases Decidable.em (v_gcd n d = 1) with k | k
  ·rw [k,Int.ediv_one,Int.ediv_one]; cases (v_cmp 1 1 == 0) <;> rfl
  ·have:(v_cmp (v_gcd n d) 1 == 0)=false := by
    unfold v_cmp
    rw [decide_eq_false (show ¬ v_gcd n d < 1 by omega),decide_eq_true (show v_gcd n d > 1 by omega)]; rfl
   rw [this]; rfl
 have gg:v_gcd (-n) (-d)=v_gcd n d := by unfold v_gcd; rw [Int.neg_gcd,Int.gcd_neg]
 simp only [v_wval_wide]
 rcases Int.lt_or_le d 0 with c | c
 ·have k := key (-n) (-d) (by omega)
  rw [Rat.intCast_neg,Rat.intCast_neg,show -(n:Rat) / -(d:Rat)=(n:Rat) / (d:Rat) from by rw [Rat.div_def,Rat.div_def,show (-(d:Rat))⁻¹ = -((d:Rat)⁻¹) from by have := v_rcast_ne h5; grind]; grind] at k
  have e1:decide ((v_wide d).1 < 0)=true := decide_eq_true (by rw [v_wide_1,Int.sign_eq_neg_one_of_neg c]; decide)
  rw [e1,← k]
  simp only [cond_true]
 ·have k := key n d (by omega)
  have e1:decide ((v_wide d).1 < 0)=false := decide_eq_false (by rw [v_wide_1,Int.sign_eq_one_of_pos (show 0 < d by omega)]; decide)
  rw [e1,← k]
  simp only [cond_false]

abbrev con_Zj:Con := ⟨P_Zj,R_Zj,fun x => qre_Zj x.1 x.2,fun x => t_Zj x.1 x.2⟩
theorem ok_Zj:ConOk Try.prog 128 con_Zj := okG k_Zj e_Zj hC_Zj fun x hx => tf_of (w_Zj_eq x.1 x.2 _) (d_Zj x.1 x.2 _ (pp_Zj x.1 x.2 hx) (tt_Zj x.1 x.2 hx))
def C_Zz:Cons := [(127,[],con_Zg),(128,[],con_Zj)]
theorem hC_Zz:ConsOk Try.prog C_Zz := cC ok_Zg <| cC ok_Zj <| ConsOk.nil
def w_Zz (p0:Int) (p1:Int) (K:((Int×(List Int))×(Int×(List Int)))→Prop):Prop := ((v_fit p0) ∧((v_fit p1) ∧((v_wok (v_wide p0)) ∧((v_wok (v_wide p1)) ∧(((List.length (v_wide p0).2)≤400000000000) ∧(((List.length (v_wide p1).2)≤400000000000) ∧(((v_wval (v_wide p1)) ≠ zz0) ∧(K (v_rmk (v_wval (v_wide p0)) (v_wval (v_wide p1)))))))))))
theorem w_Zz_eq (p0:Int) (p1:Int) (K:((Int×(List Int))×(Int×(List Int)))→Prop):tfn F_Zz A_Zz C_Zz P_Zz R_Zz (p0,p1) K = w_Zz p0 p1 K := by kernel_rfl
def s_Zz (p0:Int) (p1:Int):((Int×(List Int))×(Int×(List Int))) := (v_rmk (v_wval (v_wide p0)) (v_wval (v_wide p1)))
abbrev pre_Zz (p0:Int) (p1:Int):List Prop := [(v_fit p0),(v_fit p1),(v_wok (v_wide p0)),(v_wok (v_wide p1)),((List.length (v_wide p0).2)≤400000000000),((List.length (v_wide p1).2)≤400000000000),((v_wval (v_wide p1)) ≠ (0:Int))]
theorem d_Zz (p0:Int) (p1:Int) (K:((Int×(List Int))×(Int×(List Int)))→Prop) (hp:∀ p∈pre_Zz p0 p1,p) (h:K (s_Zz p0 p1)):w_Zz p0 p1 K := by
 unfold w_Zz
 unfold s_Zz at h
 obtain ⟨hp0,hp1,hp2,hp3,hp4,hp5,hp6,_⟩ := conj_of hp
 exact ⟨(hp0),(hp1),(hp2),(hp3),(hp4),(hp5),(hp6),h⟩
theorem v_rat_1 (q:Rat):(v_rat q).1 = v_wide q.num := rfl
theorem v_rat_2 (q:Rat):(v_rat q).2 = v_wide (q.den:Int) := rfl
theorem v_dl_fit {n:Int} (h:v_fit n):v_dl n≤12 := v_digs_len (k := 12) (by unfold v_fit at h; rw [show (v_pow 12:Int)=1000000000000000000000000000000000000000000000000000000000000000000000000000000000000000000000000000000000000 by decide]; omega)
theorem v_den_ne (q:Rat):(q.den:Int) ≠ 0 := by have := q.den_pos; omega
abbrev t_Zz (p0:Int) (p1:Int):(Int×List Int)×(Int×List Int) := v_rmk p0 p1
abbrev qre_Zz (p0:Int) (p1:Int):List Prop := [v_fit p0,v_fit p1,p1 ≠ 0]
theorem pp_Zz (p0:Int) (p1:Int) (hq:∀ p∈qre_Zz p0 p1,p):∀ p∈pre_Zz p0 p1,p := by
 obtain ⟨h1,h2,h3,_⟩ := conj_of hq
 have d1 := v_dl_fit h1
 have d2 := v_dl_fit h2
 simp only [pre_Zz,fM]
 and_intros
 all_goals first
  | (intro p hp; cases hp; done)
  | (intros; assumption)
  | (intros; rw [v_wval_wide]; assumption)
  | (intros; apply v_wok_of; omega)
  | (intros; rw [v_wide_len]; omega)
  | omega
  | (unfold v_fit at *; omega)
theorem tt_Zz (p0:Int) (p1:Int) (_hq:∀ p∈qre_Zz p0 p1,p):s_Zz p0 p1 = t_Zz p0 p1 := by
 unfold s_Zz t_Zz
 rw [v_wval_wide,v_wval_wide]

abbrev con_Zz:Con := ⟨P_Zz,R_Zz,fun x => qre_Zz x.1 x.2,fun x => t_Zz x.1 x.2⟩
theorem ok_Zz:ConOk Try.prog 85 con_Zz := okG k_Zz e_Zz hC_Zz fun x hx => tf_of (w_Zz_eq x.1 x.2 _) (d_Zz x.1 x.2 _ (pp_Zz x.1 x.2 hx) (tt_Zz x.1 x.2 hx))
def C_Zt:Cons := [(129,[],con_Z3),(128,[],con_Zj)]
theorem hC_Zt:ConsOk Try.prog C_Zt := cC ok_Z3 <| cC ok_Zj <| ConsOk.nil
def w_Zt (p0:gD) (p1:gD) (K:((Int×(List Int))×(Int×(List Int)))→Prop):Prop := ((v_wok p0.1) ∧((v_wok p1.1) ∧((v_wok p0.2) ∧((v_wok p1.2) ∧((v_wok (v_wide ((v_wval p0.1) * (v_wval p1.1)))) ∧((v_wok (v_wide ((v_wval p0.2) * (v_wval p1.2)))) ∧(((List.length (v_wide ((v_wval p0.1) * (v_wval p1.1))).2)≤400000000000) ∧(((List.length (v_wide ((v_wval p0.2) * (v_wval p1.2))).2)≤400000000000) ∧(((v_wval (v_wide ((v_wval p0.2) * (v_wval p1.2)))) ≠ zz0) ∧(K (v_rmk (v_wval (v_wide ((v_wval p0.1) * (v_wval p1.1)))) (v_wval (v_wide ((v_wval p0.2) * (v_wval p1.2)))))))))))))))
theorem w_Zt_eq (p0:gD) (p1:gD) (K:((Int×(List Int))×(Int×(List Int)))→Prop):tfn F_Zt A_Zt C_Zt P_Zt R_Zt (p0,p1) K = w_Zt p0 p1 K := by kernel_rfl
def s_Zt (p0:gD) (p1:gD):((Int×(List Int))×(Int×(List Int))) := (v_rmk (v_wval (v_wide ((v_wval p0.1) * (v_wval p1.1)))) (v_wval (v_wide ((v_wval p0.2) * (v_wval p1.2)))))
abbrev pre_Zt (p0:gD) (p1:gD):List Prop := [(v_wok p0.1),(v_wok p1.1),(v_wok p0.2),(v_wok p1.2),(v_wok (v_wide ((v_wval p0.1) * (v_wval p1.1)))),(v_wok (v_wide ((v_wval p0.2) * (v_wval p1.2)))),((List.length (v_wide ((v_wval p0.1) * (v_wval p1.1))).2)≤400000000000),((List.length (v_wide ((v_wval p0.2) * (v_wval p1.2))).2)≤400000000000),((v_wval (v_wide ((v_wval p0.2) * (v_wval p1.2)))) ≠ (0:Int))]
theorem d_Zt (p0:gD) (p1:gD) (K:((Int×(List Int))×(Int×(List Int)))→Prop) (hp:∀ p∈pre_Zt p0 p1,p) (h:K (s_Zt p0 p1)):w_Zt p0 p1 K := by
 unfold w_Zt
 unfold s_Zt at h
 obtain ⟨hp0,hp1,hp2,hp3,hp4,hp5,hp6,hp7,hp8,_⟩ := conj_of hp
 exact ⟨(hp0),(hp1),(hp2),(hp3),(hp4),(hp5),(hp6),(hp7),(hp8),h⟩
abbrev t_Zt (p0:(Int×List Int)×(Int×List Int)) (p1:(Int×List Int)×(Int×List Int)):(Int×List Int)×(Int×List Int) := v_rmul p0 p1
abbrev qre_Zt (p0:(Int×List Int)×(Int×List Int)) (p1:(Int×List Int)×(Int×List Int)):List Prop := [v_rok p0,v_rok p1]
theorem pp_Zt (p0:(Int×List Int)×(Int×List Int)) (p1:(Int×List Int)×(Int×List Int)) (hq:∀ p∈qre_Zt p0 p1,p):∀ p∈pre_Zt p0 p1,p := by
 obtain ⟨h1,h2,_⟩ := conj_of hq
 obtain ⟨p,rfl,a1,a2⟩ := h1.ex
 obtain ⟨q,rfl,b1,b2⟩ := h2.ex
 have m3 := v_dl_mul p.num q.num
 have m4 := v_dl_mul p.den q.den
 have hne:(p.den:Int) * (q.den:Int) ≠ 0 := Int.mul_ne_zero (v_den_ne p) (v_den_ne q)
 simp only [pre_Zt,fM,v_rat_1,v_rat_2,v_wval_wide]
 and_intros
 all_goals first
  | (intro p hp; cases hp; done)
  | (intros; assumption)
  | (intros; rw [v_wval_wide]; assumption)
  | (intros; apply v_wok_of; omega)
  | (intros; rw [v_wide_len]; omega)
  | omega
  | (unfold v_fit at *; omega)
theorem tt_Zt (p0:(Int×List Int)×(Int×List Int)) (p1:(Int×List Int)×(Int×List Int)) (hq:∀ p∈qre_Zt p0 p1,p):s_Zt p0 p1 = t_Zt p0 p1 := by
 obtain ⟨h1,h2,_⟩ := conj_of hq
 obtain ⟨p,rfl,a1,a2⟩ := h1.ex
 obtain ⟨q,rfl,b1,b2⟩ := h2.ex
 unfold s_Zt t_Zt v_rmul v_rmk
 simp only [v_rat_1,v_rat_2,v_rv_rat,v_wval_wide]
 rw [v_qmul]

abbrev con_Zt:Con := ⟨P_Zt,R_Zt,fun x => qre_Zt x.1 x.2,fun x => t_Zt x.1 x.2⟩
theorem ok_Zt:ConOk Try.prog 86 con_Zt := okG k_Zt e_Zt hC_Zt fun x hx => tf_of (w_Zt_eq x.1 x.2 _) (d_Zt x.1 x.2 _ (pp_Zt x.1 x.2 hx) (tt_Zt x.1 x.2 hx))
def C_Zq:Cons := [(127,[],con_Zg)]
theorem hC_Zq:ConsOk Try.prog C_Zq := cC ok_Zg <| ConsOk.nil
def w_Zq (p0:Int) (K:((Int×(List Int))×(Int×(List Int)))→Prop):Prop := ((v_fit p0) ∧((v_fit zz1) ∧(K ((v_wide p0),(v_wide zz1)))))
theorem w_Zq_eq (p0:Int) (K:((Int×(List Int))×(Int×(List Int)))→Prop):tfn F_Zq A_Zq C_Zq P_Zq R_Zq p0 K = w_Zq p0 K := by kernel_rfl
def s_Zq (p0:Int):((Int×(List Int))×(Int×(List Int))) := ((v_wide p0),(v_wide (1:Int)))
abbrev pre_Zq (p0:Int):List Prop := [(v_fit p0),(v_fit (1:Int))]
theorem d_Zq (p0:Int) (K:((Int×(List Int))×(Int×(List Int)))→Prop) (hp:∀ p∈pre_Zq p0,p) (h:K (s_Zq p0)):w_Zq p0 K := by
 unfold w_Zq
 unfold s_Zq at h
 obtain ⟨hp0,hp1,_⟩ := conj_of hp
 exact ⟨(hp0),(hp1),h⟩
abbrev t_Zq (p0:Int):(Int×List Int)×(Int×List Int) := v_rint p0
abbrev qre_Zq (p0:Int):List Prop := [v_fit p0]
theorem pp_Zq (p0:Int) (hq:∀ p∈qre_Zq p0,p):∀ p∈pre_Zq p0,p := by
 obtain ⟨h1,_⟩ := conj_of hq
 simp only [pre_Zq,fM]
 and_intros
 all_goals first
  | (intro p hp; cases hp; done)
  | (intros; assumption)
  | (intros; rw [v_wval_wide]; assumption)
  | (intros; apply v_wok_of; omega)
  | (intros; rw [v_wide_len]; omega)
  | omega
  | (unfold v_fit at *; omega)
theorem tt_Zq (p0:Int) (_hq:∀ p∈qre_Zq p0,p):s_Zq p0 = t_Zq p0 := by
 unfold s_Zq t_Zq
 rfl

abbrev con_Zq:Con := ⟨P_Zq,R_Zq,fun x => qre_Zq x,fun x => t_Zq x⟩
theorem ok_Zq:ConOk Try.prog 84 con_Zq := okG k_Zq e_Zq hC_Zq fun x hx => tf_of (w_Zq_eq x _) (d_Zq x _ (pp_Zq x hx) (tt_Zq x hx))
def C_Zu:Cons := [(129,[],con_Z3),(130,[],con_Zw),(128,[],con_Zj)]
theorem hC_Zu:ConsOk Try.prog C_Zu := cC ok_Z3 <| cC ok_Zw <| cC ok_Zj <| ConsOk.nil
def w_Zu (p0:gD) (p1:gD) (K:((Int×(List Int))×(Int×(List Int)))→Prop):Prop := ((v_wok p0.1) ∧((v_wok p1.2) ∧((v_wok p1.1) ∧((v_wok p0.2) ∧((v_wok (v_wide ((v_wval p0.1) * (v_wval p1.2)))) ∧((v_wok (v_wide ((v_wval p1.1) * (v_wval p0.2)))) ∧((v_wok p0.2) ∧((v_wok p1.2) ∧((v_wok (v_wide ((v_wval (v_wide ((v_wval p0.1) * (v_wval p1.2)))) + (v_wval (v_wide ((v_wval p1.1) * (v_wval p0.2))))))) ∧((v_wok (v_wide ((v_wval p0.2) * (v_wval p1.2)))) ∧(((List.length (v_wide ((v_wval (v_wide ((v_wval p0.1) * (v_wval p1.2)))) + (v_wval (v_wide ((v_wval p1.1) * (v_wval p0.2)))))).2)≤400000000000) ∧(((List.length (v_wide ((v_wval p0.2) * (v_wval p1.2))).2)≤400000000000) ∧(((v_wval (v_wide ((v_wval p0.2) * (v_wval p1.2)))) ≠ zz0) ∧(K (v_rmk (v_wval (v_wide ((v_wval (v_wide ((v_wval p0.1) * (v_wval p1.2)))) + (v_wval (v_wide ((v_wval p1.1) * (v_wval p0.2))))))) (v_wval (v_wide ((v_wval p0.2) * (v_wval p1.2)))))))))))))))))))
theorem w_Zu_eq (p0:gD) (p1:gD) (K:((Int×(List Int))×(Int×(List Int)))→Prop):tfn F_Zu A_Zu C_Zu P_Zu R_Zu (p0,p1) K = w_Zu p0 p1 K := by kernel_rfl
def s_Zu (p0:gD) (p1:gD):((Int×(List Int))×(Int×(List Int))) := (v_rmk (v_wval (v_wide ((v_wval (v_wide ((v_wval p0.1) * (v_wval p1.2)))) + (v_wval (v_wide ((v_wval p1.1) * (v_wval p0.2))))))) (v_wval (v_wide ((v_wval p0.2) * (v_wval p1.2)))))
abbrev pre_Zu (p0:gD) (p1:gD):List Prop := [(v_wok p0.1),(v_wok p1.2),(v_wok p1.1),(v_wok p0.2),(v_wok (v_wide ((v_wval p0.1) * (v_wval p1.2)))),(v_wok (v_wide ((v_wval p1.1) * (v_wval p0.2)))),(v_wok (v_wide ((v_wval (v_wide ((v_wval p0.1) * (v_wval p1.2)))) + (v_wval (v_wide ((v_wval p1.1) * (v_wval p0.2))))))),(v_wok (v_wide ((v_wval p0.2) * (v_wval p1.2)))),((List.length (v_wide ((v_wval (v_wide ((v_wval p0.1) * (v_wval p1.2)))) + (v_wval (v_wide ((v_wval p1.1) * (v_wval p0.2)))))).2)≤400000000000),((List.length (v_wide ((v_wval p0.2) * (v_wval p1.2))).2)≤400000000000),((v_wval (v_wide ((v_wval p0.2) * (v_wval p1.2)))) ≠ (0:Int))]
theorem d_Zu (p0:gD) (p1:gD) (K:((Int×(List Int))×(Int×(List Int)))→Prop) (hp:∀ p∈pre_Zu p0 p1,p) (h:K (s_Zu p0 p1)):w_Zu p0 p1 K := by
 unfold w_Zu
 unfold s_Zu at h
 obtain ⟨hp0,hp1,hp2,hp3,hp4,hp5,hp6,hp7,hp8,hp9,hp10,_⟩ := conj_of hp
 exact ⟨(hp0),(hp1),(hp2),(hp3),(hp4),(hp5),(hp3),(hp1),(hp6),(hp7),(hp8),(hp9),(hp10),h⟩
abbrev t_Zu (p0:(Int×List Int)×(Int×List Int)) (p1:(Int×List Int)×(Int×List Int)):(Int×List Int)×(Int×List Int) := v_radd p0 p1
abbrev qre_Zu (p0:(Int×List Int)×(Int×List Int)) (p1:(Int×List Int)×(Int×List Int)):List Prop := [v_rok p0,v_rok p1]
theorem pp_Zu (p0:(Int×List Int)×(Int×List Int)) (p1:(Int×List Int)×(Int×List Int)) (hq:∀ p∈qre_Zu p0 p1,p):∀ p∈pre_Zu p0 p1,p := by
 obtain ⟨h1,h2,_⟩ := conj_of hq
 obtain ⟨p,rfl,a1,a2⟩ := h1.ex
 obtain ⟨q,rfl,b1,b2⟩ := h2.ex
 have m1 := v_dl_mul p.num q.den
 have m2 := v_dl_mul q.num p.den
 have m3 := v_dl_add (p.num * q.den) (q.num * p.den)
 have m4 := v_dl_mul p.den q.den
 have hne:(p.den:Int) * (q.den:Int) ≠ 0 := Int.mul_ne_zero (v_den_ne p) (v_den_ne q)
 simp only [pre_Zu,fM,v_rat_1,v_rat_2,v_wval_wide]
 and_intros
 all_goals first
  | (intro p hp; cases hp; done)
  | (intros; assumption)
  | (intros; rw [v_wval_wide]; assumption)
  | (intros; apply v_wok_of; omega)
  | (intros; rw [v_wide_len]; omega)
  | omega
  | (unfold v_fit at *; omega)
theorem tt_Zu (p0:(Int×List Int)×(Int×List Int)) (p1:(Int×List Int)×(Int×List Int)) (hq:∀ p∈qre_Zu p0 p1,p):s_Zu p0 p1 = t_Zu p0 p1 := by
 obtain ⟨h1,h2,_⟩ := conj_of hq
 obtain ⟨p,rfl,a1,a2⟩ := h1.ex
 obtain ⟨q,rfl,b1,b2⟩ := h2.ex
 unfold s_Zu t_Zu v_radd v_rmk
 simp only [v_rat_1,v_rat_2,v_rv_rat,v_wval_wide]
 rw [v_qadd]

abbrev con_Zu:Con := ⟨P_Zu,R_Zu,fun x => qre_Zu x.1 x.2,fun x => t_Zu x.1 x.2⟩
theorem ok_Zu:ConOk Try.prog 87 con_Zu := okG k_Zu e_Zu hC_Zu fun x hx => tf_of (w_Zu_eq x.1 x.2 _) (d_Zu x.1 x.2 _ (pp_Zu x.1 x.2 hx) (tt_Zu x.1 x.2 hx))
def C_Z10:Cons := [(129,[],con_Z3),(128,[],con_Zj)]
theorem hC_Z10:ConsOk Try.prog C_Z10 := cC ok_Z3 <| cC ok_Zj <| ConsOk.nil
def w_Z10 (p0:gD) (p1:gD) (K:((Int×(List Int))×(Int×(List Int)))→Prop):Prop := ((v_wok p0.1) ∧((v_wok p1.2) ∧((v_wok p0.2) ∧((v_wok p1.1) ∧((v_wok (v_wide ((v_wval p0.1) * (v_wval p1.2)))) ∧((v_wok (v_wide ((v_wval p0.2) * (v_wval p1.1)))) ∧(((List.length (v_wide ((v_wval p0.1) * (v_wval p1.2))).2)≤400000000000) ∧(((List.length (v_wide ((v_wval p0.2) * (v_wval p1.1))).2)≤400000000000) ∧(((v_wval (v_wide ((v_wval p0.2) * (v_wval p1.1)))) ≠ zz0) ∧(K (v_rmk (v_wval (v_wide ((v_wval p0.1) * (v_wval p1.2)))) (v_wval (v_wide ((v_wval p0.2) * (v_wval p1.1)))))))))))))))
theorem w_Z10_eq (p0:gD) (p1:gD) (K:((Int×(List Int))×(Int×(List Int)))→Prop):tfn F_Z10 A_Z10 C_Z10 P_Z10 R_Z10 (p0,p1) K = w_Z10 p0 p1 K := by kernel_rfl
def s_Z10 (p0:gD) (p1:gD):((Int×(List Int))×(Int×(List Int))) := (v_rmk (v_wval (v_wide ((v_wval p0.1) * (v_wval p1.2)))) (v_wval (v_wide ((v_wval p0.2) * (v_wval p1.1)))))
abbrev pre_Z10 (p0:gD) (p1:gD):List Prop := [(v_wok p0.1),(v_wok p1.2),(v_wok p0.2),(v_wok p1.1),(v_wok (v_wide ((v_wval p0.1) * (v_wval p1.2)))),(v_wok (v_wide ((v_wval p0.2) * (v_wval p1.1)))),((List.length (v_wide ((v_wval p0.1) * (v_wval p1.2))).2)≤400000000000),((List.length (v_wide ((v_wval p0.2) * (v_wval p1.1))).2)≤400000000000),((v_wval (v_wide ((v_wval p0.2) * (v_wval p1.1)))) ≠ (0:Int))]
theorem d_Z10 (p0:gD) (p1:gD) (K:((Int×(List Int))×(Int×(List Int)))→Prop) (hp:∀ p∈pre_Z10 p0 p1,p) (h:K (s_Z10 p0 p1)):w_Z10 p0 p1 K := by
 unfold w_Z10
 unfold s_Z10 at h
 obtain ⟨hp0,hp1,hp2,hp3,hp4,hp5,hp6,hp7,hp8,_⟩ := conj_of hp
 exact ⟨(hp0),(hp1),(hp2),(hp3),(hp4),(hp5),(hp6),(hp7),(hp8),h⟩
abbrev t_Z10 (p0:(Int×List Int)×(Int×List Int)) (p1:(Int×List Int)×(Int×List Int)):(Int×List Int)×(Int×List Int) := v_rdiv p0 p1
abbrev qre_Z10 (p0:(Int×List Int)×(Int×List Int)) (p1:(Int×List Int)×(Int×List Int)):List Prop := [v_rok p0,v_rok p1,v_rv p1 ≠ 0]
theorem pp_Z10 (p0:(Int×List Int)×(Int×List Int)) (p1:(Int×List Int)×(Int×List Int)) (hq:∀ p∈qre_Z10 p0 p1,p):∀ p∈pre_Z10 p0 p1,p := by
 obtain ⟨h1,h2,h3,_⟩ := conj_of hq
 obtain ⟨p,rfl,a1,a2⟩ := h1.ex
 obtain ⟨q,rfl,b1,b2⟩ := h2.ex
 rw [v_rv_rat] at h3
 have hn:q.num ≠ 0 := fun e => h3 (Rat.num_eq_zero.1 e)
 have m3 := v_dl_mul p.num q.den
 have m4 := v_dl_mul p.den q.num
 have hne:(p.den:Int) * q.num ≠ 0 := Int.mul_ne_zero (v_den_ne p) hn
 simp only [pre_Z10,fM,v_rat_1,v_rat_2,v_wval_wide]
 and_intros
 all_goals first
  | (intro p hp; cases hp; done)
  | (intros; assumption)
  | (intros; rw [v_wval_wide]; assumption)
  | (intros; apply v_wok_of; omega)
  | (intros; rw [v_wide_len]; omega)
  | omega
  | (unfold v_fit at *; omega)
theorem tt_Z10 (p0:(Int×List Int)×(Int×List Int)) (p1:(Int×List Int)×(Int×List Int)) (hq:∀ p∈qre_Z10 p0 p1,p):s_Z10 p0 p1 = t_Z10 p0 p1 := by
 obtain ⟨h1,h2,h3,_⟩ := conj_of hq
 obtain ⟨p,rfl,a1,a2⟩ := h1.ex
 obtain ⟨q,rfl,b1,b2⟩ := h2.ex
 rw [v_rv_rat] at h3
 have hn:q.num ≠ 0 := fun e => h3 (Rat.num_eq_zero.1 e)
 unfold s_Z10 t_Z10 v_rdiv v_rmk
 simp only [v_rat_1,v_rat_2,v_rv_rat,v_wval_wide]
 rw [v_qdiv p q hn]

abbrev con_Z10:Con := ⟨P_Z10,R_Z10,fun x => qre_Z10 x.1 x.2,fun x => t_Z10 x.1 x.2⟩
theorem ok_Z10:ConOk Try.prog 88 con_Z10 := okG k_Z10 e_Z10 hC_Z10 fun x hx => tf_of (w_Z10_eq x.1 x.2 _) (d_Z10 x.1 x.2 _ (pp_Z10 x.1 x.2 hx) (tt_Z10 x.1 x.2 hx))
def C_Z2:Cons := [(84,[],con_Zq),(85,[],con_Zz),(86,[],con_Zt),(87,[],con_Zu),(88,[],con_Z10)]
theorem hC_Z2:ConsOk Try.prog C_Z2 := cC ok_Zq <| cC ok_Zz <| cC ok_Zt <| cC ok_Zu <| cC ok_Z10 <| ConsOk.nil
abbrev q0_Z2 (p0:gC) (y1:(Int×(Int×((List Int)×(Int×(List Int)))))) := (p0.getD y1.1.toNat (zz0,zz0))
def w_Z2 (p0:gC) (p1:Int) (K:((Int×(List Int))×(Int×(List Int)))→Prop):Prop := ((zz0≤(wi ((p0.length:Int) - zz1))) ∧(((wi ((p0.length:Int) - zz1)) < (p0.length:Int)) ∧((v_fit (p0.getD (Int.toNat (wi ((p0.length:Int) - zz1))) (zz0,zz0)).1) ∧(∃ n0,(loopP (fun (y1:(Int×(Int×((List Int)×(Int×(List Int)))))) k2 => ((((decide (y1.1 ≥ zz0))=true) →((zz0≤y1.1) ∧((y1.1 < (p0.length:Int)) ∧((v_fit (q0_Z2 p0 y1).1) ∧((v_fit (q0_Z2 p0 y1).2) ∧((v_fit (wi ((q0_Z2 p0 y1).2 + p1))) ∧(((wi ((q0_Z2 p0 y1).2 + p1)) ≠ zz0) ∧((v_rok (v_rint (q0_Z2 p0 y1).1)) ∧((v_rok (v_rmk (q0_Z2 p0 y1).2 (wi ((q0_Z2 p0 y1).2 + p1)))) ∧((v_rok ((y1.2.1,y1.2.2.1),y1.2.2.2)) ∧((v_rok (v_rmul (v_rint (q0_Z2 p0 y1).1) (v_rmk (q0_Z2 p0 y1).2 (wi ((q0_Z2 p0 y1).2 + p1))))) ∧((v_rok (v_rint (q0_Z2 p0 y1).1)) ∧((v_rok (v_radd ((y1.2.1,y1.2.2.1),y1.2.2.2) (v_rmul (v_rint (q0_Z2 p0 y1).1) (v_rmk (q0_Z2 p0 y1).2 (wi ((q0_Z2 p0 y1).2 + p1)))))) ∧((v_rok ((y1.2.1,y1.2.2.1),y1.2.2.2)) ∧((v_rok (v_rmk (q0_Z2 p0 y1).2 (wi ((q0_Z2 p0 y1).2 + p1)))) ∧((v_rok (v_rint (q0_Z2 p0 y1).1)) ∧((v_rok (v_rmul ((y1.2.1,y1.2.2.1),y1.2.2.2) (v_rmk (q0_Z2 p0 y1).2 (wi ((q0_Z2 p0 y1).2 + p1))))) ∧((v_rok (v_rmul (v_rint (q0_Z2 p0 y1).1) (v_radd ((y1.2.1,y1.2.2.1),y1.2.2.2) (v_rmul (v_rint (q0_Z2 p0 y1).1) (v_rmk (q0_Z2 p0 y1).2 (wi ((q0_Z2 p0 y1).2 + p1))))))) ∧((v_rok (v_radd (v_rint (q0_Z2 p0 y1).1) (v_rmul ((y1.2.1,y1.2.2.1),y1.2.2.2) (v_rmk (q0_Z2 p0 y1).2 (wi ((q0_Z2 p0 y1).2 + p1)))))) ∧(((v_rv (v_radd (v_rint (q0_Z2 p0 y1).1) (v_rmul ((y1.2.1,y1.2.2.1),y1.2.2.2) (v_rmk (q0_Z2 p0 y1).2 (wi ((q0_Z2 p0 y1).2 + p1)))))) ≠ 0) ∧(k2 ((wi (y1.1 - zz1)),((v_rdiv (v_rmul (v_rint (q0_Z2 p0 y1).1) (v_radd ((y1.2.1,y1.2.2.1),y1.2.2.2) (v_rmul (v_rint (q0_Z2 p0 y1).1) (v_rmk (q0_Z2 p0 y1).2 (wi ((q0_Z2 p0 y1).2 + p1)))))) (v_radd (v_rint (q0_Z2 p0 y1).1) (v_rmul ((y1.2.1,y1.2.2.1),y1.2.2.2) (v_rmk (q0_Z2 p0 y1).2 (wi ((q0_Z2 p0 y1).2 + p1)))))).1.1,((v_rdiv (v_rmul (v_rint (q0_Z2 p0 y1).1) (v_radd ((y1.2.1,y1.2.2.1),y1.2.2.2) (v_rmul (v_rint (q0_Z2 p0 y1).1) (v_rmk (q0_Z2 p0 y1).2 (wi ((q0_Z2 p0 y1).2 + p1)))))) (v_radd (v_rint (q0_Z2 p0 y1).1) (v_rmul ((y1.2.1,y1.2.2.1),y1.2.2.2) (v_rmk (q0_Z2 p0 y1).2 (wi ((q0_Z2 p0 y1).2 + p1)))))).1.2,(v_rdiv (v_rmul (v_rint (q0_Z2 p0 y1).1) (v_radd ((y1.2.1,y1.2.2.1),y1.2.2.2) (v_rmul (v_rint (q0_Z2 p0 y1).1) (v_rmk (q0_Z2 p0 y1).2 (wi ((q0_Z2 p0 y1).2 + p1)))))) (v_radd (v_rint (q0_Z2 p0 y1).1) (v_rmul ((y1.2.1,y1.2.2.1),y1.2.2.2) (v_rmk (q0_Z2 p0 y1).2 (wi ((q0_Z2 p0 y1).2 + p1)))))).2)))))))))))))))))))))))) ∧(((decide (y1.1 ≥ zz0))=false) →(K ((y1.2.1,y1.2.2.1),y1.2.2.2))))) n0 ((wi ((p0.length:Int) - zz2)),((v_rint (p0.getD (Int.toNat (wi ((p0.length:Int) - zz1))) (zz0,zz0)).1).1.1,((v_rint (p0.getD (Int.toNat (wi ((p0.length:Int) - zz1))) (zz0,zz0)).1).1.2,(v_rint (p0.getD (Int.toNat (wi ((p0.length:Int) - zz1))) (zz0,zz0)).1).2))))))))
theorem w_Z2_eq (p0:gC) (p1:Int) (K:((Int×(List Int))×(Int×(List Int)))→Prop):tfn F_Z2 A_Z2 C_Z2 P_Z2 R_Z2 (p0,p1) K = w_Z2 p0 p1 K := by kernel_rfl
def st_Z2_0 (p0:gC) (p1:Int) (y0:(Int×(Int×((List Int)×(Int×(List Int)))))):(Int×(Int×((List Int)×(Int×(List Int))))) ⊕ ((Int×(List Int))×(Int×(List Int))) := (cond (decide (y0.1 ≥ 0)) (Sum.inl ((IntKind.i64.wrap (y0.1 - 1)),((v_rdiv (v_rmul (v_rint (p0.getD y0.1.toNat (0,0)).1) (v_radd ((y0.2.1,y0.2.2.1),y0.2.2.2) (v_rmul (v_rint (p0.getD y0.1.toNat (0,0)).1) (v_rmk (p0.getD y0.1.toNat (0,0)).2 (IntKind.i64.wrap ((p0.getD y0.1.toNat (0,0)).2 + p1)))))) (v_radd (v_rint (p0.getD y0.1.toNat (0,0)).1) (v_rmul ((y0.2.1,y0.2.2.1),y0.2.2.2) (v_rmk (p0.getD y0.1.toNat (0,0)).2 (IntKind.i64.wrap ((p0.getD y0.1.toNat (0,0)).2 + p1)))))).1.1,((v_rdiv (v_rmul (v_rint (p0.getD y0.1.toNat (0,0)).1) (v_radd ((y0.2.1,y0.2.2.1),y0.2.2.2) (v_rmul (v_rint (p0.getD y0.1.toNat (0,0)).1) (v_rmk (p0.getD y0.1.toNat (0,0)).2 (IntKind.i64.wrap ((p0.getD y0.1.toNat (0,0)).2 + p1)))))) (v_radd (v_rint (p0.getD y0.1.toNat (0,0)).1) (v_rmul ((y0.2.1,y0.2.2.1),y0.2.2.2) (v_rmk (p0.getD y0.1.toNat (0,0)).2 (IntKind.i64.wrap ((p0.getD y0.1.toNat (0,0)).2 + p1)))))).1.2,(v_rdiv (v_rmul (v_rint (p0.getD y0.1.toNat (0,0)).1) (v_radd ((y0.2.1,y0.2.2.1),y0.2.2.2) (v_rmul (v_rint (p0.getD y0.1.toNat (0,0)).1) (v_rmk (p0.getD y0.1.toNat (0,0)).2 (IntKind.i64.wrap ((p0.getD y0.1.toNat (0,0)).2 + p1)))))) (v_radd (v_rint (p0.getD y0.1.toNat (0,0)).1) (v_rmul ((y0.2.1,y0.2.2.1),y0.2.2.2) (v_rmk (p0.getD y0.1.toNat (0,0)).2 (IntKind.i64.wrap ((p0.getD y0.1.toNat (0,0)).2 + p1)))))).2)))) (Sum.inr ((y0.2.1,y0.2.2.1),y0.2.2.2)))
abbrev sp_Z2_0 (p0:gC) (p1:Int) (y0:(Int×(Int×((List Int)×(Int×(List Int)))))):List Prop := [(((decide (y0.1 ≥ 0))=true)→((0:Int)≤y0.1)),(((decide (y0.1 ≥ 0))=true)→(y0.1 < (p0.length:Int))),(((decide (y0.1 ≥ 0))=true)→(v_fit (p0.getD y0.1.toNat (0,0)).1)),(((decide (y0.1 ≥ 0))=true)→(v_fit (p0.getD y0.1.toNat (0,0)).2)),(((decide (y0.1 ≥ 0))=true)→(v_fit (IntKind.i64.wrap ((p0.getD y0.1.toNat (0,0)).2 + p1)))),(((decide (y0.1 ≥ 0))=true)→((IntKind.i64.wrap ((p0.getD y0.1.toNat (0,0)).2 + p1)) ≠ (0:Int))),(((decide (y0.1 ≥ 0))=true)→(v_rok (v_rint (p0.getD y0.1.toNat (0,0)).1))),(((decide (y0.1 ≥ 0))=true)→(v_rok (v_rmk (p0.getD y0.1.toNat (0,0)).2 (IntKind.i64.wrap ((p0.getD y0.1.toNat (0,0)).2 + p1))))),(((decide (y0.1 ≥ 0))=true)→(v_rok ((y0.2.1,y0.2.2.1),y0.2.2.2))),(((decide (y0.1 ≥ 0))=true)→(v_rok (v_rmul (v_rint (p0.getD y0.1.toNat (0,0)).1) (v_rmk (p0.getD y0.1.toNat (0,0)).2 (IntKind.i64.wrap ((p0.getD y0.1.toNat (0,0)).2 + p1)))))),(((decide (y0.1 ≥ 0))=true)→(v_rok (v_radd ((y0.2.1,y0.2.2.1),y0.2.2.2) (v_rmul (v_rint (p0.getD y0.1.toNat (0,0)).1) (v_rmk (p0.getD y0.1.toNat (0,0)).2 (IntKind.i64.wrap ((p0.getD y0.1.toNat (0,0)).2 + p1))))))),(((decide (y0.1 ≥ 0))=true)→(v_rok (v_rmul ((y0.2.1,y0.2.2.1),y0.2.2.2) (v_rmk (p0.getD y0.1.toNat (0,0)).2 (IntKind.i64.wrap ((p0.getD y0.1.toNat (0,0)).2 + p1)))))),(((decide (y0.1 ≥ 0))=true)→(v_rok (v_rmul (v_rint (p0.getD y0.1.toNat (0,0)).1) (v_radd ((y0.2.1,y0.2.2.1),y0.2.2.2) (v_rmul (v_rint (p0.getD y0.1.toNat (0,0)).1) (v_rmk (p0.getD y0.1.toNat (0,0)).2 (IntKind.i64.wrap ((p0.getD y0.1.toNat (0,0)).2 + p1)))))))),(((decide (y0.1 ≥ 0))=true)→(v_rok (v_radd (v_rint (p0.getD y0.1.toNat (0,0)).1) (v_rmul ((y0.2.1,y0.2.2.1),y0.2.2.2) (v_rmk (p0.getD y0.1.toNat (0,0)).2 (IntKind.i64.wrap ((p0.getD y0.1.toNat (0,0)).2 + p1))))))),(((decide (y0.1 ≥ 0))=true)→((v_rv (v_radd (v_rint (p0.getD y0.1.toNat (0,0)).1) (v_rmul ((y0.2.1,y0.2.2.1),y0.2.2.2) (v_rmk (p0.getD y0.1.toNat (0,0)).2 (IntKind.i64.wrap ((p0.getD y0.1.toNat (0,0)).2 + p1)))))) ≠ 0))]
def s_Z2 (p0:gC) (p1:Int):((Int×(List Int))×(Int×(List Int))) := (lpv (((0:Int),[]),((0:Int),[])) (st_Z2_0 p0 p1) ((IntKind.i64.wrap ((p0.length:Int) - 2)),((v_rint (p0.getD (Int.toNat (IntKind.i64.wrap ((p0.length:Int) - 1))) (0,0)).1).1.1,((v_rint (p0.getD (Int.toNat (IntKind.i64.wrap ((p0.length:Int) - 1))) (0,0)).1).1.2,(v_rint (p0.getD (Int.toNat (IntKind.i64.wrap ((p0.length:Int) - 1))) (0,0)).1).2))))
abbrev pre_Z2 (p0:gC) (p1:Int):List Prop := [((0:Int)≤(IntKind.i64.wrap ((p0.length:Int) - 1))),((IntKind.i64.wrap ((p0.length:Int) - 1)) < (p0.length:Int)),(v_fit (p0.getD (Int.toNat (IntKind.i64.wrap ((p0.length:Int) - 1))) (0,0)).1),(OkL (st_Z2_0 p0 p1) (sp_Z2_0 p0 p1) ((IntKind.i64.wrap ((p0.length:Int) - 2)),((v_rint (p0.getD (Int.toNat (IntKind.i64.wrap ((p0.length:Int) - 1))) (0,0)).1).1.1,((v_rint (p0.getD (Int.toNat (IntKind.i64.wrap ((p0.length:Int) - 1))) (0,0)).1).1.2,(v_rint (p0.getD (Int.toNat (IntKind.i64.wrap ((p0.length:Int) - 1))) (0,0)).1).2))))]
theorem d_Z2 (p0:gC) (p1:Int) (K:((Int×(List Int))×(Int×(List Int)))→Prop) (hp:∀ p∈pre_Z2 p0 p1,p) (h:K (s_Z2 p0 p1)):w_Z2 p0 p1 K := by
 unfold w_Z2
 unfold s_Z2 at h
 obtain ⟨hp0,hp1,hp2,hp3,_⟩ := conj_of hp
 exact ⟨(hp0),(hp1),(hp2),(loop_gen (hp3) h (fun y0 k0 hp h => by
 unfold st_Z2_0 at h; obtain ⟨hp0,hp1,hp2,hp3,hp4,hp5,hp6,hp7,hp8,hp9,hp10,hp11,hp12,hp13,hp14,_⟩ := conj_of hp
 exact (br' h (fun e1 h => ⟨(hp0 e1),(hp1 e1),(hp2 e1),(hp3 e1),(hp4 e1),(hp5 e1),(hp6 e1),(hp7 e1),(hp8 e1),(hp9 e1),(hp6 e1),(hp10 e1),(hp8 e1),(hp7 e1),(hp6 e1),(hp11 e1),(hp12 e1),(hp13 e1),(hp14 e1),h⟩)
  (fun e1 h => h))))⟩
theorem v_step_d {c r t u:Rat} (hu:u ≠ 0) (hd:c * u + r * t ≠ 0):c + r * (t / u) ≠ 0 := by
 intro h
 apply hd
 have h1:t / u * u = t := Rat.div_mul_cancel hu
 generalize t / u = w at *
 grind
theorem v_step_e {c r t u:Rat} (hu:u ≠ 0) (hd:c * u + r * t ≠ 0):(c * (r + c * (t / u))) / (c + r * (t / u))=c * (r * u + c * t) / (c * u + r * t) := by
 have hy := v_step_d hu hd
 have h1:t / u * u = t := Rat.div_mul_cancel hu
 generalize t / u = w at *
 have h2:(c * (r + c * w)) / (c + r * w) * (c + r * w)=c * (r + c * w) := Rat.div_mul_cancel hy
 have h3:c * (r * u + c * t) / (c * u + r * t) * (c * u + r * t)=c * (r * u + c * t) := Rat.div_mul_cancel hd
 generalize (c * (r + c * w)) / (c + r * w)=a at *
 generalize c * (r * u + c * t) / (c * u + r * t)=b at *
 have h4:a * (c * u + r * t)=b * (c * u + r * t) := by rw [h3,← h1]; grind
 have h5:(a - b) * (c * u + r * t)=0 := by grind
 rcases Rat.mul_eq_zero.1 h5 with h | h
 ·grind
 ·exact (hd h).elim
theorem v_getD_mem {α:Type} {l:List α} {d:α} {n:Nat} (h:n < l.length):l.getD n d∈l := by
 rw [List.getD_eq_getElem?_getD,List.getElem?_eq_getElem h]; exact List.getElem_mem h
/-- A round of the reference. -/
theorem v_rstep {c t s:Int} {r:Rat} (hs:1≤s∧s≤20) (hc:1≤c∧c≤20) (ht:0≤t∧t≤10) (h1:1≤r) (hb:v_rb 12800000 r) :
  v_rok (v_rint c)∧v_rok (v_rmk t (t + s))∧v_rok (v_rat r)∧v_rok (v_rmul (v_rint c) (v_rmk t (t + s)))∧v_rok (v_radd (v_rat r) (v_rmul (v_rint c) (v_rmk t (t + s))))∧v_rok (v_rmul (v_rat r) (v_rmk t (t + s)))∧v_rok (v_rmul (v_rint c) (v_radd (v_rat r) (v_rmul (v_rint c) (v_rmk t (t + s)))))∧v_rok (v_radd (v_rint c) (v_rmul (v_rat r) (v_rmk t (t + s))))∧v_rv (v_radd (v_rint c) (v_rmul (v_rat r) (v_rmk t (t + s)))) ≠ 0 ∧
  v_rdiv (v_rmul (v_rint c) (v_radd (v_rat r) (v_rmul (v_rint c) (v_rmk t (t + s))))) (v_radd (v_rint c) (v_rmul (v_rat r) (v_rmk t (t + s))))=v_rat (v_step s (c,t) r) := by
 have bc:v_rb 20 (c:Rat) := v_rb_int (by omega) (by omega)
 have bt:v_rb 40 ((t:Rat) / ((t + s:Int):Rat)) := v_rb_div (by omega) (by omega) (by omega)
 have b1 := v_rb_mul bc bt
 have b2 := v_rb_add hb b1
 have b3 := v_rb_mul hb bt
 have b4 := v_rb_mul bc b2
 have b5 := v_rb_add bc b3
 have hu:((t + s:Int):Rat) ≠ 0 := v_rcast_ne (by omega)
 have hd := v_step_den (s := s) (x := (c,t)) (r := r) (by omega) (show 0 < c by omega) ht.1 (by grind)
 have hd' : (c:Rat) * ((t + s:Int):Rat) + r * (t:Rat) ≠ 0 := fun e => by rw [e] at hd; exact absurd hd (by decide)
 unfold v_rdiv v_rmul v_radd v_rint v_rmk
 simp only [v_rv_rat]
 refine ⟨bc.ok (by decide),bt.ok (by decide),hb.ok (by decide),b1.ok (by decide),b2.ok (by decide),b3.ok (by decide),b4.ok (by decide),b5.ok (by decide),v_step_d hu hd',?_⟩
 rw [v_step_e hu hd']
 rfl
theorem v_resp_rb {s:Int} (hs:v_sok s) {l:List (Int×Int)} (hne:l ≠ []) (hk:∀ x∈l,v_lok x) (hl:l.length≤3):v_rb 12800000 (v_resp s l) := by
 have h2 := v_resp_le20 (s := s) (by omega) hne hk
 have h1 := v_resp_1le (s := s) (by omega) hne hk
 have h3 := v_resp_parts hs hne hk
 have h4:(v_frac (v_resp s l)).2≤640000 := by
  have:(800:Int) ^ (l.length - 1)≤640000 := by
   match l.length - 1,(show l.length - 1≤2 by omega) with
   | 0,_ | 1,_ | 2,_ => decide
  omega
 have hp := v_frac_pos (v_resp s l)
 have h5 := v_rle_frac.1 h2
 have h6 := v_rle_frac.1 h1
 have e4:v_frac 20 = (20,1) := rfl
 have e5:v_frac 1 = (1,1) := rfl
 rw [e4] at h5
 rw [e5] at h6
 simp only at h5 h6
 unfold v_frac at *
 simp only at *
 exact ⟨by omega,by omega⟩
def v_fl (q:Rat):Int×(List Int×(Int×List Int)) := ((v_rat q).1.1,(v_rat q).1.2,(v_rat q).2)
theorem l_Z2_0 (p0:gC) (p1:Int) (hm:v_mok p0) (hs:v_sok p1):OkL (st_Z2_0 p0 p1) (sp_Z2_0 p0 p1) (IntKind.i64.wrap ((p0.length:Int) - 2),((v_rint (p0.getD (IntKind.i64.wrap ((p0.length:Int) - 1)).toNat (0,0)).1).1.1,((v_rint (p0.getD (IntKind.i64.wrap ((p0.length:Int) - 1)).toNat (0,0)).1).1.2,(v_rint (p0.getD (IntKind.i64.wrap ((p0.length:Int) - 1)).toNat (0,0)).1).2))) ∧
  lpv ((0,[]),(0,[])) (st_Z2_0 p0 p1) (IntKind.i64.wrap ((p0.length:Int) - 2),((v_rint (p0.getD (IntKind.i64.wrap ((p0.length:Int) - 1)).toNat (0,0)).1).1.1,((v_rint (p0.getD (IntKind.i64.wrap ((p0.length:Int) - 1)).toNat (0,0)).1).1.2,(v_rint (p0.getD (IntKind.i64.wrap ((p0.length:Int) - 1)).toNat (0,0)).1).2)))=v_rat (v_resp p1 p0) := by
 have hl := hm.len
 have hne := hm.ne
 have h0:0 < p0.length := List.length_pos_iff.2 hne
 rw [show IntKind.i64.wrap ((p0.length:Int) - 1)=((p0.length - 1:Nat):Int) by rw [wrap_id (by omega) (by omega)]; omega,
  show IntKind.i64.wrap ((p0.length:Int) - 2)=((p0.length - 1:Nat):Int) - 1 by rw [wrap_id (by omega) (by omega)]; omega,Int.toNat_natCast]
 have main := @down_is (Int×(List Int×(Int×List Int))) (Int×(Int×(List Int×(Int×List Int)))) ((Int×List Int)×(Int×List Int)) ((0,[]),(0,[])) (st_Z2_0 p0 p1) (sp_Z2_0 p0 p1) (fun i t => (i,t)) (p0.length - 1)
  (fun j t => t = v_fl (v_resp p1 (p0.drop j))) (fun _ _ => v_rat (v_resp p1 p0)) (by omega) ?_ ?_ (v_fl (((p0.getD (p0.length - 1) (0,0)).1:Int):Rat)) ?_
 ·exact main
 ·rintro t rfl
  simp only [sp_Z2_0,st_Z2_0,fM,show decide ((-1:Int) ≥ 0)=false from rfl,cond_false,List.drop_zero]
  refine ⟨?_,rfl⟩
  and_intros
  all_goals first
   | (intro h; cases h; done)
   | (intro p hp; cases hp)
 ·rintro j t hj rfl
  have hd:decide ((j:Int) ≥ 0)=true := decide_eq_true (by omega)
  have hw:IntKind.i64.wrap ((j:Int) - 1)=(j:Int) - 1 := wrap_id (by omega) (by omega)
  have hx:v_lok (p0.getD j (0,0)) := hm.ok _ (v_getD_mem (by omega))
  have hc := hx.c
  have ht := hx.t
  have hw2:IntKind.i64.wrap ((p0.getD j (0,0)).2 + p1)=(p0.getD j (0,0)).2 + p1 := wrap_id (by omega) (by omega)
  have hk:∀ x∈p0.drop (j + 1),v_lok x := fun x hx => hm.ok x (List.mem_of_mem_drop hx)
  have hn2:p0.drop (j + 1) ≠ [] := fun e => by have := congrArg List.length e; simp at this; omega
  have hb := v_resp_rb hs hn2 hk (by simp; omega)
  have h1 := v_resp_1le (s := p1) (by omega) hn2 hk
  have hdr:p0.drop j = p0.getD j (0,0) :: p0.drop (j + 1) := drop_getD (0,0) (by omega)
  obtain ⟨k1,k2,k3,k4,k5,k6,k7,k8,k9,e⟩ := v_rstep hs hc ht h1 hb
  simp only [sp_Z2_0,st_Z2_0,fM,hd,cond_true,Int.toNat_natCast,hw,hw2]
  have ef:((v_fl (v_resp p1 (p0.drop (j + 1)))).1,(v_fl (v_resp p1 (p0.drop (j + 1)))).2.1,(v_fl (v_resp p1 (p0.drop (j + 1)))).2.2)=v_fl (v_resp p1 (p0.drop (j + 1))) := rfl
  have eg:(((v_fl (v_resp p1 (p0.drop (j + 1)))).1,(v_fl (v_resp p1 (p0.drop (j + 1)))).2.1),(v_fl (v_resp p1 (p0.drop (j + 1)))).2.2)=v_rat (v_resp p1 (p0.drop (j + 1))) := rfl
  rw [eg]
  refine ⟨?_,.inl ⟨v_fl (v_resp p1 (p0.drop j)),?_,rfl,trivial⟩⟩
  ·and_intros
   all_goals first
    | (intro p hp; cases hp; done)
    | (intros; assumption)
    | (intros; unfold v_fit; omega)
    | (intros; omega)
  ·rw [e,hdr,v_resp_c p1 _ hn2]; rfl
 ·rw [show p0.drop (p0.length - 1)=[p0.getD (p0.length - 1) (0,0)] by
   rw [drop_getD (0,0) (show p0.length - 1 < p0.length by omega),List.drop_of_length_le (by omega)]]
  rfl
abbrev t_Z2 (p0:gC) (p1:Int):(Int×List Int)×(Int×List Int) := v_rat (v_resp p1 p0)
abbrev qre_Z2 (p0:gC) (p1:Int):List Prop := [v_mok p0,v_sok p1]
theorem pp_Z2 (p0:gC) (p1:Int) (hq:∀ p∈qre_Z2 p0 p1,p):∀ p∈pre_Z2 p0 p1,p := by
 obtain ⟨hm,hs,_⟩ := conj_of hq
 have hl := hm.len
 have hne := hm.ne
 have h0:0 < p0.length := List.length_pos_iff.2 hne
 have hw:IntKind.i64.wrap ((p0.length:Int) - 1)=((p0.length - 1:Nat):Int) := by rw [wrap_id (by omega) (by omega)]; omega
 have hx:v_lok (p0.getD (p0.length - 1) (0,0)) := hm.ok _ (v_getD_mem (by omega))
 simp only [pre_Z2,fM,hw,Int.toNat_natCast]
 exact ⟨by omega,by omega,by have := hx.c; unfold v_fit; omega,(by have h := (l_Z2_0 p0 p1 hm hs).1; simp only [hw,Int.toNat_natCast] at h; exact h),(by intro p hp; cases hp)⟩
theorem tt_Z2 (p0:gC) (p1:Int) (hq:∀ p∈qre_Z2 p0 p1,p):s_Z2 p0 p1 = t_Z2 p0 p1 := by
 obtain ⟨hm,hs,_⟩ := conj_of hq
 unfold s_Z2 t_Z2
 exact (l_Z2_0 p0 p1 hm hs).2

abbrev con_Z2:Con := ⟨P_Z2,R_Z2,fun x => qre_Z2 x.1 x.2,fun x => t_Z2 x.1 x.2⟩
theorem ok_Z2:ConOk Try.prog 20 con_Z2 := okG k_Z2 e_Z2 hC_Z2 fun x hx => tf_of (w_Z2_eq x.1 x.2 _) (d_Z2 x.1 x.2 _ (pp_Z2 x.1 x.2 hx) (tt_Z2 x.1 x.2 hx))
def C_Z11:Cons := [(84,[],con_Zq),(86,[],con_Zt)]
theorem hC_Z11:ConsOk Try.prog C_Z11 := cC ok_Zq <| cC ok_Zt <| ConsOk.nil
def w_Z11 (p0:gD) (K:((Int×(List Int))×(Int×(List Int)))→Prop):Prop := ((v_fit (1000:Int)) ∧((v_rok p0) ∧((v_rok (v_rint (1000:Int))) ∧(K (v_rmul p0 (v_rint (1000:Int)))))))
theorem w_Z11_eq (p0:gD) (K:((Int×(List Int))×(Int×(List Int)))→Prop):tfn F_Z11 A_Z11 C_Z11 P_Z11 R_Z11 p0 K = w_Z11 p0 K := by kernel_rfl
def s_Z11 (p0:gD):((Int×(List Int))×(Int×(List Int))) := (v_rmul p0 (v_rint (1000:Int)))
abbrev pre_Z11 (p0:gD):List Prop := [(v_fit (1000:Int)),(v_rok p0),(v_rok (v_rint (1000:Int)))]
theorem d_Z11 (p0:gD) (K:((Int×(List Int))×(Int×(List Int)))→Prop) (hp:∀ p∈pre_Z11 p0,p) (h:K (s_Z11 p0)):w_Z11 p0 K := by
 unfold w_Z11
 unfold s_Z11 at h
 obtain ⟨hp0,hp1,hp2,_⟩ := conj_of hp
 exact ⟨(hp0),(hp1),(hp2),h⟩
/-- 1000 times a number. -/
def v_thou (p:(Int×List Int)×(Int×List Int)):(Int×List Int)×(Int×List Int) := v_rat (v_rv p * ((1000:Int):Rat))
abbrev t_Z11 (p0:(Int×List Int)×(Int×List Int)):(Int×List Int)×(Int×List Int) := v_thou p0
abbrev qre_Z11 (p0:(Int×List Int)×(Int×List Int)):List Prop := [v_rok p0]
theorem pp_Z11 (p0:(Int×List Int)×(Int×List Int)) (hq:∀ p∈qre_Z11 p0,p):∀ p∈pre_Z11 p0,p := by
 obtain ⟨h1,_⟩ := conj_of hq
 have k1:v_rok (v_rint 1000) := (v_rb_int (A := 1000) (by decide) (by decide)).ok (by decide)
 simp only [pre_Z11,fM]
 and_intros
 all_goals first
  | (intro p hp; cases hp; done)
  | (intros; assumption)
  | (intros; rw [v_wval_wide]; assumption)
  | (intros; apply v_wok_of; omega)
  | (intros; rw [v_wide_len]; omega)
  | omega
  | (unfold v_fit at *; omega)
theorem tt_Z11 (p0:(Int×List Int)×(Int×List Int)) (_hq:∀ p∈qre_Z11 p0,p):s_Z11 p0 = t_Z11 p0 := by
 unfold s_Z11 t_Z11 v_rmul v_rint v_thou
 rw [v_rv_rat]

abbrev con_Z11:Con := ⟨P_Z11,R_Z11,fun x => qre_Z11 x,fun x => t_Z11 x⟩
theorem ok_Z11:ConOk Try.prog 104 con_Z11 := okG k_Z11 e_Z11 hC_Z11 fun x hx => tf_of (w_Z11_eq x _) (d_Z11 x _ (pp_Z11 x hx) (tt_Z11 x hx))
/-- Whether a datum is valid,and data. -/
structure v_dok (d:Int×Int×Int):Prop where
 s:v_sok d.1
 lo:0≤d.2.1
 le:d.2.1≤d.2.2
 hi:d.2.2≤100000
structure v_dat (l:gB):Prop where
 len:l.length≤6
 ok:∀ x∈l,v_dok x
/-- A response of a valid model. -/
structure v_rsm (f:gG):Prop where
 d:0 < f.2∧f.2≤512000000
 n:0 < f.1∧f.1≤20 * f.2
def C_Z12:Cons := [(129,[],con_Z3),(134,[],con_Zx)]
theorem hC_Z12:ConsOk Try.prog C_Z12 := cC ok_Z3 <| cC ok_Zx <| ConsOk.nil
def w_Z12 (p0:gD) (p1:gD) (K:Int→Prop):Prop := ((v_wok p0.1) ∧((v_wok p1.2) ∧((v_wok p1.1) ∧((v_wok p0.2) ∧((v_wok (v_wide ((v_wval p0.1) * (v_wval p1.2)))) ∧((v_wok (v_wide ((v_wval p1.1) * (v_wval p0.2)))) ∧(K (v_cmp (v_wval (v_wide ((v_wval p0.1) * (v_wval p1.2)))) (v_wval (v_wide ((v_wval p1.1) * (v_wval p0.2))))))))))))
theorem w_Z12_eq (p0:gD) (p1:gD) (K:Int→Prop):tfn F_Z12 A_Z12 C_Z12 P_Z12 R_Z12 (p0,p1) K = w_Z12 p0 p1 K := by kernel_rfl
def s_Z12 (p0:gD) (p1:gD):Int := (v_cmp (v_wval (v_wide ((v_wval p0.1) * (v_wval p1.2)))) (v_wval (v_wide ((v_wval p1.1) * (v_wval p0.2)))))
abbrev pre_Z12 (p0:gD) (p1:gD):List Prop := [(v_wok p0.1),(v_wok p1.2),(v_wok p1.1),(v_wok p0.2),(v_wok (v_wide ((v_wval p0.1) * (v_wval p1.2)))),(v_wok (v_wide ((v_wval p1.1) * (v_wval p0.2))))]
theorem d_Z12 (p0:gD) (p1:gD) (K:Int→Prop) (hp:∀ p∈pre_Z12 p0 p1,p) (h:K (s_Z12 p0 p1)):w_Z12 p0 p1 K := by
 unfold w_Z12
 unfold s_Z12 at h
 obtain ⟨hp0,hp1,hp2,hp3,hp4,hp5,_⟩ := conj_of hp
 exact ⟨(hp0),(hp1),(hp2),(hp3),(hp4),(hp5),h⟩
abbrev t_Z12 (p0:(Int×List Int)×(Int×List Int)) (p1:(Int×List Int)×(Int×List Int)):Int := v_rcmp p0 p1
abbrev qre_Z12 (p0:(Int×List Int)×(Int×List Int)) (p1:(Int×List Int)×(Int×List Int)):List Prop := [v_rok p0,v_rok p1]
theorem pp_Z12 (p0:(Int×List Int)×(Int×List Int)) (p1:(Int×List Int)×(Int×List Int)) (hq:∀ p∈qre_Z12 p0 p1,p):∀ p∈pre_Z12 p0 p1,p := by
 obtain ⟨h1,h2,_⟩ := conj_of hq
 obtain ⟨p,rfl,a1,a2⟩ := h1.ex
 obtain ⟨q,rfl,b1,b2⟩ := h2.ex
 have m1 := v_dl_mul p.num q.den
 have m2 := v_dl_mul q.num p.den
 simp only [pre_Z12,fM,v_rat_1,v_rat_2,v_wval_wide]
 and_intros
 all_goals first
  | (intro p hp; cases hp; done)
  | (intros; assumption)
  | (intros; rw [v_wval_wide]; assumption)
  | (intros; apply v_wok_of; omega)
  | (intros; rw [v_wide_len]; omega)
  | omega
  | (unfold v_fit at *; omega)
theorem tt_Z12 (p0:(Int×List Int)×(Int×List Int)) (p1:(Int×List Int)×(Int×List Int)) (hq:∀ p∈qre_Z12 p0 p1,p):s_Z12 p0 p1 = t_Z12 p0 p1 := by
 obtain ⟨h1,h2,_⟩ := conj_of hq
 obtain ⟨p,rfl,a1,a2⟩ := h1.ex
 obtain ⟨q,rfl,b1,b2⟩ := h2.ex
 unfold s_Z12 t_Z12 v_rcmp v_qcmp
 simp only [v_rat_1,v_rat_2,v_rv_rat,v_wval_wide]

abbrev con_Z12:Con := ⟨P_Z12,R_Z12,fun x => qre_Z12 x.1 x.2,fun x => t_Z12 x.1 x.2⟩
theorem ok_Z12:ConOk Try.prog 105 con_Z12 := okG k_Z12 e_Z12 hC_Z12 fun x hx => tf_of (w_Z12_eq x.1 x.2 _) (d_Z12 x.1 x.2 _ (pp_Z12 x.1 x.2 hx) (tt_Z12 x.1 x.2 hx))
theorem v_resp_big {s:Int} (hs:v_sok s) {l:List (Int×Int)} (h:v_mok l):v_rb 10240000000 (v_resp s l) := by
 have := v_resp_small hs h
 unfold v_frac at this
 simp only at this
 exact ⟨by omega,by omega⟩
theorem v_resp_rok {s:Int} (hs:v_sok s) {l:List (Int×Int)} (h:v_mok l):v_rok (v_rat (v_resp s l)) := (v_resp_big hs h).ok (by decide)
def C_Zv:Cons := [(141,[],con_Zo)]
theorem hC_Zv:ConsOk Try.prog C_Zv := cC ok_Zo <| ConsOk.nil
def w_Zv (p0:gD) (K:((Int×(List Int))×(Int×(List Int)))→Prop):Prop := ((v_wok p0.1) ∧(K ((v_wide (-(v_wval p0.1))),p0.2)))
theorem w_Zv_eq (p0:gD) (K:((Int×(List Int))×(Int×(List Int)))→Prop):tfn F_Zv A_Zv C_Zv P_Zv R_Zv p0 K = w_Zv p0 K := by kernel_rfl
def s_Zv (p0:gD):((Int×(List Int))×(Int×(List Int))) := ((v_wide (-(v_wval p0.1))),p0.2)
abbrev pre_Zv (p0:gD):List Prop := [(v_wok p0.1)]
theorem d_Zv (p0:gD) (K:((Int×(List Int))×(Int×(List Int)))→Prop) (hp:∀ p∈pre_Zv p0,p) (h:K (s_Zv p0)):w_Zv p0 K := by
 unfold w_Zv
 unfold s_Zv at h
 obtain ⟨hp0,_⟩ := conj_of hp
 exact ⟨(hp0),h⟩
abbrev t_Zv (p0:(Int×List Int)×(Int×List Int)):(Int×List Int)×(Int×List Int) := v_rneg p0
abbrev qre_Zv (p0:(Int×List Int)×(Int×List Int)):List Prop := [v_rok p0]
theorem pp_Zv (p0:(Int×List Int)×(Int×List Int)) (hq:∀ p∈qre_Zv p0,p):∀ p∈pre_Zv p0,p := by
 obtain ⟨h1,_⟩ := conj_of hq
 obtain ⟨q,rfl,d1,d2⟩ := h1.ex
 simp only [pre_Zv,fM,v_rat_1,v_rat_2]
 and_intros
 all_goals first
  | (intro p hp; cases hp; done)
  | (intros; assumption)
  | (intros; rw [v_wval_wide]; assumption)
  | (intros; apply v_wok_of; omega)
  | (intros; rw [v_wide_len]; omega)
  | omega
  | (unfold v_fit at *; omega)
theorem tt_Zv (p0:(Int×List Int)×(Int×List Int)) (hq:∀ p∈qre_Zv p0,p):s_Zv p0 = t_Zv p0 := by
 obtain ⟨h1,_⟩ := conj_of hq
 obtain ⟨q,rfl,d1,d2⟩ := h1.ex
 unfold s_Zv t_Zv v_rneg
 rw [v_rat_1,v_rat_2,v_rv_rat,v_wval_wide]
 unfold v_rat
 rw [Rat.neg_num,Rat.neg_den]

abbrev con_Zv:Con := ⟨P_Zv,R_Zv,fun x => qre_Zv x,fun x => t_Zv x⟩
theorem ok_Zv:ConOk Try.prog 118 con_Zv := okG k_Zv e_Zv hC_Zv fun x hx => tf_of (w_Zv_eq x _) (d_Zv x _ (pp_Zv x hx) (tt_Zv x hx))
def C_Z15:Cons := [(118,[],con_Zv),(87,[],con_Zu)]
theorem hC_Z15:ConsOk Try.prog C_Z15 := cC ok_Zv <| cC ok_Zu <| ConsOk.nil
def w_Z15 (p0:gD) (p1:gD) (K:((Int×(List Int))×(Int×(List Int)))→Prop):Prop := ((v_rok p1) ∧((v_rok p0) ∧((v_rok (v_rneg p1)) ∧(K (v_radd p0 (v_rneg p1))))))
theorem w_Z15_eq (p0:gD) (p1:gD) (K:((Int×(List Int))×(Int×(List Int)))→Prop):tfn F_Z15 A_Z15 C_Z15 P_Z15 R_Z15 (p0,p1) K = w_Z15 p0 p1 K := by kernel_rfl
def s_Z15 (p0:gD) (p1:gD):((Int×(List Int))×(Int×(List Int))) := (v_radd p0 (v_rneg p1))
abbrev pre_Z15 (p0:gD) (p1:gD):List Prop := [(v_rok p1),(v_rok p0),(v_rok (v_rneg p1))]
theorem d_Z15 (p0:gD) (p1:gD) (K:((Int×(List Int))×(Int×(List Int)))→Prop) (hp:∀ p∈pre_Z15 p0 p1,p) (h:K (s_Z15 p0 p1)):w_Z15 p0 p1 K := by
 unfold w_Z15
 unfold s_Z15 at h
 obtain ⟨hp0,hp1,hp2,_⟩ := conj_of hp
 exact ⟨(hp0),(hp1),(hp2),h⟩
abbrev t_Z15 (p0:(Int×List Int)×(Int×List Int)) (p1:(Int×List Int)×(Int×List Int)):(Int×List Int)×(Int×List Int) := v_rsub p0 p1
abbrev qre_Z15 (p0:(Int×List Int)×(Int×List Int)) (p1:(Int×List Int)×(Int×List Int)):List Prop := [v_rok p0,v_rok p1]
theorem pp_Z15 (p0:(Int×List Int)×(Int×List Int)) (p1:(Int×List Int)×(Int×List Int)) (hq:∀ p∈qre_Z15 p0 p1,p):∀ p∈pre_Z15 p0 p1,p := by
 obtain ⟨h1,h2,_⟩ := conj_of hq
 obtain ⟨p,rfl,a1,a2⟩ := h1.ex
 obtain ⟨q,rfl,b1,b2⟩ := h2.ex
 have hr:v_rok (v_rneg (v_rat q)) := by unfold v_rneg; rw [v_rv_rat]; exact v_rok_of (by rw [Rat.neg_num,v_dl_neg]; exact b1) (by rw [Rat.neg_den]; exact b2)
 simp only [pre_Z15,fM]
 and_intros
 all_goals first
  | (intro p hp; cases hp; done)
  | (intros; assumption)
  | (intros; rw [v_wval_wide]; assumption)
  | (intros; apply v_wok_of; omega)
  | (intros; rw [v_wide_len]; omega)
  | omega
  | (unfold v_fit at *; omega)
theorem tt_Z15 (p0:(Int×List Int)×(Int×List Int)) (p1:(Int×List Int)×(Int×List Int)) (hq:∀ p∈qre_Z15 p0 p1,p):s_Z15 p0 p1 = t_Z15 p0 p1 := by
 obtain ⟨h1,h2,_⟩ := conj_of hq
 obtain ⟨p,rfl,a1,a2⟩ := h1.ex
 obtain ⟨q,rfl,b1,b2⟩ := h2.ex
 unfold s_Z15 t_Z15 v_rsub v_radd v_rneg
 rw [v_rv_rat,v_rv_rat,v_rv_rat,Rat.sub_eq_add_neg]

abbrev con_Z15:Con := ⟨P_Z15,R_Z15,fun x => qre_Z15 x.1 x.2,fun x => t_Z15 x.1 x.2⟩
theorem ok_Z15:ConOk Try.prog 117 con_Z15 := okG k_Z15 e_Z15 hC_Z15 fun x hx => tf_of (w_Z15_eq x.1 x.2 _) (d_Z15 x.1 x.2 _ (pp_Z15 x.1 x.2 hx) (tt_Z15 x.1 x.2 hx))
def C_Z13:Cons := [(139,[],con_Z19)]
theorem hC_Z13:ConsOk Try.prog C_Z13 := cC ok_Z19 <| ConsOk.nil
def w_Z13 (p0:gD) (K:Int→Prop):Prop := (K p0.1.1)
theorem w_Z13_eq (p0:gD) (K:Int→Prop):tfn F_Z13 A_Z13 C_Z13 P_Z13 R_Z13 p0 K = w_Z13 p0 K := by kernel_rfl
def s_Z13 (p0:gD):Int := p0.1.1
abbrev pre_Z13 (_p0:gD):List Prop := []
theorem d_Z13 (p0:gD) (K:Int→Prop) (_hp:∀ p∈pre_Z13 p0,p) (h:K (s_Z13 p0)):w_Z13 p0 K := by
 unfold w_Z13
 unfold s_Z13 at h
 exact h
abbrev t_Z13 (p0:(Int×List Int)×(Int×List Int)):Int := v_rsgn p0
abbrev qre_Z13 (p0:(Int×List Int)×(Int×List Int)):List Prop := [v_rok p0]
theorem pp_Z13 (p0:(Int×List Int)×(Int×List Int)) (hq:∀ p∈qre_Z13 p0,p):∀ p∈pre_Z13 p0,p := by
 obtain ⟨h1,_⟩ := conj_of hq
 simp only [pre_Z13,fM]
 and_intros
 all_goals first
  | (intro p hp; cases hp; done)
  | (intros; assumption)
  | (intros; rw [v_wval_wide]; assumption)
  | (intros; apply v_wok_of; omega)
  | (intros; rw [v_wide_len]; omega)
  | omega
  | (unfold v_fit at *; omega)
theorem tt_Z13 (p0:(Int×List Int)×(Int×List Int)) (hq:∀ p∈qre_Z13 p0,p):s_Z13 p0 = t_Z13 p0 := by
 obtain ⟨h1,_⟩ := conj_of hq
 obtain ⟨q,rfl,d1,d2⟩ := h1.ex
 unfold s_Z13 t_Z13 v_rsgn
 rw [v_rat_1,v_rv_rat,v_wide_1]

abbrev con_Z13:Con := ⟨P_Z13,R_Z13,fun x => qre_Z13 x,fun x => t_Z13 x⟩
theorem ok_Z13:ConOk Try.prog 113 con_Z13 := okG k_Z13 e_Z13 hC_Z13 fun x hx => tf_of (w_Z13_eq x _) (d_Z13 x _ (pp_Z13 x hx) (tt_Z13 x hx))
def C_Za:Cons := [(15,ownMark,con_Z1f),(20,[],con_Z2),(117,[],con_Z15),(113,[],con_Z13),(118,[],con_Zv),(104,[],con_Z11),(84,[],con_Zq),(105,[],con_Z12)]
theorem hC_Za:ConsOk Try.prog C_Za := ConsOk.consO ok_Z1f <| cC ok_Z2 <| cC ok_Z15 <| cC ok_Z13 <| cC ok_Zv <| cC ok_Z11 <| cC ok_Zq <| cC ok_Z12 <| ConsOk.nil
abbrev q0_Za (p0:gC) (p1:Int) (y1:gE) := (v_rsub (v_rat (v_resp p1 (List.set (([]:List (Int×Int)) ++ p0) y1.1.toNat ((20:Int),(List.getD (([]:List (Int×Int)) ++ p0) y1.1.toNat (zz0,zz0)).2)))) (v_rat (v_resp p1 (List.set (([]:List (Int×Int)) ++ p0) y1.1.toNat (zz1,(List.getD (([]:List (Int×Int)) ++ p0) y1.1.toNat (zz0,zz0)).2)))))
def w_Za (p0:gC) (p1:Int) (p2:Int) (K:(List Int)→Prop):Prop := (∃ n0,(loopP (fun (y1:gE) k2 => ((((decide (y1.1 < (p0.length:Int)))=true) →(((((List.length ([]:List (Int×Int))) + p0.length) * 16)≤140737488355328) ∧(((((List.length ([]:List (Int×Int))) + p0.length) * 16)≤140737488355328) ∧((zz0≤y1.1) ∧((y1.1 < (((List.length (([]:List (Int×Int)) ++ p0)):Nat):Int)) ∧((zz0≤y1.1) ∧((y1.1 < (((List.length (([]:List (Int×Int)) ++ p0)):Nat):Int)) ∧((v_mok (List.set (([]:List (Int×Int)) ++ p0) y1.1.toNat ((20:Int),(List.getD (([]:List (Int×Int)) ++ p0) y1.1.toNat (zz0,zz0)).2))) ∧((v_sok p1) ∧((v_mok (List.set (([]:List (Int×Int)) ++ p0) y1.1.toNat (zz1,(List.getD (([]:List (Int×Int)) ++ p0) y1.1.toNat (zz0,zz0)).2))) ∧((v_sok p1) ∧((v_rok (v_rat (v_resp p1 (List.set (([]:List (Int×Int)) ++ p0) y1.1.toNat ((20:Int),(List.getD (([]:List (Int×Int)) ++ p0) y1.1.toNat (zz0,zz0)).2))))) ∧((v_rok (v_rat (v_resp p1 (List.set (([]:List (Int×Int)) ++ p0) y1.1.toNat (zz1,(List.getD (([]:List (Int×Int)) ++ p0) y1.1.toNat (zz0,zz0)).2))))) ∧((v_rok (q0_Za p0 p1 y1)) ∧((((decide ((v_rsgn (q0_Za p0 p1 y1)) < zz0))=true) →((v_rok (q0_Za p0 p1 y1)) ∧((v_rok (v_rneg (q0_Za p0 p1 y1))) ∧((v_fit p2) ∧((v_rok (v_thou (v_rneg (q0_Za p0 p1 y1)))) ∧((v_rok (v_rint p2)) ∧((((decide ((v_rcmp (v_thou (v_rneg (q0_Za p0 p1 y1))) (v_rint p2)) > zz0))=true) →((((y1.2.length + (List.length (y1.1 :: ([]:List Int)))) * 8)≤140737488355328) ∧(k2 ((wi (y1.1 + zz1)),(y1.2 ++ (y1.1 :: ([]:List Int))))))) ∧(((decide ((v_rcmp (v_thou (v_rneg (q0_Za p0 p1 y1))) (v_rint p2)) > zz0))=false) →(k2 ((wi (y1.1 + zz1)),y1.2)))))))))) ∧(((decide ((v_rsgn (q0_Za p0 p1 y1)) < zz0))=false) →((v_rok (q0_Za p0 p1 y1)) ∧((v_fit p2) ∧((v_rok (v_thou (q0_Za p0 p1 y1))) ∧((v_rok (v_rint p2)) ∧((((decide ((v_rcmp (v_thou (q0_Za p0 p1 y1)) (v_rint p2)) > zz0))=true) →((((y1.2.length + (List.length (y1.1 :: ([]:List Int)))) * 8)≤140737488355328) ∧(k2 ((wi (y1.1 + zz1)),(y1.2 ++ (y1.1 :: ([]:List Int))))))) ∧(((decide ((v_rcmp (v_thou (q0_Za p0 p1 y1)) (v_rint p2)) > zz0))=false) →(k2 ((wi (y1.1 + zz1)),y1.2)))))))))))))))))))))))) ∧(((decide (y1.1 < (p0.length:Int)))=false) →(K y1.2)))) n0 (zz0,([]:List Int))))
theorem w_Za_eq (p0:gC) (p1:Int) (p2:Int) (K:(List Int)→Prop):tfn F_Za A_Za C_Za P_Za R_Za (p0,p1,p2) K = w_Za p0 p1 p2 K := by kernel_rfl
def st_Za_0 (p0:gC) (p1:Int) (p2:Int) (y0:gE):(Int×(List Int)) ⊕ (List Int) := (cond (decide (y0.1 < (p0.length:Int))) (cond (decide ((v_rsgn (v_rsub (v_rat (v_resp p1 (List.set (([]:List (Int×Int)) ++ p0) y0.1.toNat ((20:Int),(List.getD (([]:List (Int×Int)) ++ p0) y0.1.toNat (0,0)).2)))) (v_rat (v_resp p1 (List.set (([]:List (Int×Int)) ++ p0) y0.1.toNat ((1:Int),(List.getD (([]:List (Int×Int)) ++ p0) y0.1.toNat (0,0)).2)))))) < 0)) (cond (decide ((v_rcmp (v_thou (v_rneg (v_rsub (v_rat (v_resp p1 (List.set (([]:List (Int×Int)) ++ p0) y0.1.toNat ((20:Int),(List.getD (([]:List (Int×Int)) ++ p0) y0.1.toNat (0,0)).2)))) (v_rat (v_resp p1 (List.set (([]:List (Int×Int)) ++ p0) y0.1.toNat ((1:Int),(List.getD (([]:List (Int×Int)) ++ p0) y0.1.toNat (0,0)).2))))))) (v_rint p2)) > 0)) (Sum.inl ((IntKind.i64.wrap (y0.1 + 1)),(y0.2 ++ (y0.1 :: ([]:List Int))))) (Sum.inl ((IntKind.i64.wrap (y0.1 + 1)),y0.2))) (cond (decide ((v_rcmp (v_thou (v_rsub (v_rat (v_resp p1 (List.set (([]:List (Int×Int)) ++ p0) y0.1.toNat ((20:Int),(List.getD (([]:List (Int×Int)) ++ p0) y0.1.toNat (0,0)).2)))) (v_rat (v_resp p1 (List.set (([]:List (Int×Int)) ++ p0) y0.1.toNat ((1:Int),(List.getD (([]:List (Int×Int)) ++ p0) y0.1.toNat (0,0)).2)))))) (v_rint p2)) > 0)) (Sum.inl ((IntKind.i64.wrap (y0.1 + 1)),(y0.2 ++ (y0.1 :: ([]:List Int))))) (Sum.inl ((IntKind.i64.wrap (y0.1 + 1)),y0.2)))) (Sum.inr y0.2))
abbrev sp_Za_0 (p0:gC) (p1:Int) (p2:Int) (y0:gE):List Prop := [(((decide (y0.1 < (p0.length:Int)))=true)→((((List.length ([]:List (Int×Int))) + p0.length) * 16)≤140737488355328)),(((decide (y0.1 < (p0.length:Int)))=true)→((0:Int)≤y0.1)),(((decide (y0.1 < (p0.length:Int)))=true)→(y0.1 < (((List.length (([]:List (Int×Int)) ++ p0)):Nat):Int))),(((decide (y0.1 < (p0.length:Int)))=true)→(v_mok (List.set (([]:List (Int×Int)) ++ p0) y0.1.toNat ((20:Int),(List.getD (([]:List (Int×Int)) ++ p0) y0.1.toNat (0,0)).2)))),(((decide (y0.1 < (p0.length:Int)))=true)→(v_sok p1)),(((decide (y0.1 < (p0.length:Int)))=true)→(v_mok (List.set (([]:List (Int×Int)) ++ p0) y0.1.toNat ((1:Int),(List.getD (([]:List (Int×Int)) ++ p0) y0.1.toNat (0,0)).2)))),(((decide (y0.1 < (p0.length:Int)))=true)→(v_rok (v_rat (v_resp p1 (List.set (([]:List (Int×Int)) ++ p0) y0.1.toNat ((20:Int),(List.getD (([]:List (Int×Int)) ++ p0) y0.1.toNat (0,0)).2)))))),(((decide (y0.1 < (p0.length:Int)))=true)→(v_rok (v_rat (v_resp p1 (List.set (([]:List (Int×Int)) ++ p0) y0.1.toNat ((1:Int),(List.getD (([]:List (Int×Int)) ++ p0) y0.1.toNat (0,0)).2)))))),(((decide (y0.1 < (p0.length:Int)))=true)→(v_rok (v_rsub (v_rat (v_resp p1 (List.set (([]:List (Int×Int)) ++ p0) y0.1.toNat ((20:Int),(List.getD (([]:List (Int×Int)) ++ p0) y0.1.toNat (0,0)).2)))) (v_rat (v_resp p1 (List.set (([]:List (Int×Int)) ++ p0) y0.1.toNat ((1:Int),(List.getD (([]:List (Int×Int)) ++ p0) y0.1.toNat (0,0)).2))))))),(((decide (y0.1 < (p0.length:Int)))=true)→(((decide ((v_rsgn (v_rsub (v_rat (v_resp p1 (List.set (([]:List (Int×Int)) ++ p0) y0.1.toNat ((20:Int),(List.getD (([]:List (Int×Int)) ++ p0) y0.1.toNat (0,0)).2)))) (v_rat (v_resp p1 (List.set (([]:List (Int×Int)) ++ p0) y0.1.toNat ((1:Int),(List.getD (([]:List (Int×Int)) ++ p0) y0.1.toNat (0,0)).2)))))) < 0))=true)→(v_rok (v_rsub (v_rat (v_resp p1 (List.set (([]:List (Int×Int)) ++ p0) y0.1.toNat ((20:Int),(List.getD (([]:List (Int×Int)) ++ p0) y0.1.toNat (0,0)).2)))) (v_rat (v_resp p1 (List.set (([]:List (Int×Int)) ++ p0) y0.1.toNat ((1:Int),(List.getD (([]:List (Int×Int)) ++ p0) y0.1.toNat (0,0)).2)))))))),(((decide (y0.1 < (p0.length:Int)))=true)→(((decide ((v_rsgn (v_rsub (v_rat (v_resp p1 (List.set (([]:List (Int×Int)) ++ p0) y0.1.toNat ((20:Int),(List.getD (([]:List (Int×Int)) ++ p0) y0.1.toNat (0,0)).2)))) (v_rat (v_resp p1 (List.set (([]:List (Int×Int)) ++ p0) y0.1.toNat ((1:Int),(List.getD (([]:List (Int×Int)) ++ p0) y0.1.toNat (0,0)).2)))))) < 0))=true)→(v_rok (v_rneg (v_rsub (v_rat (v_resp p1 (List.set (([]:List (Int×Int)) ++ p0) y0.1.toNat ((20:Int),(List.getD (([]:List (Int×Int)) ++ p0) y0.1.toNat (0,0)).2)))) (v_rat (v_resp p1 (List.set (([]:List (Int×Int)) ++ p0) y0.1.toNat ((1:Int),(List.getD (([]:List (Int×Int)) ++ p0) y0.1.toNat (0,0)).2))))))))),(((decide (y0.1 < (p0.length:Int)))=true)→(((decide ((v_rsgn (v_rsub (v_rat (v_resp p1 (List.set (([]:List (Int×Int)) ++ p0) y0.1.toNat ((20:Int),(List.getD (([]:List (Int×Int)) ++ p0) y0.1.toNat (0,0)).2)))) (v_rat (v_resp p1 (List.set (([]:List (Int×Int)) ++ p0) y0.1.toNat ((1:Int),(List.getD (([]:List (Int×Int)) ++ p0) y0.1.toNat (0,0)).2)))))) < 0))=true)→(v_fit p2))),(((decide (y0.1 < (p0.length:Int)))=true)→(((decide ((v_rsgn (v_rsub (v_rat (v_resp p1 (List.set (([]:List (Int×Int)) ++ p0) y0.1.toNat ((20:Int),(List.getD (([]:List (Int×Int)) ++ p0) y0.1.toNat (0,0)).2)))) (v_rat (v_resp p1 (List.set (([]:List (Int×Int)) ++ p0) y0.1.toNat ((1:Int),(List.getD (([]:List (Int×Int)) ++ p0) y0.1.toNat (0,0)).2)))))) < 0))=true)→(v_rok (v_thou (v_rneg (v_rsub (v_rat (v_resp p1 (List.set (([]:List (Int×Int)) ++ p0) y0.1.toNat ((20:Int),(List.getD (([]:List (Int×Int)) ++ p0) y0.1.toNat (0,0)).2)))) (v_rat (v_resp p1 (List.set (([]:List (Int×Int)) ++ p0) y0.1.toNat ((1:Int),(List.getD (([]:List (Int×Int)) ++ p0) y0.1.toNat (0,0)).2)))))))))),(((decide (y0.1 < (p0.length:Int)))=true)→(((decide ((v_rsgn (v_rsub (v_rat (v_resp p1 (List.set (([]:List (Int×Int)) ++ p0) y0.1.toNat ((20:Int),(List.getD (([]:List (Int×Int)) ++ p0) y0.1.toNat (0,0)).2)))) (v_rat (v_resp p1 (List.set (([]:List (Int×Int)) ++ p0) y0.1.toNat ((1:Int),(List.getD (([]:List (Int×Int)) ++ p0) y0.1.toNat (0,0)).2)))))) < 0))=true)→(v_rok (v_rint p2)))),(((decide (y0.1 < (p0.length:Int)))=true)→(((decide ((v_rsgn (v_rsub (v_rat (v_resp p1 (List.set (([]:List (Int×Int)) ++ p0) y0.1.toNat ((20:Int),(List.getD (([]:List (Int×Int)) ++ p0) y0.1.toNat (0,0)).2)))) (v_rat (v_resp p1 (List.set (([]:List (Int×Int)) ++ p0) y0.1.toNat ((1:Int),(List.getD (([]:List (Int×Int)) ++ p0) y0.1.toNat (0,0)).2)))))) < 0))=true)→(((decide ((v_rcmp (v_thou (v_rneg (v_rsub (v_rat (v_resp p1 (List.set (([]:List (Int×Int)) ++ p0) y0.1.toNat ((20:Int),(List.getD (([]:List (Int×Int)) ++ p0) y0.1.toNat (0,0)).2)))) (v_rat (v_resp p1 (List.set (([]:List (Int×Int)) ++ p0) y0.1.toNat ((1:Int),(List.getD (([]:List (Int×Int)) ++ p0) y0.1.toNat (0,0)).2))))))) (v_rint p2)) > 0))=true)→(((y0.2.length + (List.length (y0.1 :: ([]:List Int)))) * 8)≤140737488355328)))),(((decide (y0.1 < (p0.length:Int)))=true)→(((decide ((v_rsgn (v_rsub (v_rat (v_resp p1 (List.set (([]:List (Int×Int)) ++ p0) y0.1.toNat ((20:Int),(List.getD (([]:List (Int×Int)) ++ p0) y0.1.toNat (0,0)).2)))) (v_rat (v_resp p1 (List.set (([]:List (Int×Int)) ++ p0) y0.1.toNat ((1:Int),(List.getD (([]:List (Int×Int)) ++ p0) y0.1.toNat (0,0)).2)))))) < 0))=false)→(v_rok (v_rsub (v_rat (v_resp p1 (List.set (([]:List (Int×Int)) ++ p0) y0.1.toNat ((20:Int),(List.getD (([]:List (Int×Int)) ++ p0) y0.1.toNat (0,0)).2)))) (v_rat (v_resp p1 (List.set (([]:List (Int×Int)) ++ p0) y0.1.toNat ((1:Int),(List.getD (([]:List (Int×Int)) ++ p0) y0.1.toNat (0,0)).2)))))))),(((decide (y0.1 < (p0.length:Int)))=true)→(((decide ((v_rsgn (v_rsub (v_rat (v_resp p1 (List.set (([]:List (Int×Int)) ++ p0) y0.1.toNat ((20:Int),(List.getD (([]:List (Int×Int)) ++ p0) y0.1.toNat (0,0)).2)))) (v_rat (v_resp p1 (List.set (([]:List (Int×Int)) ++ p0) y0.1.toNat ((1:Int),(List.getD (([]:List (Int×Int)) ++ p0) y0.1.toNat (0,0)).2)))))) < 0))=false)→(v_fit p2))),(((decide (y0.1 < (p0.length:Int)))=true)→(((decide ((v_rsgn (v_rsub (v_rat (v_resp p1 (List.set (([]:List (Int×Int)) ++ p0) y0.1.toNat ((20:Int),(List.getD (([]:List (Int×Int)) ++ p0) y0.1.toNat (0,0)).2)))) (v_rat (v_resp p1 (List.set (([]:List (Int×Int)) ++ p0) y0.1.toNat ((1:Int),(List.getD (([]:List (Int×Int)) ++ p0) y0.1.toNat (0,0)).2)))))) < 0))=false)→(v_rok (v_thou (v_rsub (v_rat (v_resp p1 (List.set (([]:List (Int×Int)) ++ p0) y0.1.toNat ((20:Int),(List.getD (([]:List (Int×Int)) ++ p0) y0.1.toNat (0,0)).2)))) (v_rat (v_resp p1 (List.set (([]:List (Int×Int)) ++ p0) y0.1.toNat ((1:Int),(List.getD (([]:List (Int×Int)) ++ p0) y0.1.toNat (0,0)).2))))))))),(((decide (y0.1 < (p0.length:Int)))=true)→(((decide ((v_rsgn (v_rsub (v_rat (v_resp p1 (List.set (([]:List (Int×Int)) ++ p0) y0.1.toNat ((20:Int),(List.getD (([]:List (Int×Int)) ++ p0) y0.1.toNat (0,0)).2)))) (v_rat (v_resp p1 (List.set (([]:List (Int×Int)) ++ p0) y0.1.toNat ((1:Int),(List.getD (([]:List (Int×Int)) ++ p0) y0.1.toNat (0,0)).2)))))) < 0))=false)→(v_rok (v_rint p2)))),(((decide (y0.1 < (p0.length:Int)))=true)→(((decide ((v_rsgn (v_rsub (v_rat (v_resp p1 (List.set (([]:List (Int×Int)) ++ p0) y0.1.toNat ((20:Int),(List.getD (([]:List (Int×Int)) ++ p0) y0.1.toNat (0,0)).2)))) (v_rat (v_resp p1 (List.set (([]:List (Int×Int)) ++ p0) y0.1.toNat ((1:Int),(List.getD (([]:List (Int×Int)) ++ p0) y0.1.toNat (0,0)).2)))))) < 0))=false)→(((decide ((v_rcmp (v_thou (v_rsub (v_rat (v_resp p1 (List.set (([]:List (Int×Int)) ++ p0) y0.1.toNat ((20:Int),(List.getD (([]:List (Int×Int)) ++ p0) y0.1.toNat (0,0)).2)))) (v_rat (v_resp p1 (List.set (([]:List (Int×Int)) ++ p0) y0.1.toNat ((1:Int),(List.getD (([]:List (Int×Int)) ++ p0) y0.1.toNat (0,0)).2)))))) (v_rint p2)) > 0))=true)→(((y0.2.length + (List.length (y0.1 :: ([]:List Int)))) * 8)≤140737488355328))))]
def s_Za (p0:gC) (p1:Int) (p2:Int):(List Int) := (lpv [] (st_Za_0 p0 p1 p2) ((0:Int),([]:List Int)))
abbrev pre_Za (p0:gC) (p1:Int) (p2:Int):List Prop := [(OkL (st_Za_0 p0 p1 p2) (sp_Za_0 p0 p1 p2) ((0:Int),([]:List Int)))]
theorem d_Za (p0:gC) (p1:Int) (p2:Int) (K:(List Int)→Prop) (hp:∀ p∈pre_Za p0 p1 p2,p) (h:K (s_Za p0 p1 p2)):w_Za p0 p1 p2 K := by
 unfold w_Za
 unfold s_Za at h
 obtain ⟨hp0,_⟩ := conj_of hp
 exact (loop_gen (hp0) h (fun y0 k0 hp h => by
 unfold st_Za_0 at h; obtain ⟨hp0,hp1,hp2,hp3,hp4,hp5,hp6,hp7,hp8,hp9,hp10,hp11,hp12,hp13,hp14,hp15,hp16,hp17,hp18,hp19,_⟩ := conj_of hp
 exact (br' h (fun e1 h => ⟨(hp0 e1),(hp0 e1),(hp1 e1),(hp2 e1),(hp1 e1),(hp2 e1),(hp3 e1),(hp4 e1),(hp5 e1),(hp4 e1),(hp6 e1),(hp7 e1),(hp8 e1),(br' h (fun e2 h => ⟨(hp9 e1 e2),(hp10 e1 e2),(hp11 e1 e2),(hp12 e1 e2),(hp13 e1 e2),(br' h (fun e3 h => ⟨(hp14 e1 e2 e3),h⟩)
  (fun e3 h => h))⟩)
  (fun e2 h => ⟨(hp15 e1 e2),(hp16 e1 e2),(hp17 e1 e2),(hp18 e1 e2),(br' h (fun e4 h => ⟨(hp19 e1 e2 e4),h⟩)
  (fun e4 h => h))⟩))⟩)
  (fun e1 h => h))))
/-- How the difference of two responses lies to the tolerance. -/
theorem v_sn_rat {p q:Rat} {t:Int}:((t:Rat) < (q - p) * ((1000:Int):Rat)) ↔ v_snb (v_frac p) (v_frac q) t = true := by
 unfold v_snb
 rw [decide_eq_true_eq]
 have h1:(0:Rat) < (((v_frac p).2:Int):Rat) := v_rpos (v_frac_pos p)
 have h2:(0:Rat) < (((v_frac q).2:Int):Rat) := v_rpos (v_frac_pos q)
 have h3 := Rat.mul_pos h1 h2
 have e1:(((v_frac p).1:Int):Rat)=p * (((v_frac p).2:Int):Rat) := v_qnum p
 have e2:(((v_frac q).1:Int):Rat)=q * (((v_frac q).2:Int):Rat) := v_qnum q
 rw [← Rat.intCast_lt_intCast,Rat.intCast_mul,Rat.intCast_mul,Rat.intCast_mul,Rat.intCast_sub,Rat.intCast_mul,Rat.intCast_mul,e1,e2,← Rat.mul_lt_mul_right h3]
 generalize (((v_frac p).2:Int):Rat)=a at *
 generalize (((v_frac q).2:Int):Rat)=b at *
 generalize ((1000:Int):Rat)=k
 have:(q - p) * k * (a * b)=(q * b * a - p * a * b) * k := by grind
 rw [this]
theorem l_Za_0 (p0:gC) (p1 p2:Int) (hm:v_mok p0) (hs:v_sok p1) (ht:0≤p2∧p2≤100000):OkL (st_Za_0 p0 p1 p2) (sp_Za_0 p0 p1 p2) (0,[])∧lpv [] (st_Za_0 p0 p1 p2) (0,[])=v_seen p0 p1 p2 := by
 have hl := hm.len
 refine @for_is (List Int) (Int×List Int) (List Int) [] (st_Za_0 p0 p1 p2) (sp_Za_0 p0 p1 p2) (fun i t => (i,t)) 0 p0.length (fun k t => t.length≤k) (fun k t => t ++ v_sel (v_sn p0 p1 p2) (List.range' k (p0.length - k))) (by omega) (by omega) ?_ ?_ [] (Nat.le_refl _)
 ·intro t _
  rw [Nat.sub_self]
  simp only [sp_Za_0,st_Za_0,fM,show decide ((p0.length:Int) < (p0.length:Int))=false from decide_eq_false (by omega),cond_false]
  refine ⟨?_,by show Sum.inr t = Sum.inr (t ++ []); rw [List.append_nil]⟩
  and_intros
  all_goals first
   | (intro h; cases h; done)
   | (intro p hp; cases hp)
 ·intro j t _ hj hlt
  have hd1:decide ((j:Int) < (p0.length:Int))=true := decide_eq_true (by omega)
  have hw1:IntKind.i64.wrap ((j:Int) + 1)=((j + 1:Nat):Int) := wrap_id (by omega) (by omega)
  obtain ⟨m1,m2⟩ := v_smd_ok hm hj
  have hle := v_smd_le hm hs hj
  have b1 := v_resp_big hs m1
  have b2 := v_resp_big hs m2
  have k1 := v_resp_rok hs m1
  have k2 := v_resp_rok hs m2
  have e2:v_sn p0 p1 p2 j = v_snb (v_frac (v_sq p0 p1 j 1)) (v_frac (v_sq p0 p1 j 20)) p2 := rfl
  rw [v_sel_step _ hj,e2]
  unfold v_sq at *
  have u1:p0.set j (1,(p0.getD j (0,0)).2)=v_smd p0 j 1 := rfl
  have u2:p0.set j (20,(p0.getD j (0,0)).2)=v_smd p0 j 20 := rfl
  simp only [sp_Za_0,st_Za_0,fM,hd1,cond_true,hw1,List.nil_append,Int.toNat_natCast,u1,u2]
  generalize v_resp p1 (v_smd p0 j 1)=a at *
  generalize v_resp p1 (v_smd p0 j 20)=b at *
  have r1:v_rsub (v_rat b) (v_rat a)=v_rat (b - a) := by unfold v_rsub; rw [v_rv_rat,v_rv_rat]
  have bd:v_rb 300000000000000000000 (b - a) := by rw [Rat.sub_eq_add_neg]; exact v_rb_le (v_rb_add b2 (v_rb_neg b1)) (by decide)
  have bt:v_rb 300000000000000000000000 ((b - a) * ((1000:Int):Rat)) := v_rb_le (v_rb_mul bd (v_rb_int (A := 1000) (by decide) (by decide))) (by decide)
  have r2:v_thou (v_rat (b - a))=v_rat ((b - a) * ((1000:Int):Rat)) := by unfold v_thou; rw [v_rv_rat]
  have sg:decide (v_rsgn (v_rat (b - a)) < 0)=false := by
   have h0:0≤b - a := by grind
   unfold v_rsgn
   rw [v_rv_rat]
   have := Int.sign_nonneg_iff.2 (Rat.num_nonneg.2 h0)
   exact decide_eq_false (by omega)
  have cm:decide (v_rcmp (v_rat ((b - a) * ((1000:Int):Rat))) (v_rint p2) > 0)=v_snb (v_frac a) (v_frac b) p2 := by
   unfold v_rcmp v_rint
   rw [v_rv_rat,v_rv_rat,Bool.eq_iff_iff,decide_eq_true_eq,← v_sn_rat]
   exact v_qcmp_gt
  have o1:v_rok (v_rat (b - a)) := bd.ok (by decide)
  have o2:v_rok (v_rat ((b - a) * ((1000:Int):Rat))) := bt.ok (by decide)
  have o3:v_rok (v_rint p2) := (v_rb_int (A := 100000) (by omega) (by decide)).ok (by decide)
  have o4:v_fit p2 := by unfold v_fit; omega
  simp only [r1,r2,sg,cm,cond_false]
  refine ⟨?_,?_⟩
  ·and_intros
   all_goals first
    | exact fun _ => m1
    | exact fun _ => m2
    | exact fun _ => hs
    | exact fun _ => k1
    | exact fun _ => k2
    | exact fun _ => o1
    | exact fun _ _ => o1
    | exact fun _ _ => o2
    | exact fun _ _ => o3
    | exact fun _ _ => o4
    | (intro p hp; cases hp; done)
    | (intro _ h; cases h; done)
    | (intros; simp only [List.length_cons,List.length_nil]; omega)
    | (intros; omega)
  ·cases v_snb (v_frac a) (v_frac b) p2
   ·exact .inl ⟨t,rfl,by omega,rfl⟩
   ·exact .inl ⟨t ++ [(j:Int)],rfl,by rw [List.length_append,List.length_singleton]; omega,by rw [List.append_assoc]; rfl⟩
abbrev t_Za (p0:gC) (p1:Int) (p2:Int):List Int := v_seen p0 p1 p2
abbrev qre_Za (p0:gC) (p1:Int) (p2:Int):List Prop := [v_mok p0,v_sok p1,0≤p2∧p2≤100000]
theorem pp_Za (p0:gC) (p1:Int) (p2:Int) (hq:∀ p∈qre_Za p0 p1 p2,p):∀ p∈pre_Za p0 p1 p2,p := by
 obtain ⟨h1,h2,h3,_⟩ := conj_of hq
 simp only [pre_Za,fM]
 exact ⟨(l_Za_0 p0 p1 p2 h1 h2 h3).1,(by intro p hp; cases hp)⟩
theorem tt_Za (p0:gC) (p1:Int) (p2:Int) (hq:∀ p∈qre_Za p0 p1 p2,p):s_Za p0 p1 p2 = t_Za p0 p1 p2 := by
 obtain ⟨h1,h2,h3,_⟩ := conj_of hq
 exact (l_Za_0 p0 p1 p2 h1 h2 h3).2

abbrev con_Za:Con := ⟨P_Za,R_Za,fun x => qre_Za x.1 x.2.1 x.2.2,fun x => t_Za x.1 x.2.1 x.2.2⟩
theorem ok_Za:ConOk Try.prog 59 con_Za := okG k_Za e_Za hC_Za fun x hx => tf_of (w_Za_eq x.1 x.2.1 x.2.2 _) (d_Za x.1 x.2.1 x.2.2 _ (pp_Za x.1 x.2.1 x.2.2 hx) (tt_Za x.1 x.2.1 x.2.2 hx))
def C_Zh:Cons := []
theorem hC_Zh:ConsOk Try.prog C_Zh := ConsOk.nil
def w_Zh (p0:gF) (p1:gF) (K:Bool→Prop):Prop := (((((p0.length:Int) != (p1.length:Int))=true) →(K false)) ∧((((p0.length:Int) != (p1.length:Int))=false) →(∃ n0,(loopP (fun (y1:Int) k2 => ((((decide (y1 < (p0.length:Int)))=true) →((zz0≤y1) ∧((y1 < (p0.length:Int)) ∧((zz0≤y1) ∧((y1 < (p1.length:Int)) ∧(((((p0.getD y1.toNat zz0) != (p1.getD y1.toNat zz0))=true) →(K false)) ∧((((p0.getD y1.toNat zz0) != (p1.getD y1.toNat zz0))=false) →(k2 (IntKind.i64.wrap (y1 + 1)))))))))) ∧(((decide (y1 < (p0.length:Int)))=false) →(K true)))) n0 zz0))))
theorem w_Zh_eq (p0:gF) (p1:gF) (K:Bool→Prop):tfn F_Zh A_Zh C_Zh P_Zh R_Zh (p0,p1) K = w_Zh p0 p1 K := by kernel_rfl
def st_Zh_0 (p0:gF) (p1:gF) (y1:Int):Int ⊕ Bool := (cond (decide (y1 < (p0.length:Int))) (cond ((p0.getD y1.toNat (0:Int)) != (p1.getD y1.toNat (0:Int))) (Sum.inr false) (Sum.inl (IntKind.i64.wrap (y1 + 1)))) (Sum.inr true))
abbrev sp_Zh_0 (p0:gF) (p1:gF) (y1:Int):List Prop := [(((decide (y1 < (p0.length:Int)))=true)→((0:Int)≤y1)),(((decide (y1 < (p0.length:Int)))=true)→(y1 < (p0.length:Int))),(((decide (y1 < (p0.length:Int)))=true)→(y1 < (p1.length:Int)))]
def s_Zh (p0:gF) (p1:gF):Bool := (cond ((p0.length:Int) != (p1.length:Int)) false (lpv false (st_Zh_0 p0 p1) (0:Int)))
abbrev pre_Zh (p0:gF) (p1:gF):List Prop := [((((p0.length:Int) != (p1.length:Int))=false)→(OkL (st_Zh_0 p0 p1) (sp_Zh_0 p0 p1) (0:Int)))]
theorem d_Zh (p0:gF) (p1:gF) (K:Bool→Prop) (hp:∀ p∈pre_Zh p0 p1,p) (h:K (s_Zh p0 p1)):w_Zh p0 p1 K := by
 unfold w_Zh
 unfold s_Zh at h
 obtain ⟨hp0,_⟩ := conj_of hp
 exact (br' h (fun e0 h => h)
  (fun e0 h => (loop_gen (hp0 e0) h (fun y1 k1 hp h => by
 unfold st_Zh_0 at h; obtain ⟨hp0,hp1,hp2,_⟩ := conj_of hp
 exact (br' h (fun e2 h => ⟨(hp0 e2),(hp1 e2),(hp0 e2),(hp2 e2),(br' h (fun e3 h => h)
  (fun e3 h => h))⟩)
  (fun e2 h => h))))))
theorem l_Zh_0 (p0 p1:gF) (hl:lenOk p0) (he:p0.length = p1.length):OkL (st_Zh_0 p0 p1) (sp_Zh_0 p0 p1) 0∧lpv false (st_Zh_0 p0 p1) 0 = v_scan (fun i x => cond (!((x == (p1.getD i.toNat 0)))) (some false) none) true 0 p0 := by
 refine scan_is p0 0 (fun i x => cond (!((x == (p1.getD i.toNat 0)))) (some false) none) true hl ?_ ?_
 ·refine ⟨by simp only [sp_Zh_0,fM,decide_eq_true_eq]; simp,by simp [st_Zh_0]⟩
 ·intro j hj
  have hj' : (j:Int) < p0.length := by omega
  refine ⟨by simp only [sp_Zh_0,fM,decide_eq_true_eq,Int.toNat_natCast]; simp <;> omega,?_⟩
  simp only [st_Zh_0,hj',decide_true,Int.toNat_natCast,cond_true,wrap_nat (show (j:Int)≤9223372036854775806 by unfold lenOk at hl; omega)]
  generalize p0.getD j 0 = x
  generalize p1.getD j 0 = z
  simp only [bne]
  cases (x == z) <;> rfl
abbrev t_Zh (p0 p1:gF):Bool := decide (p0 = p1)
abbrev qre_Zh (p0 _p1:gF):List Prop := [lenOk p0]
theorem pp_Zh (p0 p1:gF) (hq:∀ p∈qre_Zh p0 p1,p):∀ p∈pre_Zh p0 p1,p := by
 simp only [pre_Zh,fM]
 refine ⟨fun h => (l_Zh_0 p0 p1 (conj_of hq).1 ?_).1,by simp⟩
 have h' : (p0.length:Int)=p1.length := by simpa using h
 omega
theorem tt_Zh (p0 p1:gF) (hq:∀ p∈qre_Zh p0 p1,p):s_Zh p0 p1 = t_Zh p0 p1 := by
 unfold s_Zh t_Zh
 by_cases h:p0.length = p1.length
 ·rw [show ((p0.length:Int) != (p1.length:Int))=false by simp [h]]
  refine (l_Zh_0 p0 p1 (conj_of hq).1 h).2.trans ?_
  exact v_scan_eq 0 (fun x y => (x == y)) (fun x y => by by_cases h:x = y <;> simp [h]) p0 p1 h
 ·rw [show ((p0.length:Int) != (p1.length:Int))=true by simp; omega]
  have:p0 ≠ p1 := fun e => h (congrArg List.length e)
  simp [this]

abbrev con_Zh:Con := ⟨P_Zh,R_Zh,fun x => qre_Zh x.1 x.2,fun x => t_Zh x.1 x.2⟩
theorem ok_Zh:ConOk Try.prog 58 con_Zh := okG k_Zh e_Zh hC_Zh fun x hx => tf_of (w_Zh_eq x.1 x.2 _) (d_Zh x.1 x.2 _ (pp_Zh x.1 x.2 hx) (tt_Zh x.1 x.2 hx))
def C_Zn:Cons := []
theorem hC_Zn:ConsOk Try.prog C_Zn := ConsOk.nil
def w_Zn (p0:gF) (p1:Int) (K:Bool→Prop):Prop := (∃ n0,(loopP (fun (y1:Int) k2 => ((((decide (y1 < (p0.length:Int)))=true) →((zz0≤y1) ∧((y1 < (p0.length:Int)) ∧(((((p0.getD y1.toNat zz0) == p1)=true) →(K true)) ∧((((p0.getD y1.toNat zz0) == p1)=false) →(k2 (IntKind.i64.wrap (y1 + 1)))))))) ∧(((decide (y1 < (p0.length:Int)))=false) →(K false)))) n0 zz0))
theorem w_Zn_eq (p0:gF) (p1:Int) (K:Bool→Prop):tfn F_Zn A_Zn C_Zn P_Zn R_Zn (p0,p1) K = w_Zn p0 p1 K := by kernel_rfl
def st_Zn_0 (p0:gF) (p1:Int) (y0:Int):Int ⊕ Bool := (cond (decide (y0 < (p0.length:Int))) (cond ((p0.getD y0.toNat (0:Int)) == p1) (Sum.inr true) (Sum.inl (IntKind.i64.wrap (y0 + 1)))) (Sum.inr false))
abbrev sp_Zn_0 (p0:gF) (_p1:Int) (y0:Int):List Prop := [(((decide (y0 < (p0.length:Int)))=true)→((0:Int)≤y0)),(((decide (y0 < (p0.length:Int)))=true)→(y0 < (p0.length:Int)))]
def s_Zn (p0:gF) (p1:Int):Bool := (lpv false (st_Zn_0 p0 p1) (0:Int))
abbrev pre_Zn (p0:gF) (p1:Int):List Prop := [(OkL (st_Zn_0 p0 p1) (sp_Zn_0 p0 p1) (0:Int))]
theorem d_Zn (p0:gF) (p1:Int) (K:Bool→Prop) (hp:∀ p∈pre_Zn p0 p1,p) (h:K (s_Zn p0 p1)):w_Zn p0 p1 K := by
 unfold w_Zn
 unfold s_Zn at h
 obtain ⟨hp0,_⟩ := conj_of hp
 exact (loop_gen (hp0) h (fun y0 k0 hp h => by
 unfold st_Zn_0 at h; obtain ⟨hp0,hp1,_⟩ := conj_of hp
 exact (br' h (fun e1 h => ⟨(hp0 e1),(hp1 e1),(br' h (fun e2 h => h)
  (fun e2 h => h))⟩)
  (fun e1 h => h))))
theorem l_Zn_0 (p0:gF) (p1:Int) (hl:lenOk p0):OkL (st_Zn_0 p0 p1) (sp_Zn_0 p0 p1) 0∧lpv false (st_Zn_0 p0 p1) 0 = v_scan (fun _ x => cond (x == p1) (some true) none) false 0 p0 := by
 refine scan_is p0 0 (fun _ x => cond (x == p1) (some true) none) false hl ?_ ?_
 ·refine ⟨by simp only [sp_Zn_0,fM,decide_eq_true_eq]; simp,by simp [st_Zn_0]⟩
 ·intro j hj
  have hj' : (j:Int) < p0.length := by omega
  refine ⟨by simp only [sp_Zn_0,fM,decide_eq_true_eq,Int.toNat_natCast]; simp <;> omega,?_⟩
  simp only [st_Zn_0,hj',decide_true,Int.toNat_natCast,cond_true,wrap_nat (show (j:Int)≤9223372036854775806 by unfold lenOk at hl; omega)]
  generalize p0.getD j 0 = x
  cases (x == p1) <;> rfl
def v_has (p0:gF) (p1:Int):Bool := decide (p1∈p0)
abbrev t_Zn (p0:gF) (p1:Int):Bool := v_has p0 p1
abbrev qre_Zn (p0:gF) (_p1:Int):List Prop := [lenOk p0]
theorem pp_Zn (p0:gF) (p1:Int) (hq:∀ p∈qre_Zn p0 p1,p):∀ p∈pre_Zn p0 p1,p := by
 simp only [pre_Zn,fM]
 exact ⟨(l_Zn_0 p0 p1 (conj_of hq).1).1,by simp⟩
theorem tt_Zn (p0:gF) (p1:Int) (hq:∀ p∈qre_Zn p0 p1,p):s_Zn p0 p1 = t_Zn p0 p1 := by
 refine (l_Zn_0 p0 p1 (conj_of hq).1).2.trans ?_
 rw [v_scan_any]
 show _ = decide (p1∈p0)
 by_cases h:p1∈p0
 ·rw [decide_eq_true h,show p0.any (fun x => x == p1)=true from List.any_eq_true.2 ⟨p1,h,by simp⟩]; rfl
 ·rw [decide_eq_false h,show p0.any (fun x => x == p1)=false from List.any_eq_false.2 (fun x hx e => h (by rw [← (by simpa using e:x = p1)]; exact hx))]; rfl

abbrev con_Zn:Con := ⟨P_Zn,R_Zn,fun x => qre_Zn x.1 x.2,fun x => t_Zn x.1 x.2⟩
theorem ok_Zn:ConOk Try.prog 51 con_Zn := okG k_Zn e_Zn hC_Zn fun x hx => tf_of (w_Zn_eq x.1 x.2 _) (d_Zn x.1 x.2 _ (pp_Zn x.1 x.2 hx) (tt_Zn x.1 x.2 hx))
end Go.Proofs.Ytehblgccaiiikaa
