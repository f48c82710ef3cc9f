/- What the functions that MagnetCompensated reaches compute: contracts, each function once. No condition. -/
import Derived.Test.YtdkhhafmidokmaaWalkMagnetCompensatedA
import Derived.KernelRfl
namespace Go.Proofs.Ytdkhhafmidokmaa
open Go Go.Mx
set_option maxRecDepth 100000
set_option maxHeartbeats 4000000
def C_Z1:Cons := [(27,[],con_Zx),(66,[],con_Z7),(71,[],con_Z9),(86,[],con_Z6)]
theorem hC_Z1:ConsOk Try.prog C_Z1 := cC ok_Zx <| cC ok_Z7 <| cC ok_Z9 <| cC ok_Z6 <| ConsOk.nil
abbrev q3_Z1 (p0:(List (Int×(Int×(Int×(Int×Int)))))) (p1:(Int×(Int×(Int×(Int×(Int×(Int×(Int×(Int×Int))))))))) (p2:gF) (y4:(Int×(Int×Int))) := (List.drop (Int.toNat (p2.getD y4.1.toNat zz0)) (v_rmx p0 p1 zz0).1)
abbrev q0_Z1 (p0:(List (Int×(Int×(Int×(Int×Int)))))) (p1:(Int×(Int×(Int×(Int×(Int×(Int×(Int×(Int×Int))))))))) (p2:gF) (y4:(Int×(Int×Int))) := (List.take ((Int.toNat (p0.length:Int)) - (Int.toNat (p2.getD y4.1.toNat zz0))) (q3_Z1 p0 p1 p2 y4))
abbrev q1_Z1 (p0:(List (Int×(Int×(Int×(Int×Int)))))) (p1:(Int×(Int×(Int×(Int×(Int×(Int×(Int×(Int×Int))))))))) (p2:gF) (y4:(Int×(Int×Int))) := (List.getD (v_rmx p0 p1 zz0).1 (Int.toNat (p2.getD y4.1.toNat zz0)) (zz0,zz0))
abbrev q2_Z1 (p0:(List (Int×(Int×(Int×(Int×Int)))))) (p1:(Int×(Int×(Int×(Int×(Int×(Int×(Int×(Int×Int))))))))) (p2:gF) (y4:(Int×(Int×Int))) := ((p2.getD y4.1.toNat zz0) < (((v_rmx p0 p1 zz0).1.length:Nat):Int))
def w_Z1 (p0:(List (Int×(Int×(Int×(Int×Int)))))) (p1:(Int×(Int×(Int×(Int×(Int×(Int×(Int×(Int×Int))))))))) (p2:gF) (K:((Int×Int)×Int)→Prop):Prop := ((lenOk ((v_rmx p0 p1 zz0).2 :: ((s_Z7 (decide ((p2.length:Int) > zz0)) (10:Int)) :: ([]:List Int)))) ∧(∃ n0,(loopP (fun (y1:(Int×(Int×Int))) k2 => ((((decide (y1.1 < (p2.length:Int)))=true) →((zz0≤y1.1) ∧((y1.1 < (p2.length:Int)) ∧((lenOk (y1.2.2 :: ((s_Z7 (s_Z6 (p2.getD y1.1.toNat zz0) zz0 (wi ((p0.length:Int) - zz1))) zz2) :: ((s_Z7 (decide ((p2.getD y1.1.toNat zz0) > y1.2.1)) (9:Int)) :: ([]:List Int))))) ∧(k2 ((wi (y1.1 + zz1)),((p2.getD y1.1.toNat zz0),(v_first (y1.2.2 :: ((s_Z7 (s_Z6 (p2.getD y1.1.toNat zz0) zz0 (wi ((p0.length:Int) - zz1))) zz2) :: ((s_Z7 (decide ((p2.getD y1.1.toNat zz0) > y1.2.1)) (9:Int)) :: ([]:List Int)))))))))))) ∧(((decide (y1.1 < (p2.length:Int)))=false) →((((y1.2.2 != zz0)=true) →(K ((zz0,zz0),y1.2.2))) ∧(((y1.2.2 != zz0)=false) →(∃ n3,(loopP (fun (y4:(Int×(Int×Int))) k5 => ((((decide (y4.1 < (p2.length:Int)))=true) →((zz0≤y4.1) ∧((y4.1 < (p2.length:Int)) ∧((((decide ((wi (y4.1 + zz1)) < (p2.length:Int)))=true) →((zz0≤(wi (y4.1 + zz1))) ∧(((wi (y4.1 + zz1)) < (p2.length:Int)) ∧((zz0≤(p2.getD y4.1.toNat zz0)) ∧((q2_Z1 p0 p1 p2 y4) ∧((zz0≤(p2.getD y4.1.toNat zz0)) ∧((q2_Z1 p0 p1 p2 y4) ∧((zz0≤(p2.getD y4.1.toNat zz0)) ∧((q2_Z1 p0 p1 p2 y4) ∧((zz0≤(p2.getD y4.1.toNat zz0)) ∧((q2_Z1 p0 p1 p2 y4) ∧((zz0≤(p2.getD y4.1.toNat zz0)) ∧(((p2.getD y4.1.toNat zz0)≤(p2.getD (Int.toNat (wi (y4.1 + zz1))) zz0)) ∧(((p2.getD (Int.toNat (wi (y4.1 + zz1))) zz0)≤(((v_rmx p0 p1 zz0).1.length:Nat):Int)) ∧(∃ n6,(loopP (fun (y7:(Int×((Int×Int)×(Int×Int)))) k8 => ((((decide (y7.1 < (((List.length (List.take ((Int.toNat (p2.getD (Int.toNat (wi (y4.1 + zz1))) zz0)) - (Int.toNat (p2.getD y4.1.toNat zz0))) (q3_Z1 p0 p1 p2 y4))):Nat):Int)))=true) →((zz0≤y7.1) ∧((y7.1 < (((List.length (List.take ((Int.toNat (p2.getD (Int.toNat (wi (y4.1 + zz1))) zz0)) - (Int.toNat (p2.getD y4.1.toNat zz0))) (q3_Z1 p0 p1 p2 y4))):Nat):Int)) ∧(k8 ((wi (y7.1 + zz1)),(((min y7.2.1.1 (List.getD (List.take ((Int.toNat (p2.getD (Int.toNat (wi (y4.1 + zz1))) zz0)) - (Int.toNat (p2.getD y4.1.toNat zz0))) (q3_Z1 p0 p1 p2 y4)) y7.1.toNat (zz0,zz0)).1),(max y7.2.1.2 (List.getD (List.take ((Int.toNat (p2.getD (Int.toNat (wi (y4.1 + zz1))) zz0)) - (Int.toNat (p2.getD y4.1.toNat zz0))) (q3_Z1 p0 p1 p2 y4)) y7.1.toNat (zz0,zz0)).1)),((min y7.2.2.1 (List.getD (List.take ((Int.toNat (p2.getD (Int.toNat (wi (y4.1 + zz1))) zz0)) - (Int.toNat (p2.getD y4.1.toNat zz0))) (q3_Z1 p0 p1 p2 y4)) y7.1.toNat (zz0,zz0)).2),(max y7.2.2.2 (List.getD (List.take ((Int.toNat (p2.getD (Int.toNat (wi (y4.1 + zz1))) zz0)) - (Int.toNat (p2.getD y4.1.toNat zz0))) (q3_Z1 p0 p1 p2 y4)) y7.1.toNat (zz0,zz0)).2)))))))) ∧(((decide (y7.1 < (((List.length (List.take ((Int.toNat (p2.getD (Int.toNat (wi (y4.1 + zz1))) zz0)) - (Int.toNat (p2.getD y4.1.toNat zz0))) (q3_Z1 p0 p1 p2 y4))):Nat):Int)))=false) →(k5 ((wi (y4.1 + zz1)),((wi (y4.2.1 + (max zz0 (wi (y7.2.1.2 - y7.2.2.1))))),(wi (y4.2.2 + (wi (y7.2.2.2 - y7.2.1.1)))))))))) n6 (zz0,(((q1_Z1 p0 p1 p2 y4).1,(q1_Z1 p0 p1 p2 y4).1),((q1_Z1 p0 p1 p2 y4).2,(q1_Z1 p0 p1 p2 y4).2))))))))))))))))))) ∧(((decide ((wi (y4.1 + zz1)) < (p2.length:Int)))=false) →((zz0≤(p2.getD y4.1.toNat zz0)) ∧((q2_Z1 p0 p1 p2 y4) ∧((zz0≤(p2.getD y4.1.toNat zz0)) ∧((q2_Z1 p0 p1 p2 y4) ∧((zz0≤(p2.getD y4.1.toNat zz0)) ∧((q2_Z1 p0 p1 p2 y4) ∧((zz0≤(p2.getD y4.1.toNat zz0)) ∧((q2_Z1 p0 p1 p2 y4) ∧((zz0≤(p2.getD y4.1.toNat zz0)) ∧(((p2.getD y4.1.toNat zz0)≤(p0.length:Int)) ∧(((p0.length:Int)≤(((v_rmx p0 p1 zz0).1.length:Nat):Int)) ∧(∃ n9,(loopP (fun (y10:(Int×((Int×Int)×(Int×Int)))) k11 => ((((decide (y10.1 < (((q0_Z1 p0 p1 p2 y4).length:Nat):Int)))=true) →((zz0≤y10.1) ∧((y10.1 < (((q0_Z1 p0 p1 p2 y4).length:Nat):Int)) ∧(k11 ((wi (y10.1 + zz1)),(((min y10.2.1.1 (List.getD (q0_Z1 p0 p1 p2 y4) y10.1.toNat (zz0,zz0)).1),(max y10.2.1.2 (List.getD (q0_Z1 p0 p1 p2 y4) y10.1.toNat (zz0,zz0)).1)),((min y10.2.2.1 (List.getD (q0_Z1 p0 p1 p2 y4) y10.1.toNat (zz0,zz0)).2),(max y10.2.2.2 (List.getD (q0_Z1 p0 p1 p2 y4) y10.1.toNat (zz0,zz0)).2)))))))) ∧(((decide (y10.1 < (((q0_Z1 p0 p1 p2 y4).length:Nat):Int)))=false) →(k5 ((wi (y4.1 + zz1)),((wi (y4.2.1 + (max zz0 (wi (y10.2.1.2 - y10.2.2.1))))),(wi (y4.2.2 + (wi (y10.2.2.2 - y10.2.1.1)))))))))) n9 (zz0,(((q1_Z1 p0 p1 p2 y4).1,(q1_Z1 p0 p1 p2 y4).1),((q1_Z1 p0 p1 p2 y4).2,(q1_Z1 p0 p1 p2 y4).2))))))))))))))))))))) ∧(((decide (y4.1 < (p2.length:Int)))=false) →(K (y4.2,zz0))))) n3 (zz0,(zz0,zz0))))))))) n0 (zz0,((-1:Int),(v_first ((v_rmx p0 p1 zz0).2 :: ((s_Z7 (decide ((p2.length:Int) > zz0)) (10:Int)) :: ([]:List Int)))))))))
theorem w_Z1_eq (p0:(List (Int×(Int×(Int×(Int×Int)))))) (p1:(Int×(Int×(Int×(Int×(Int×(Int×(Int×(Int×Int))))))))) (p2:gF) (K:((Int×Int)×Int)→Prop):tfn F_Z1 A_Z1 C_Z1 P_Z1 R_Z1 (p0,p1,p2) K = w_Z1 p0 p1 p2 K := by kernel_rfl
def st_Z1_0 (p0:(List (Int×(Int×(Int×(Int×Int)))))) (p1:(Int×(Int×(Int×(Int×(Int×(Int×(Int×(Int×Int))))))))) (p2:gF) (_y0:(Int×(Int×Int))) (y3:(Int×(Int×Int))) (y6:(Int×((Int×Int)×(Int×Int)))):(Int×((Int×Int)×(Int×Int))) ⊕ ((Int×(Int×Int)) ⊕ ((Int×(Int×Int)) ⊕ ((Int×Int)×Int))) := (cond (decide (y6.1 < (((List.length (List.take ((Int.toNat (p2.getD (Int.toNat (IntKind.i64.wrap (y3.1 + 1))) (0:Int))) - (Int.toNat (p2.getD y3.1.toNat (0:Int)))) (List.drop (Int.toNat (p2.getD y3.1.toNat (0:Int))) (v_rmx p0 p1 (0:Int)).1))):Nat):Int))) (Sum.inl ((IntKind.i64.wrap (y6.1 + 1)),(((min y6.2.1.1 (List.getD (List.take ((Int.toNat (p2.getD (Int.toNat (IntKind.i64.wrap (y3.1 + 1))) (0:Int))) - (Int.toNat (p2.getD y3.1.toNat (0:Int)))) (List.drop (Int.toNat (p2.getD y3.1.toNat (0:Int))) (v_rmx p0 p1 (0:Int)).1)) y6.1.toNat (0,0)).1),(max y6.2.1.2 (List.getD (List.take ((Int.toNat (p2.getD (Int.toNat (IntKind.i64.wrap (y3.1 + 1))) (0:Int))) - (Int.toNat (p2.getD y3.1.toNat (0:Int)))) (List.drop (Int.toNat (p2.getD y3.1.toNat (0:Int))) (v_rmx p0 p1 (0:Int)).1)) y6.1.toNat (0,0)).1)),((min y6.2.2.1 (List.getD (List.take ((Int.toNat (p2.getD (Int.toNat (IntKind.i64.wrap (y3.1 + 1))) (0:Int))) - (Int.toNat (p2.getD y3.1.toNat (0:Int)))) (List.drop (Int.toNat (p2.getD y3.1.toNat (0:Int))) (v_rmx p0 p1 (0:Int)).1)) y6.1.toNat (0,0)).2),(max y6.2.2.2 (List.getD (List.take ((Int.toNat (p2.getD (Int.toNat (IntKind.i64.wrap (y3.1 + 1))) (0:Int))) - (Int.toNat (p2.getD y3.1.toNat (0:Int)))) (List.drop (Int.toNat (p2.getD y3.1.toNat (0:Int))) (v_rmx p0 p1 (0:Int)).1)) y6.1.toNat (0,0)).2))))) (Sum.inr (Sum.inl ((IntKind.i64.wrap (y3.1 + 1)),((IntKind.i64.wrap (y3.2.1 + (max (0:Int) (IntKind.i64.wrap (y6.2.1.2 - y6.2.2.1))))),(IntKind.i64.wrap (y3.2.2 + (IntKind.i64.wrap (y6.2.2.2 - y6.2.1.1)))))))))
abbrev sp_Z1_0 (p0:(List (Int×(Int×(Int×(Int×Int)))))) (p1:(Int×(Int×(Int×(Int×(Int×(Int×(Int×(Int×Int))))))))) (p2:gF) (_y0:(Int×(Int×Int))) (y3:(Int×(Int×Int))) (y6:(Int×((Int×Int)×(Int×Int)))):List Prop := [(((decide (y6.1 < (((List.length (List.take ((Int.toNat (p2.getD (Int.toNat (IntKind.i64.wrap (y3.1 + 1))) (0:Int))) - (Int.toNat (p2.getD y3.1.toNat (0:Int)))) (List.drop (Int.toNat (p2.getD y3.1.toNat (0:Int))) (v_rmx p0 p1 (0:Int)).1))):Nat):Int)))=true)→((0:Int)≤y6.1)),(((decide (y6.1 < (((List.length (List.take ((Int.toNat (p2.getD (Int.toNat (IntKind.i64.wrap (y3.1 + 1))) (0:Int))) - (Int.toNat (p2.getD y3.1.toNat (0:Int)))) (List.drop (Int.toNat (p2.getD y3.1.toNat (0:Int))) (v_rmx p0 p1 (0:Int)).1))):Nat):Int)))=true)→(y6.1 < (((List.length (List.take ((Int.toNat (p2.getD (Int.toNat (IntKind.i64.wrap (y3.1 + 1))) (0:Int))) - (Int.toNat (p2.getD y3.1.toNat (0:Int)))) (List.drop (Int.toNat (p2.getD y3.1.toNat (0:Int))) (v_rmx p0 p1 (0:Int)).1))):Nat):Int)))]
def st_Z1_1 (p0:(List (Int×(Int×(Int×(Int×Int)))))) (p1:(Int×(Int×(Int×(Int×(Int×(Int×(Int×(Int×Int))))))))) (p2:gF) (_y0:(Int×(Int×Int))) (y3:(Int×(Int×Int))) (y8:(Int×((Int×Int)×(Int×Int)))):(Int×((Int×Int)×(Int×Int))) ⊕ ((Int×(Int×Int)) ⊕ ((Int×(Int×Int)) ⊕ ((Int×Int)×Int))) := (cond (decide (y8.1 < (((List.length (List.take ((Int.toNat (p0.length:Int)) - (Int.toNat (p2.getD y3.1.toNat (0:Int)))) (List.drop (Int.toNat (p2.getD y3.1.toNat (0:Int))) (v_rmx p0 p1 (0:Int)).1))):Nat):Int))) (Sum.inl ((IntKind.i64.wrap (y8.1 + 1)),(((min y8.2.1.1 (List.getD (List.take ((Int.toNat (p0.length:Int)) - (Int.toNat (p2.getD y3.1.toNat (0:Int)))) (List.drop (Int.toNat (p2.getD y3.1.toNat (0:Int))) (v_rmx p0 p1 (0:Int)).1)) y8.1.toNat (0,0)).1),(max y8.2.1.2 (List.getD (List.take ((Int.toNat (p0.length:Int)) - (Int.toNat (p2.getD y3.1.toNat (0:Int)))) (List.drop (Int.toNat (p2.getD y3.1.toNat (0:Int))) (v_rmx p0 p1 (0:Int)).1)) y8.1.toNat (0,0)).1)),((min y8.2.2.1 (List.getD (List.take ((Int.toNat (p0.length:Int)) - (Int.toNat (p2.getD y3.1.toNat (0:Int)))) (List.drop (Int.toNat (p2.getD y3.1.toNat (0:Int))) (v_rmx p0 p1 (0:Int)).1)) y8.1.toNat (0,0)).2),(max y8.2.2.2 (List.getD (List.take ((Int.toNat (p0.length:Int)) - (Int.toNat (p2.getD y3.1.toNat (0:Int)))) (List.drop (Int.toNat (p2.getD y3.1.toNat (0:Int))) (v_rmx p0 p1 (0:Int)).1)) y8.1.toNat (0,0)).2))))) (Sum.inr (Sum.inl ((IntKind.i64.wrap (y3.1 + 1)),((IntKind.i64.wrap (y3.2.1 + (max (0:Int) (IntKind.i64.wrap (y8.2.1.2 - y8.2.2.1))))),(IntKind.i64.wrap (y3.2.2 + (IntKind.i64.wrap (y8.2.2.2 - y8.2.1.1)))))))))
abbrev sp_Z1_1 (p0:(List (Int×(Int×(Int×(Int×Int)))))) (p1:(Int×(Int×(Int×(Int×(Int×(Int×(Int×(Int×Int))))))))) (p2:gF) (_y0:(Int×(Int×Int))) (y3:(Int×(Int×Int))) (y8:(Int×((Int×Int)×(Int×Int)))):List Prop := [(((decide (y8.1 < (((List.length (List.take ((Int.toNat (p0.length:Int)) - (Int.toNat (p2.getD y3.1.toNat (0:Int)))) (List.drop (Int.toNat (p2.getD y3.1.toNat (0:Int))) (v_rmx p0 p1 (0:Int)).1))):Nat):Int)))=true)→((0:Int)≤y8.1)),(((decide (y8.1 < (((List.length (List.take ((Int.toNat (p0.length:Int)) - (Int.toNat (p2.getD y3.1.toNat (0:Int)))) (List.drop (Int.toNat (p2.getD y3.1.toNat (0:Int))) (v_rmx p0 p1 (0:Int)).1))):Nat):Int)))=true)→(y8.1 < (((List.length (List.take ((Int.toNat (p0.length:Int)) - (Int.toNat (p2.getD y3.1.toNat (0:Int)))) (List.drop (Int.toNat (p2.getD y3.1.toNat (0:Int))) (v_rmx p0 p1 (0:Int)).1))):Nat):Int)))]
def st_Z1_2 (p0:(List (Int×(Int×(Int×(Int×Int)))))) (p1:(Int×(Int×(Int×(Int×(Int×(Int×(Int×(Int×Int))))))))) (p2:gF) (y0:(Int×(Int×Int))) (y3:(Int×(Int×Int))):(Int×(Int×Int)) ⊕ ((Int×(Int×Int)) ⊕ ((Int×Int)×Int)) := (cond (decide (y3.1 < (p2.length:Int))) (cond (decide ((IntKind.i64.wrap (y3.1 + 1)) < (p2.length:Int))) (lpv (Sum.inr (Sum.inr ((0,0),(0:Int)))) (st_Z1_0 p0 p1 p2 y0 y3) ((0:Int),(((List.getD (v_rmx p0 p1 (0:Int)).1 (Int.toNat (p2.getD y3.1.toNat (0:Int))) (0,0)).1,(List.getD (v_rmx p0 p1 (0:Int)).1 (Int.toNat (p2.getD y3.1.toNat (0:Int))) (0,0)).1),((List.getD (v_rmx p0 p1 (0:Int)).1 (Int.toNat (p2.getD y3.1.toNat (0:Int))) (0,0)).2,(List.getD (v_rmx p0 p1 (0:Int)).1 (Int.toNat (p2.getD y3.1.toNat (0:Int))) (0,0)).2)))) (lpv (Sum.inr (Sum.inr ((0,0),(0:Int)))) (st_Z1_1 p0 p1 p2 y0 y3) ((0:Int),(((List.getD (v_rmx p0 p1 (0:Int)).1 (Int.toNat (p2.getD y3.1.toNat (0:Int))) (0,0)).1,(List.getD (v_rmx p0 p1 (0:Int)).1 (Int.toNat (p2.getD y3.1.toNat (0:Int))) (0,0)).1),((List.getD (v_rmx p0 p1 (0:Int)).1 (Int.toNat (p2.getD y3.1.toNat (0:Int))) (0,0)).2,(List.getD (v_rmx p0 p1 (0:Int)).1 (Int.toNat (p2.getD y3.1.toNat (0:Int))) (0,0)).2))))) (Sum.inr (Sum.inr (y3.2,(0:Int)))))
abbrev sp_Z1_2 (p0:(List (Int×(Int×(Int×(Int×Int)))))) (p1:(Int×(Int×(Int×(Int×(Int×(Int×(Int×(Int×Int))))))))) (p2:gF) (y0:(Int×(Int×Int))) (y3:(Int×(Int×Int))):List Prop := [(((decide (y3.1 < (p2.length:Int)))=true)→((0:Int)≤y3.1)),(((decide (y3.1 < (p2.length:Int)))=true)→(y3.1 < (p2.length:Int))),(((decide (y3.1 < (p2.length:Int)))=true)→(((decide ((IntKind.i64.wrap (y3.1 + 1)) < (p2.length:Int)))=true)→((0:Int)≤(IntKind.i64.wrap (y3.1 + 1))))),(((decide (y3.1 < (p2.length:Int)))=true)→(((decide ((IntKind.i64.wrap (y3.1 + 1)) < (p2.length:Int)))=true)→((IntKind.i64.wrap (y3.1 + 1)) < (p2.length:Int)))),(((decide (y3.1 < (p2.length:Int)))=true)→(((decide ((IntKind.i64.wrap (y3.1 + 1)) < (p2.length:Int)))=true)→((0:Int)≤(p2.getD y3.1.toNat (0:Int))))),(((decide (y3.1 < (p2.length:Int)))=true)→(((decide ((IntKind.i64.wrap (y3.1 + 1)) < (p2.length:Int)))=true)→((p2.getD y3.1.toNat (0:Int)) < (((v_rmx p0 p1 (0:Int)).1.length:Nat):Int)))),(((decide (y3.1 < (p2.length:Int)))=true)→(((decide ((IntKind.i64.wrap (y3.1 + 1)) < (p2.length:Int)))=true)→((p2.getD y3.1.toNat (0:Int))≤(p2.getD (Int.toNat (IntKind.i64.wrap (y3.1 + 1))) (0:Int))))),(((decide (y3.1 < (p2.length:Int)))=true)→(((decide ((IntKind.i64.wrap (y3.1 + 1)) < (p2.length:Int)))=true)→((p2.getD (Int.toNat (IntKind.i64.wrap (y3.1 + 1))) (0:Int))≤(((v_rmx p0 p1 (0:Int)).1.length:Nat):Int)))),(((decide (y3.1 < (p2.length:Int)))=true)→(((decide ((IntKind.i64.wrap (y3.1 + 1)) < (p2.length:Int)))=true)→(OkL (st_Z1_0 p0 p1 p2 y0 y3) (sp_Z1_0 p0 p1 p2 y0 y3) ((0:Int),(((List.getD (v_rmx p0 p1 (0:Int)).1 (Int.toNat (p2.getD y3.1.toNat (0:Int))) (0,0)).1,(List.getD (v_rmx p0 p1 (0:Int)).1 (Int.toNat (p2.getD y3.1.toNat (0:Int))) (0,0)).1),((List.getD (v_rmx p0 p1 (0:Int)).1 (Int.toNat (p2.getD y3.1.toNat (0:Int))) (0,0)).2,(List.getD (v_rmx p0 p1 (0:Int)).1 (Int.toNat (p2.getD y3.1.toNat (0:Int))) (0,0)).2)))))),(((decide (y3.1 < (p2.length:Int)))=true)→(((decide ((IntKind.i64.wrap (y3.1 + 1)) < (p2.length:Int)))=false)→((0:Int)≤(p2.getD y3.1.toNat (0:Int))))),(((decide (y3.1 < (p2.length:Int)))=true)→(((decide ((IntKind.i64.wrap (y3.1 + 1)) < (p2.length:Int)))=false)→((p2.getD y3.1.toNat (0:Int)) < (((v_rmx p0 p1 (0:Int)).1.length:Nat):Int)))),(((decide (y3.1 < (p2.length:Int)))=true)→(((decide ((IntKind.i64.wrap (y3.1 + 1)) < (p2.length:Int)))=false)→((p2.getD y3.1.toNat (0:Int))≤(p0.length:Int)))),(((decide (y3.1 < (p2.length:Int)))=true)→(((decide ((IntKind.i64.wrap (y3.1 + 1)) < (p2.length:Int)))=false)→((p0.length:Int)≤(((v_rmx p0 p1 (0:Int)).1.length:Nat):Int)))),(((decide (y3.1 < (p2.length:Int)))=true)→(((decide ((IntKind.i64.wrap (y3.1 + 1)) < (p2.length:Int)))=false)→(OkL (st_Z1_1 p0 p1 p2 y0 y3) (sp_Z1_1 p0 p1 p2 y0 y3) ((0:Int),(((List.getD (v_rmx p0 p1 (0:Int)).1 (Int.toNat (p2.getD y3.1.toNat (0:Int))) (0,0)).1,(List.getD (v_rmx p0 p1 (0:Int)).1 (Int.toNat (p2.getD y3.1.toNat (0:Int))) (0,0)).1),((List.getD (v_rmx p0 p1 (0:Int)).1 (Int.toNat (p2.getD y3.1.toNat (0:Int))) (0,0)).2,(List.getD (v_rmx p0 p1 (0:Int)).1 (Int.toNat (p2.getD y3.1.toNat (0:Int))) (0,0)).2))))))]
def st_Z1_3 (p0:(List (Int×(Int×(Int×(Int×Int)))))) (p1:(Int×(Int×(Int×(Int×(Int×(Int×(Int×(Int×Int))))))))) (p2:gF) (y0:(Int×(Int×Int))):(Int×(Int×Int)) ⊕ ((Int×Int)×Int) := (cond (decide (y0.1 < (p2.length:Int))) (Sum.inl ((IntKind.i64.wrap (y0.1 + 1)),((p2.getD y0.1.toNat (0:Int)),(v_first (y0.2.2 :: ((s_Z7 (s_Z6 (p2.getD y0.1.toNat (0:Int)) (0:Int) (IntKind.i64.wrap ((p0.length:Int) - 1))) (2:Int)) :: ((s_Z7 (decide ((p2.getD y0.1.toNat (0:Int)) > y0.2.1)) (9:Int)) :: ([]:List Int)))))))) (cond (y0.2.2 != 0) (Sum.inr ((0,0),y0.2.2)) (lpv (Sum.inr ((0,0),(0:Int))) (st_Z1_2 p0 p1 p2 y0) ((0:Int),(0,0)))))
abbrev sp_Z1_3 (p0:(List (Int×(Int×(Int×(Int×Int)))))) (p1:(Int×(Int×(Int×(Int×(Int×(Int×(Int×(Int×Int))))))))) (p2:gF) (y0:(Int×(Int×Int))):List Prop := [(((decide (y0.1 < (p2.length:Int)))=true)→((0:Int)≤y0.1)),(((decide (y0.1 < (p2.length:Int)))=true)→(y0.1 < (p2.length:Int))),(((decide (y0.1 < (p2.length:Int)))=false)→(((y0.2.2 != 0)=false)→(OkL (st_Z1_2 p0 p1 p2 y0) (sp_Z1_2 p0 p1 p2 y0) ((0:Int),(0,0)))))]
def s_Z1 (p0:(List (Int×(Int×(Int×(Int×Int)))))) (p1:(Int×(Int×(Int×(Int×(Int×(Int×(Int×(Int×Int))))))))) (p2:gF):((Int×Int)×Int) := (lpv ((0,0),(0:Int)) (st_Z1_3 p0 p1 p2) ((0:Int),((-1:Int),(v_first ((v_rmx p0 p1 (0:Int)).2 :: ((s_Z7 (decide ((p2.length:Int) > 0)) (10:Int)) :: ([]:List Int)))))))
abbrev pre_Z1 (p0:(List (Int×(Int×(Int×(Int×Int)))))) (p1:(Int×(Int×(Int×(Int×(Int×(Int×(Int×(Int×Int))))))))) (p2:gF):List Prop := [(OkL (st_Z1_3 p0 p1 p2) (sp_Z1_3 p0 p1 p2) ((0:Int),((-1:Int),(v_first ((v_rmx p0 p1 (0:Int)).2 :: ((s_Z7 (decide ((p2.length:Int) > 0)) (10:Int)) :: ([]:List Int)))))))]
theorem d_Z1 (p0:(List (Int×(Int×(Int×(Int×Int)))))) (p1:(Int×(Int×(Int×(Int×(Int×(Int×(Int×(Int×Int))))))))) (p2:gF) (K:((Int×Int)×Int)→Prop) (hp:∀ p∈pre_Z1 p0 p1 p2,p) (h:K (s_Z1 p0 p1 p2)):w_Z1 p0 p1 p2 K := by
 unfold w_Z1
 unfold s_Z1 at h
 obtain ⟨hp0,_⟩ := conj_of hp
 exact ⟨(lenOk_of 2 rfl (by decide)),(loop_gen (hp0) h (fun y0 k0 hp h => by
 unfold st_Z1_3 at h; obtain ⟨hp0,hp1,hp2,_⟩ := conj_of hp
 exact (br' h (fun e1 h => ⟨(hp0 e1),(hp1 e1),(lenOk_of 3 rfl (by decide)),h⟩)
  (fun e1 h => (br' h (fun e2 h => h)
  (fun e2 h => (loop_gen (hp2 e1 e2) h (fun y3 k3 hp h => by
 unfold st_Z1_2 at h; obtain ⟨hp0,hp1,hp2,hp3,hp4,hp5,hp6,hp7,hp8,hp9,hp10,hp11,hp12,hp13,_⟩ := conj_of hp
 exact (br' h (fun e4 h => ⟨(hp0 e4),(hp1 e4),(br' h (fun e5 h => ⟨(hp2 e4 e5),(hp3 e4 e5),(hp4 e4 e5),(hp5 e4 e5),(hp4 e4 e5),(hp5 e4 e5),(hp4 e4 e5),(hp5 e4 e5),(hp4 e4 e5),(hp5 e4 e5),(hp4 e4 e5),(hp6 e4 e5),(hp7 e4 e5),(loop_gen (hp8 e4 e5) h (fun y6 k6 hp h => by
 unfold st_Z1_0 at h; obtain ⟨hp0,hp1,_⟩ := conj_of hp
 exact (br' h (fun e7 h => ⟨(hp0 e7),(hp1 e7),h⟩)
  (fun e7 h => h))))⟩)
  (fun e5 h => ⟨(hp9 e4 e5),(hp10 e4 e5),(hp9 e4 e5),(hp10 e4 e5),(hp9 e4 e5),(hp10 e4 e5),(hp9 e4 e5),(hp10 e4 e5),(hp9 e4 e5),(hp11 e4 e5),(hp12 e4 e5),(loop_gen (hp13 e4 e5) h (fun y8 k8 hp h => by
 unfold st_Z1_1 at h; obtain ⟨hp0,hp1,_⟩ := conj_of hp
 exact (br' h (fun e9 h => ⟨(hp0 e9),(hp1 e9),h⟩)
  (fun e9 h => h))))⟩))⟩)
  (fun e4 h => h))))))))))⟩
/-- The least and the most of the ends of ranges; those of a leg; the figure of legs. -/
def v_mms (s:(Int×Int)×Int×Int) (r:gG):(Int×Int)×Int×Int := ((min s.1.1 r.1,max s.1.2 r.1),(min s.2.1 r.2,max s.2.2 r.2))
def v_own (R:gC) (b e:Nat):List (Int×Int) := (R.drop b).take (e - b)
def v_st (R:gC) (b:Nat):(Int×Int)×Int×Int := (((R.getD b (0,0)).1,(R.getD b (0,0)).1),((R.getD b (0,0)).2,(R.getD b (0,0)).2))
def v_ext (R:gC) (b e:Nat):(Int×Int)×Int×Int := (v_own R b e).foldl v_mms (v_st R b)
def v_end (n:Int) (g:gF) (i:Nat):Int := cond (decide ((i:Int) + 1 < g.length)) (g.getD (i + 1) 0) n
def v_leg (R:gC) (n:Int) (g:gF) (i:Nat):(Int×Int)×Int×Int := v_ext R (g.getD i 0).toNat (v_end n g i).toNat
def v_fig (R:gC) (n:Int) (g:gF):Nat→Int×Int
 | 0 => (0,0)
 | i + 1 => ((v_fig R n g i).1 + max 0 ((v_leg R n g i).1.2 - (v_leg R n g i).2.1),(v_fig R n g i).2 + ((v_leg R n g i).2.2 - (v_leg R n g i).1.1))
structure v_bd (B:Int) (s:(Int×Int)×Int×Int):Prop where
 a : -B≤s.1.1∧s.1.1≤B
 b : -B≤s.1.2∧s.1.2≤B
 c : -B≤s.2.1∧s.2.1≤B
 d : -B≤s.2.2∧s.2.2≤B
def v_bds (B:Int) (R:gC):Prop := ∀ r∈R,(-B≤r.1∧r.1≤B)∧-B≤r.2∧r.2≤B
theorem v_mms_bd {B:Int}:∀ (O:gC) (s:(Int×Int)×Int×Int),v_bd B s→v_bds B O→v_bd B (O.foldl v_mms s)
 | [],_,h,_ => h
 | r :: O,s,h,hO => by
  have hr := hO r List.mem_cons_self
  refine v_mms_bd O (v_mms s r) ?_ fun x hx => hO x (List.mem_cons_of_mem _ hx)
  obtain ⟨a,b,c,d⟩ := h
  exact ⟨by simp only [v_mms]; omega,by simp only [v_mms]; omega,by simp only [v_mms]; omega,by simp only [v_mms]; omega⟩
theorem v_ext_bd {B:Int} {R:List (Int×Int)} {b e:Nat} (h:v_bds B R) (hb:b < R.length):v_bd B (v_ext R b e) := by
 have hr := h _ (getD_mem' (0,0) hb)
 exact v_mms_bd _ _ ⟨hr.1,hr.1,hr.2,hr.2⟩ fun x hx => h x (List.mem_of_mem_drop (List.mem_of_mem_take hx))
theorem v_fold_snoc {O:List (Int×Int)} {j:Nat} (hj:j < O.length) (s:(Int×Int)×Int×Int):(O.take (j + 1)).foldl v_mms s = v_mms ((O.take j).foldl v_mms s) (O.getD j (0,0)) := by
 rw [List.take_add_one,List.getElem?_eq_getElem hj,Option.toList_some,List.foldl_append,List.getD_eq_getElem?_getD,List.getElem?_eq_getElem hj]; rfl
structure v_lok (n:Nat) (g:gF):Prop where
 len:g.length≤n
 ok:∀ i,i < g.length→0≤g.getD i 0∧g.getD i 0 < n
 asc:∀ i,i + 1 < g.length→g.getD i 0 < g.getD (i + 1) 0
theorem v_lger_ok {n:Nat} {g:List Int} (h:v_lgs n (-1) g = 0):v_lok n g := by
 have k := v_lgs_ok n g (-1) h
 have up:∀ i,i < g.length→(i:Int)≤g.getD i 0 := by
  intro i
  induction i with
  | zero => intro hi; have := (k 0 hi).1; omega
  | succ i ih =>
   intro hi
   have := ih (by omega)
   have := (k (i + 1) hi).2.1 (by omega)
   rw [Nat.add_sub_cancel] at this
   omega
 refine ⟨?_,fun i hi => by have := (k i hi).1; omega,fun i hi => (k (i + 1) hi).2.1 (by omega)⟩
 rcases Nat.eq_zero_or_pos g.length with e | e
 ·omega
 ·have := up (g.length - 1) (by omega)
  have := (k (g.length - 1) (by omega)).1
  omega
theorem v_end_is {n:Nat} {g:List Int} (h:v_lok n g) {i:Nat} (hi:i < g.length):g.getD i 0 < v_end n g i∧v_end n g i≤n := by
 unfold v_end
 cases c:decide ((i:Int) + 1 < g.length)
 ·have := h.ok i hi
  rw [cond_false]; omega
 ·have := of_decide_eq_true c
  have := h.asc i (by omega)
  have := h.ok (i + 1) (by omega)
  rw [cond_true]; omega
theorem v_fig_bd {R:List (Int×Int)} {n:Nat} {g:List Int} (h:v_lok n g) (hR:R.length = n) (hb:v_bds 101000000000001 R):∀ i,i≤g.length→(0≤(v_fig R n g i).1∧(v_fig R n g i).1≤202000000000002 * i)∧-(202000000000002 * i)≤(v_fig R n g i).2∧(v_fig R n g i).2≤202000000000002 * i
 | 0,_ => by unfold v_fig; omega
 | i + 1,hi => by
  have ih := v_fig_bd h hR hb i (by omega)
  have hg := h.ok i (by omega)
  have x := v_ext_bd (e := (v_end n g i).toNat) hb (show (g.getD i 0).toNat < R.length by omega)
  obtain ⟨a,b,c,d⟩ := x
  unfold v_fig v_leg
  simp only
  omega
theorem v_rem_bds {l:List (Int×Int×Int×Int×Int)} (h:v_smp l) {f:Int×Int×Int×Int×Int×Int×Int×Int×Int} (hf:v_fok f):v_bds 101000000000001 (v_rem l 0 f) := by
 intro r hr
 obtain ⟨j,hj,rfl⟩ := List.mem_map.1 hr
 obtain ⟨k,hk,rfl⟩ := List.mem_range'.1 hj
 have hb := v_left_le h (show 0 + 1 * k < l.length by omega) hf (m := 0) (by omega)
 have d := hf.den
 unfold v_rnd v_ceil
 have h1 := Int.natAbs_ediv_le_natAbs (v_left l (0 + 1 * k) 0 f) f.1
 have h2 := Int.natAbs_ediv_le_natAbs (-(v_left l (0 + 1 * k) 0 f)) f.1
 simp only
 omega
theorem v_own_len {R:List (Int×Int)} {b e:Nat} (he:e≤R.length):(v_own R b e).length = e - b := by unfold v_own; rw [List.length_take,List.length_drop]; omega
theorem v_own_0 {R:List (Int×Int)} {b e:Nat} (hb:b < e):(v_own R b e).getD 0 (0,0)=R.getD b (0,0) := by
 unfold v_own
 rw [List.getD_eq_getElem?_getD,List.getElem?_take_of_lt (by omega),List.getElem?_drop,List.getD_eq_getElem?_getD]; rfl
theorem l_Z1_0 (p0:List (Int×Int×Int×Int×Int)) (p1:Int×Int×Int×Int×Int×Int×Int×Int×Int) (p2:gF) (y0:Int×Int×Int) (i:Nat) (out:gG) (s:(Int×Int)×Int×Int) (R:gC) (hR:v_rmx p0 p1 0 = (R,0)) (hi:i≤100) (hlen:R.length≤20):OkL (st_Z1_0 p0 p1 p2 y0 ((i:Int),out)) (sp_Z1_0 p0 p1 p2 y0 ((i:Int),out)) (0,s)∧lpv (.inr (.inr ((0,0),0))) (st_Z1_0 p0 p1 p2 y0 ((i:Int),out)) (0,s) = .inl (((i + 1:Nat):Int),IntKind.i64.wrap (out.1 + max 0 (IntKind.i64.wrap (((v_own R (p2.getD i 0).toNat (p2.getD (i + 1) 0).toNat).foldl v_mms s).1.2 - ((v_own R (p2.getD i 0).toNat (p2.getD (i + 1) 0).toNat).foldl v_mms s).2.1))),IntKind.i64.wrap (out.2 + IntKind.i64.wrap (((v_own R (p2.getD i 0).toNat (p2.getD (i + 1) 0).toNat).foldl v_mms s).2.2 - ((v_own R (p2.getD i 0).toNat (p2.getD (i + 1) 0).toNat).foldl v_mms s).1.1))) := by
 have hw0:IntKind.i64.wrap ((i:Int) + 1)=((i + 1:Nat):Int) := wrap_id (by omega) (by omega)
 have hol:(v_own R (p2.getD i 0).toNat (p2.getD (i + 1) 0).toNat).length≤20 := by unfold v_own; rw [List.length_take,List.length_drop]; omega
 have hO:List.take ((p2.getD (i + 1) 0).toNat - (p2.getD i 0).toNat) (List.drop (p2.getD i 0).toNat R)=(v_own R (p2.getD i 0).toNat (p2.getD (i + 1) 0).toNat) := rfl
 generalize (v_own R (p2.getD i 0).toNat (p2.getD (i + 1) 0).toNat)=O at *
 have main := @for_is ((Int×Int)×Int×Int) (Int×(Int×Int)×Int×Int) ((Int×Int×Int) ⊕ ((Int×Int×Int) ⊕ ((Int×Int)×Int))) (.inr (.inr ((0,0),0))) (st_Z1_0 p0 p1 p2 y0 ((i:Int),out)) (sp_Z1_0 p0 p1 p2 y0 ((i:Int),out)) (fun i t => (i,t)) 0 O.length (fun j t => t = (O.take j).foldl v_mms s) (fun _ _ => .inl (((i + 1:Nat):Int),IntKind.i64.wrap (out.1 + max 0 (IntKind.i64.wrap ((O.foldl v_mms s).1.2 - (O.foldl v_mms s).2.1))),IntKind.i64.wrap (out.2 + IntKind.i64.wrap ((O.foldl v_mms s).2.2 - (O.foldl v_mms s).1.1)))) (Nat.zero_le _) (by omega) ?_ ?_ s rfl
 ·exact main
 ·rintro t h1
  rw [List.take_length] at h1
  simp only [sp_Z1_0,st_Z1_0,fM,Int.toNat_natCast,hw0,hR,hO,decide_eq_false (Int.lt_irrefl (O.length:Int)),cond_false,h1]
  refine ⟨?_,by first | rfl | trivial⟩
  and_intros
  all_goals first
   | (intro h; cases h; done)
   | (intro p hp; cases hp)
 ·rintro j t h0 hj h1
  have hw1:IntKind.i64.wrap ((j:Int) + 1)=((j + 1:Nat):Int) := wrap_id (by omega) (by omega)
  have hd:decide ((j:Int) < (O.length:Int))=true := decide_eq_true (by omega)
  simp only [sp_Z1_0,st_Z1_0,fM,Int.toNat_natCast,hw0,hw1,hR,hO,hd,cond_true]
  refine ⟨?_,.inl ⟨v_mms t (O.getD j (0,0)),rfl,by rw [v_fold_snoc hj,h1],by first | rfl | trivial⟩⟩
  and_intros
  all_goals first
   | (intro p hp; cases hp; done)
   | (intros; omega)
theorem l_Z1_1 (p0:List (Int×Int×Int×Int×Int)) (p1:Int×Int×Int×Int×Int×Int×Int×Int×Int) (p2:gF) (y0:Int×Int×Int) (i:Nat) (out:gG) (s:(Int×Int)×Int×Int) (R:gC) (hR:v_rmx p0 p1 0 = (R,0)) (hi:i≤100) (hlen:R.length≤20):OkL (st_Z1_1 p0 p1 p2 y0 ((i:Int),out)) (sp_Z1_1 p0 p1 p2 y0 ((i:Int),out)) (0,s)∧lpv (.inr (.inr ((0,0),0))) (st_Z1_1 p0 p1 p2 y0 ((i:Int),out)) (0,s) = .inl (((i + 1:Nat):Int),IntKind.i64.wrap (out.1 + max 0 (IntKind.i64.wrap (((v_own R (p2.getD i 0).toNat p0.length).foldl v_mms s).1.2 - ((v_own R (p2.getD i 0).toNat p0.length).foldl v_mms s).2.1))),IntKind.i64.wrap (out.2 + IntKind.i64.wrap (((v_own R (p2.getD i 0).toNat p0.length).foldl v_mms s).2.2 - ((v_own R (p2.getD i 0).toNat p0.length).foldl v_mms s).1.1))) := by
 have hw0:IntKind.i64.wrap ((i:Int) + 1)=((i + 1:Nat):Int) := wrap_id (by omega) (by omega)
 have hol:(v_own R (p2.getD i 0).toNat p0.length).length≤20 := by unfold v_own; rw [List.length_take,List.length_drop]; omega
 have hO:List.take (p0.length - (p2.getD i 0).toNat) (List.drop (p2.getD i 0).toNat R)=(v_own R (p2.getD i 0).toNat p0.length) := rfl
 generalize (v_own R (p2.getD i 0).toNat p0.length)=O at *
 have main := @for_is ((Int×Int)×Int×Int) (Int×(Int×Int)×Int×Int) ((Int×Int×Int) ⊕ ((Int×Int×Int) ⊕ ((Int×Int)×Int))) (.inr (.inr ((0,0),0))) (st_Z1_1 p0 p1 p2 y0 ((i:Int),out)) (sp_Z1_1 p0 p1 p2 y0 ((i:Int),out)) (fun i t => (i,t)) 0 O.length (fun j t => t = (O.take j).foldl v_mms s) (fun _ _ => .inl (((i + 1:Nat):Int),IntKind.i64.wrap (out.1 + max 0 (IntKind.i64.wrap ((O.foldl v_mms s).1.2 - (O.foldl v_mms s).2.1))),IntKind.i64.wrap (out.2 + IntKind.i64.wrap ((O.foldl v_mms s).2.2 - (O.foldl v_mms s).1.1)))) (Nat.zero_le _) (by omega) ?_ ?_ s rfl
 ·exact main
 ·rintro t h1
  rw [List.take_length] at h1
  simp only [sp_Z1_1,st_Z1_1,fM,Int.toNat_natCast,hw0,hR,hO,decide_eq_false (Int.lt_irrefl (O.length:Int)),cond_false,h1]
  refine ⟨?_,by first | rfl | trivial⟩
  and_intros
  all_goals first
   | (intro h; cases h; done)
   | (intro p hp; cases hp)
 ·rintro j t h0 hj h1
  have hw1:IntKind.i64.wrap ((j:Int) + 1)=((j + 1:Nat):Int) := wrap_id (by omega) (by omega)
  have hd:decide ((j:Int) < (O.length:Int))=true := decide_eq_true (by omega)
  simp only [sp_Z1_1,st_Z1_1,fM,Int.toNat_natCast,hw0,hw1,hR,hO,hd,cond_true]
  refine ⟨?_,.inl ⟨v_mms t (O.getD j (0,0)),rfl,by rw [v_fold_snoc hj,h1],by first | rfl | trivial⟩⟩
  and_intros
  all_goals first
   | (intro p hp; cases hp; done)
   | (intros; omega)
/-- What FigureOf answers. -/
def v_e0 (l:List (Int×Int×Int×Int×Int)) (f:Int×Int×Int×Int×Int×Int×Int×Int×Int) (g:gF):Int := v_first [(v_rmx l f 0).2,cond (decide ((g.length:Int) > 0)) 0 10]
def v_ef (l:List (Int×Int×Int×Int×Int)) (f:Int×Int×Int×Int×Int×Int×Int×Int×Int) (g:gF) (j:Nat):Int := cond (v_e0 l f g != 0) (v_e0 l f g) (v_lgs l.length (-1) (g.take j))
def v_fgx (l:List (Int×Int×Int×Int×Int)) (f:Int×Int×Int×Int×Int×Int×Int×Int×Int) (g:gF):(Int×Int)×Int := cond (v_ef l f g g.length != 0) ((0,0),v_ef l f g g.length) (v_fig (v_rem l 0 f) l.length g g.length,0)
theorem v_fgx_cases (l:List (Int×Int×Int×Int×Int)) (f:Int×Int×Int×Int×Int×Int×Int×Int×Int) (g:gF):((v_cs l).2 ≠ 0∧v_fgx l f g = ((0,0),(v_cs l).2)) ∨ (v_cs l).2 = 0∧((v_ferr f ≠ 0∧v_fgx l f g = ((0,0),v_ferr f)) ∨ v_ferr f = 0∧((v_lger l.length g ≠ 0∧v_fgx l f g = ((0,0),v_lger l.length g)) ∨ (v_lger l.length g = 0∧v_fgx l f g = (v_fig (v_rem l 0 f) l.length g g.length,0)))) := by
 unfold v_fgx v_ef v_e0
 rw [tx_first2,List.take_length]
 rcases v_rmx_cases l f 0 with ⟨c1,e⟩ | ⟨c1,⟨c2,e⟩ | ⟨c2,e⟩⟩ <;> rw [e]
 ·refine .inl ⟨c1,?_⟩
  simp only [show ((v_cs l).2 != 0)=true from bne_iff_ne.2 c1,cond_true]
 ·refine .inr ⟨c1,.inl ⟨c2,?_⟩⟩
  simp only [show (v_ferr f != 0)=true from bne_iff_ne.2 c2,cond_true]
 ·refine .inr ⟨c1,.inr ⟨c2,?_⟩⟩
  unfold v_lger
  rcases int0 (g.length:Int) with ⟨z,_,e0⟩ | ⟨z,_,e0⟩
  ·refine .inl ⟨by rw [e0]; exact (by decide:(10:Int) ≠ 0),?_⟩
   rw [e0,z]; rfl
  ·rw [e0,decide_eq_true (show (g.length:Int) > 0 by omega)]
   rcases int0 (v_lgs l.length (-1) g) with ⟨z2,e2,_⟩ | ⟨z2,e2,_⟩
   ·exact .inr ⟨z2,by simp [z2]⟩
   ·exact .inl ⟨z2,by simp [z2]; rw [e2]; rfl⟩
theorem v_ef_ok {l:List (Int×Int×Int×Int×Int)} {f:Int×Int×Int×Int×Int×Int×Int×Int×Int} {g:List Int} (h:v_ef l f g g.length = 0):v_smp l∧v_fok f∧v_lok l.length g∧v_rmx l f 0 = (v_rem l 0 f,0) := by
 have h' := h
 unfold v_ef at h
 rcases int0 (v_e0 l f g) with ⟨z,e,_⟩ | ⟨z,e,_⟩ <;> rw [e] at h
 ·rw [cond_false,List.take_length] at h
  unfold v_e0 at z
  have z1 := (v_first0 z).1
  rcases v_rmx_cases l f 0 with ⟨c1,e⟩ | ⟨c1,⟨c2,e⟩ | ⟨c2,e⟩⟩
  ·rw [e] at z1; exact (c1 z1).elim
  ·rw [e] at z1; exact (c2 z1).elim
  ·exact ⟨v_cs_iff.1 c1,v_ferr_ok c2,v_lger_ok h,e⟩
 ·exact (z h).elim
theorem v_ef_step {l:List (Int×Int×Int×Int×Int)} {f:Int×Int×Int×Int×Int×Int×Int×Int×Int} {g:List Int} {j:Nat} (hj:j < g.length):v_first [v_ef l f g j,cond (s_Z4 (g.getD j 0) 0 ((l.length:Int) - 1)) 0 2,cond (decide (g.getD j 0 > (g.take j).getLastD (-1))) 0 9]=v_ef l f g (j + 1) := by
 rw [tx_first3]
 unfold v_ef
 rcases int0 (v_e0 l f g) with ⟨z,e,_⟩ | ⟨z,e,_⟩
 ·rw [e,cond_false,cond_false,v_take_snoc hj,v_lgs_app,v_lgs_cons]
  cases s_Z4 (g.getD j 0) 0 ((l.length:Int) - 1)
  ·rfl
  ·cases decide (g.getD j 0 > (g.take j).getLastD (-1)) <;> rfl
 ·rw [e]; simp only [cond_true]; rw [e]; rfl
theorem l_Z1_2 (p0:List (Int×Int×Int×Int×Int)) (p1:Int×Int×Int×Int×Int×Int×Int×Int×Int) (p2:gF) (y0:Int×Int×Int) (R:gC) (hR:v_rmx p0 p1 0 = (R,0)) (hl:p0.length≤20) (hn:R.length = p0.length) (hb:v_bds 101000000000001 R) (hg:v_lok p0.length p2):OkL (st_Z1_2 p0 p1 p2 y0) (sp_Z1_2 p0 p1 p2 y0) (0,0,0)∧lpv (.inr ((0,0),0)) (st_Z1_2 p0 p1 p2 y0) (0,0,0) = .inr (v_fig R p0.length p2 p2.length,0) := by
 have hgl := hg.len
 have main := @for_is (Int×Int) (Int×Int×Int) ((Int×Int×Int) ⊕ ((Int×Int)×Int)) (.inr ((0,0),0)) (st_Z1_2 p0 p1 p2 y0) (sp_Z1_2 p0 p1 p2 y0) (fun i t => (i,t)) 0 p2.length (fun j t => t = v_fig R p0.length p2 j) (fun _ _ => .inr (v_fig R p0.length p2 p2.length,0)) (Nat.zero_le _) (by omega) ?_ ?_ (0,0) rfl
 ·exact main
 ·rintro t h1
  simp only [sp_Z1_2,st_Z1_2,fM,decide_eq_false (Int.lt_irrefl (p2.length:Int)),cond_false,h1]
  refine ⟨?_,by first | rfl | trivial⟩
  and_intros
  all_goals first
   | (intro h; cases h; done)
   | (intro p hp; cases hp)
 ·rintro j t h0 hj h1
  have hw1:IntKind.i64.wrap ((j:Int) + 1)=((j + 1:Nat):Int) := wrap_id (by omega) (by omega)
  have hd:decide ((j:Int) < (p2.length:Int))=true := decide_eq_true (by omega)
  have hk := hg.ok j hj
  have he := v_end_is hg hj
  have fb := v_fig_bd hg hn hb j (by omega)
  have xb := v_ext_bd (e := (v_end p0.length p2 j).toNat) hb (show (p2.getD j 0).toNat < R.length by omega)
  have hfs:v_fig R p0.length p2 (j + 1)=((v_fig R p0.length p2 j).1 + max 0 ((v_leg R p0.length p2 j).1.2 - (v_leg R p0.length p2 j).2.1),(v_fig R p0.length p2 j).2 + ((v_leg R p0.length p2 j).2.2 - (v_leg R p0.length p2 j).1.1)) := rfl
  obtain ⟨a,b,c,d⟩ := xb
  have hst:(((R.getD (p2.getD j 0).toNat (0,0)).1,(R.getD (p2.getD j 0).toNat (0,0)).1),((R.getD (p2.getD j 0).toNat (0,0)).2,(R.getD (p2.getD j 0).toNat (0,0)).2))=v_st R (p2.getD j 0).toNat := rfl
  have lg:v_ext R (p2.getD j 0).toNat (v_end p0.length p2 j).toNat = v_leg R p0.length p2 j := rfl
  rw [lg] at a b c d
  have w1:IntKind.i64.wrap ((v_leg R p0.length p2 j).1.2 - (v_leg R p0.length p2 j).2.1)=(v_leg R p0.length p2 j).1.2 - (v_leg R p0.length p2 j).2.1 := wrap_id (by omega) (by omega)
  have w2:IntKind.i64.wrap ((v_leg R p0.length p2 j).2.2 - (v_leg R p0.length p2 j).1.1)=(v_leg R p0.length p2 j).2.2 - (v_leg R p0.length p2 j).1.1 := wrap_id (by omega) (by omega)
  have w3:IntKind.i64.wrap ((v_fig R p0.length p2 j).1 + max 0 ((v_leg R p0.length p2 j).1.2 - (v_leg R p0.length p2 j).2.1))=(v_fig R p0.length p2 j).1 + max 0 ((v_leg R p0.length p2 j).1.2 - (v_leg R p0.length p2 j).2.1) := wrap_id (by omega) (by omega)
  have w4:IntKind.i64.wrap ((v_fig R p0.length p2 j).2 + ((v_leg R p0.length p2 j).2.2 - (v_leg R p0.length p2 j).1.1))=(v_fig R p0.length p2 j).2 + ((v_leg R p0.length p2 j).2.2 - (v_leg R p0.length p2 j).1.1) := wrap_id (by omega) (by omega)
  subst h1
  obtain ⟨q1,q2⟩ := l_Z1_0 p0 p1 p2 y0 j (v_fig R p0.length p2 j) (v_st R (p2.getD j 0).toNat) R hR (by omega) (by omega)
  obtain ⟨r1,r2⟩ := l_Z1_1 p0 p1 p2 y0 j (v_fig R p0.length p2 j) (v_st R (p2.getD j 0).toNat) R hR (by omega) (by omega)
  have hj2:((j + 1:Nat):Int)=(j:Int) + 1 := rfl
  simp only [sp_Z1_2,st_Z1_2,fM,Int.toNat_natCast,hw1,hR,hd,cond_true,hst]
  refine ⟨?_,.inl ⟨v_fig R p0.length p2 (j + 1),?_,rfl,by first | rfl | trivial⟩⟩
  ·refine ⟨fun _ => by omega,fun _ => by omega,fun _ _ => by omega,fun _ h => by have := of_decide_eq_true h; omega,fun _ _ => by omega,fun _ _ => by omega,fun _ h => ?_,fun _ h => ?_,fun _ _ => q1,fun _ _ => by omega,fun _ _ => by omega,fun _ _ => by omega,fun _ _ => by omega,fun _ _ => r1,fun p hp => by cases hp⟩
   ·have := of_decide_eq_true h
    have := hg.asc j (by omega); omega
   ·have := of_decide_eq_true h
    have := hg.ok (j + 1) (by omega); omega
  ·cases k:decide (((j + 1:Nat):Int) < (p2.length:Int))
   ·have hv:(v_end p0.length p2 j).toNat = p0.length := by
     unfold v_end; rw [← hj2,k]; rfl
    have hx:(v_own R (p2.getD j 0).toNat p0.length).foldl v_mms (v_st R (p2.getD j 0).toNat)=v_leg R p0.length p2 j := by
     unfold v_leg v_ext; rw [hv]
    rw [cond_false,r2,hx,w1,w2,w3,w4,hfs]
   ·have hv:(v_end p0.length p2 j).toNat = (p2.getD (j + 1) 0).toNat := by
     unfold v_end; rw [← hj2,k]; rfl
    have hx:(v_own R (p2.getD j 0).toNat (p2.getD (j + 1) 0).toNat).foldl v_mms (v_st R (p2.getD j 0).toNat)=v_leg R p0.length p2 j := by
     unfold v_leg v_ext; rw [hv]
    rw [cond_true,q2,hx,w1,w2,w3,w4,hfs]
theorem l_Z1_3 (p0:List (Int×Int×Int×Int×Int)) (p1:Int×Int×Int×Int×Int×Int×Int×Int×Int) (p2:gF) (h1:lenOk p0) (h2:p2.length≤1000):OkL (st_Z1_3 p0 p1 p2) (sp_Z1_3 p0 p1 p2) (0,-1,v_e0 p0 p1 p2)∧lpv ((0,0),0) (st_Z1_3 p0 p1 p2) (0,-1,v_e0 p0 p1 p2)=v_fgx p0 p1 p2 := by
 unfold lenOk at h1
 have main := @for_is (Int×Int) (Int×Int×Int) ((Int×Int)×Int) ((0,0),0) (st_Z1_3 p0 p1 p2) (sp_Z1_3 p0 p1 p2) (fun i t => (i,t)) 0 p2.length (fun j t => t = ((p2.take j).getLastD (-1),v_ef p0 p1 p2 j)) (fun _ _ => v_fgx p0 p1 p2) (Nat.zero_le _) (by omega) ?_ ?_ (-1,v_e0 p0 p1 p2) ?_
 ·exact main
 ·rintro t h3
  simp only [sp_Z1_3,st_Z1_3,fM,decide_eq_false (Int.lt_irrefl (p2.length:Int)),cond_false,h3]
  unfold v_fgx
  rcases int0 (v_ef p0 p1 p2 p2.length) with ⟨z,e,_⟩ | ⟨z,e,_⟩ <;> rw [e]
  ·obtain ⟨s1,s2,s3,s4⟩ := v_ef_ok z
   obtain ⟨q1,q2⟩ := l_Z1_2 p0 p1 p2 ((p2.length:Int),(p2.take p2.length).getLastD (-1),v_ef p0 p1 p2 p2.length) _ s4 s1.len (v_rem_len _ _ _) (v_rem_bds s1 s2) s3
   refine ⟨?_,by rw [cond_false,cond_false,q2]⟩
   and_intros
   all_goals first
    | (intro h; cases h; done)
    | (intro p hp; cases hp; done)
    | (intros; exact q1)
  ·refine ⟨?_,rfl⟩
   and_intros
   all_goals first
    | (intro h; cases h; done)
    | (intro _ h; cases h; done)
    | (intro p hp; cases hp; done)
 ·rintro j t h0 hj h3
  have hw1:IntKind.i64.wrap ((j:Int) + 1)=((j + 1:Nat):Int) := wrap_id (by omega) (by omega)
  have hw3:IntKind.i64.wrap ((p0.length:Int) - 1)=(p0.length:Int) - 1 := wrap_id (by omega) (by omega)
  have hd:decide ((j:Int) < (p2.length:Int))=true := decide_eq_true (by omega)
  have hls:(p2.take (j + 1)).getLastD (-1)=p2.getD j 0 := by rw [v_take_last (by omega) (by omega),Nat.add_sub_cancel]
  simp only [sp_Z1_3,st_Z1_3,fM,Int.toNat_natCast,hw1,hw3,hd,cond_true,h3,tx_unless,tx_withinG]
  refine ⟨?_,.inl ⟨(p2.getD j 0,v_ef p0 p1 p2 (j + 1)),by rw [v_ef_step hj],by rw [hls],by first | rfl | trivial⟩⟩
  and_intros
  all_goals first
   | (intro h; cases h; done)
   | (intro p hp; cases hp; done)
   | (intros; omega)
 ·unfold v_ef
  rw [List.take_zero]
  rcases int0 (v_e0 p0 p1 p2) with ⟨z,e,_⟩ | ⟨z,e,_⟩ <;> rw [e]
  ·rw [z]; rfl
  ·rfl
abbrev t_Z1 (p0:List (Int×Int×Int×Int×Int)) (p1:Int×Int×Int×Int×Int×Int×Int×Int×Int) (p2:gF):(Int×Int)×Int := v_fgx p0 p1 p2
abbrev qre_Z1 (p0:List (Int×Int×Int×Int×Int)) (_p1:Int×Int×Int×Int×Int×Int×Int×Int×Int) (p2:gF):List Prop := [lenOk p0,p2.length≤1000]
theorem pp_Z1 (p0:List (Int×Int×Int×Int×Int)) (p1:Int×Int×Int×Int×Int×Int×Int×Int×Int) (p2:gF) (hq:∀ p∈qre_Z1 p0 p1 p2,p):∀ p∈pre_Z1 p0 p1 p2,p := by
 obtain ⟨h1,h2,_⟩ := conj_of hq
 simp only [pre_Z1,fM,tx_unless,show ∀ (x:List (Int×Int×Int×Int×Int)) (y:Int×Int×Int×Int×Int×Int×Int×Int×Int) (z:gF),v_first [(v_rmx x y 0).2,cond (decide ((z.length:Int) > 0)) 0 10]=v_e0 x y z from fun _ _ _ => rfl]
 exact ⟨(l_Z1_3 p0 p1 p2 h1 h2).1,by simp⟩
theorem tt_Z1 (p0:List (Int×Int×Int×Int×Int)) (p1:Int×Int×Int×Int×Int×Int×Int×Int×Int) (p2:gF) (hq:∀ p∈qre_Z1 p0 p1 p2,p):s_Z1 p0 p1 p2 = t_Z1 p0 p1 p2 := by
 obtain ⟨h1,h2,_⟩ := conj_of hq
 unfold s_Z1 t_Z1
 simp only [tx_unless,show ∀ (x:List (Int×Int×Int×Int×Int)) (y:Int×Int×Int×Int×Int×Int×Int×Int×Int) (z:gF),v_first [(v_rmx x y 0).2,cond (decide ((z.length:Int) > 0)) 0 10]=v_e0 x y z from fun _ _ _ => rfl]
 exact (l_Z1_3 p0 p1 p2 h1 h2).2

abbrev con_Z1:Con := ⟨P_Z1,R_Z1,fun x => qre_Z1 x.1 x.2.1 x.2.2,fun x => t_Z1 x.1 x.2.1 x.2.2⟩
theorem ok_Z1:ConOk Try.prog 56 con_Z1 := okG k_Z1 e_Z1 hC_Z1 fun x hx => tf_of (w_Z1_eq x.1 x.2.1 x.2.2 _) (d_Z1 x.1 x.2.1 x.2.2 _ (pp_Z1 x.1 x.2.1 x.2.2 hx) (tt_Z1 x.1 x.2.1 x.2.2 hx))
def C_Z14:Cons := [(34,[],con_Z5)]
theorem hC_Z14:ConsOk Try.prog C_Z14 := cC ok_Z5 <| ConsOk.nil
def w_Z14 (p0:(List (Int×(Int×(Int×(Int×Int)))))) (K:Int→Prop):Prop := (K (v_cs p0).2)
theorem w_Z14_eq (p0:(List (Int×(Int×(Int×(Int×Int)))))) (K:Int→Prop):tfn F_Z14 A_Z14 C_Z14 P_Z14 R_Z14 p0 K = w_Z14 p0 K := by kernel_rfl
def s_Z14 (p0:(List (Int×(Int×(Int×(Int×Int)))))):Int := (v_cs p0).2
abbrev pre_Z14 (_p0:(List (Int×(Int×(Int×(Int×Int)))))):List Prop := []
theorem d_Z14 (p0:(List (Int×(Int×(Int×(Int×Int)))))) (K:Int→Prop) (_hp:∀ p∈pre_Z14 p0,p) (h:K (s_Z14 p0)):w_Z14 p0 K := by
 unfold w_Z14
 unfold s_Z14 at h
 exact h
abbrev con_Z14:Con := ⟨P_Z14,R_Z14,fun x => pre_Z14 x,fun x => s_Z14 x⟩
theorem ok_Z14:ConOk Try.prog 24 con_Z14 := okG k_Z14 e_Z14 hC_Z14 fun x hx => tf_of (w_Z14_eq x _) (d_Z14 x _ hx rfl)
def C_Zm:Cons := [(17,[],con_Z4)]
theorem hC_Zm:ConsOk Try.prog C_Zm := cC ok_Z4 <| ConsOk.nil
def w_Zm (p0:(Int×(Int×(Int×(Int×(Int×(Int×(Int×(Int×Int))))))))) (K:Int→Prop):Prop := ((((!(s_Z4 p0.1 zz1 (1000000000:Int)))=true) →(K (2:Int))) ∧(((!(s_Z4 p0.1 zz1 (1000000000:Int)))=false) →(∃ n0,(loopP (fun (y1:Int) k2 => ((((decide (y1 < 8))=true) →((zz0≤y1) ∧((y1 < 8) ∧((((!(s_Z4 (List.getD (p0.2.1 :: (p0.2.2.1 :: (p0.2.2.2.1 :: (p0.2.2.2.2.1 :: (p0.2.2.2.2.2.1 :: (p0.2.2.2.2.2.2.1 :: (p0.2.2.2.2.2.2.2.1 :: (p0.2.2.2.2.2.2.2.2 :: ([]:List Int))))))))) y1.toNat zz0) (-1000000000:Int) (1000000000:Int)))=true) →(K (2:Int))) ∧(((!(s_Z4 (List.getD (p0.2.1 :: (p0.2.2.1 :: (p0.2.2.2.1 :: (p0.2.2.2.2.1 :: (p0.2.2.2.2.2.1 :: (p0.2.2.2.2.2.2.1 :: (p0.2.2.2.2.2.2.2.1 :: (p0.2.2.2.2.2.2.2.2 :: ([]:List Int))))))))) y1.toNat zz0) (-1000000000:Int) (1000000000:Int)))=false) →(k2 (IntKind.i64.wrap (y1 + 1)))))))) ∧(((decide (y1 < 8))=false) →(K zz0)))) n0 zz0))))
theorem w_Zm_eq (p0:(Int×(Int×(Int×(Int×(Int×(Int×(Int×(Int×Int))))))))) (K:Int→Prop):tfn F_Zm A_Zm C_Zm P_Zm R_Zm p0 K = w_Zm p0 K := by kernel_rfl
def s_Zm (p0:(Int×(Int×(Int×(Int×(Int×(Int×(Int×(Int×Int))))))))):Int := (cond (!(s_Z4 p0.1 (1:Int) (1000000000:Int))) (2:Int) (cond (!(s_Z4 p0.2.1 (-1000000000:Int) (1000000000:Int))) (2:Int) (cond (!(s_Z4 p0.2.2.1 (-1000000000:Int) (1000000000:Int))) (2:Int) (cond (!(s_Z4 p0.2.2.2.1 (-1000000000:Int) (1000000000:Int))) (2:Int) (cond (!(s_Z4 p0.2.2.2.2.1 (-1000000000:Int) (1000000000:Int))) (2:Int) (cond (!(s_Z4 p0.2.2.2.2.2.1 (-1000000000:Int) (1000000000:Int))) (2:Int) (cond (!(s_Z4 p0.2.2.2.2.2.2.1 (-1000000000:Int) (1000000000:Int))) (2:Int) (cond (!(s_Z4 p0.2.2.2.2.2.2.2.1 (-1000000000:Int) (1000000000:Int))) (2:Int) (cond (!(s_Z4 p0.2.2.2.2.2.2.2.2 (-1000000000:Int) (1000000000:Int))) (2:Int) (0:Int))))))))))
abbrev pre_Zm (_p0:(Int×(Int×(Int×(Int×(Int×(Int×(Int×(Int×Int))))))))):List Prop := []
theorem d_Zm (p0:(Int×(Int×(Int×(Int×(Int×(Int×(Int×(Int×Int))))))))) (K:Int→Prop) (_hp:∀ p∈pre_Zm p0,p) (h:K (s_Zm p0)):w_Zm p0 K := by
 unfold w_Zm
 unfold s_Zm at h
 exact (br' h (fun e0 h => h)
  (fun e0 h => ⟨31,fun _ => ⟨(od rfl),(od rfl),(br' h (fun e1 h => h)
  (fun e1 h => ⟨fun _ => ⟨(od rfl),(od rfl),(br' h (fun e2 h => h)
  (fun e2 h => ⟨fun _ => ⟨(od rfl),(od rfl),(br' h (fun e3 h => h)
  (fun e3 h => ⟨fun _ => ⟨(od rfl),(od rfl),(br' h (fun e4 h => h)
  (fun e4 h => ⟨fun _ => ⟨(od rfl),(od rfl),(br' h (fun e5 h => h)
  (fun e5 h => ⟨fun _ => ⟨(od rfl),(od rfl),(br' h (fun e6 h => h)
  (fun e6 h => ⟨fun _ => ⟨(od rfl),(od rfl),(br' h (fun e7 h => h)
  (fun e7 h => ⟨fun _ => ⟨(od rfl),(od rfl),(br' h (fun e8 h => h)
  (fun e8 h => ⟨nof,fun _ => h⟩))⟩,fun e => Bool.noConfusion (show true = false from e)⟩))⟩,fun e => Bool.noConfusion (show true = false from e)⟩))⟩,fun e => Bool.noConfusion (show true = false from e)⟩))⟩,fun e => Bool.noConfusion (show true = false from e)⟩))⟩,fun e => Bool.noConfusion (show true = false from e)⟩))⟩,fun e => Bool.noConfusion (show true = false from e)⟩))⟩,fun e => Bool.noConfusion (show true = false from e)⟩))⟩,fun e => Bool.noConfusion (show true = false from e)⟩))
abbrev t_Zm (p0:Int×Int×Int×Int×Int×Int×Int×Int×Int):Int := v_ferr p0
abbrev qre_Zm (_p0:Int×Int×Int×Int×Int×Int×Int×Int×Int):List Prop := []
theorem pp_Zm (p0:Int×Int×Int×Int×Int×Int×Int×Int×Int) (_hq:∀ p∈qre_Zm p0,p):∀ p∈pre_Zm p0,p := by
 simp [pre_Zm]
theorem tt_Zm (p0:Int×Int×Int×Int×Int×Int×Int×Int×Int) (_hq:∀ p∈qre_Zm p0,p):s_Zm p0 = t_Zm p0 := by
 unfold s_Zm t_Zm v_ferr
 cases c:s_Z4 p0.1 1 1000000000
 ·rfl
 simp only [v_parts,List.all_cons,List.all_nil,cond_true,Bool.not_true,cond_false]
 have e:∀ x,s_Z4 x (-1000000000) 1000000000 = v_prt x := fun _ => rfl
 simp only [e]
 cases v_prt p0.2.1
 ·rfl
 cases v_prt p0.2.2.1
 ·rfl
 cases v_prt p0.2.2.2.1
 ·rfl
 cases v_prt p0.2.2.2.2.1
 ·rfl
 cases v_prt p0.2.2.2.2.2.1
 ·rfl
 cases v_prt p0.2.2.2.2.2.2.1
 ·rfl
 cases v_prt p0.2.2.2.2.2.2.2.1
 ·rfl
 cases v_prt p0.2.2.2.2.2.2.2.2 <;> rfl

abbrev con_Zm:Con := ⟨P_Zm,R_Zm,fun x => qre_Zm x,fun x => t_Zm x⟩
theorem ok_Zm:ConOk Try.prog 26 con_Zm := okG k_Zm e_Zm hC_Zm fun x hx => tf_of (w_Zm_eq x _) (d_Zm x _ (pp_Zm x hx) (tt_Zm x hx))
def C_Zf:Cons := []
theorem hC_Zf:ConsOk Try.prog C_Zf := ConsOk.nil
abbrev q0_Zf (p0:(List (Int×(Int×(Int×(Int×Int)))))) (p1:Int) := (p0.getD p1.toNat (zz0,(zz0,(zz0,(zz0,zz0)))))
def w_Zf (p0:(List (Int×(Int×(Int×(Int×Int)))))) (p1:Int) (K:(Int×(Int×(Int×(Int×(Int×(Int×(Int×Int)))))))→Prop):Prop := ((zz0≤p1) ∧((p1 < (p0.length:Int)) ∧((((decide (p1 > zz0))=true) →((zz0≤(wi (p1 - zz1))) ∧(((wi (p1 - zz1)) < (p0.length:Int)) ∧((zz0≤(wi (p1 - zz1))) ∧(((wi (p1 - zz1)) < (p0.length:Int)) ∧(K (zz1,((q0_Zf p0 p1).2.1,((q0_Zf p0 p1).2.2.1,((q0_Zf p0 p1).2.2.2.1,((wi ((q0_Zf p0 p1).2.1 * (q0_Zf p0 p1).2.1)),((wi ((q0_Zf p0 p1).2.1 * (q0_Zf p0 p1).2.2.1)),((wi ((q0_Zf p0 p1).2.1 - (p0.getD (Int.toNat (wi (p1 - zz1))) (zz0,(zz0,(zz0,(zz0,zz0))))).2.1)),(wi ((q0_Zf p0 p1).2.2.1 - (p0.getD (Int.toNat (wi (p1 - zz1))) (zz0,(zz0,(zz0,(zz0,zz0))))).2.2.1))))))))))))))) ∧(((decide (p1 > zz0))=false) →(K (zz1,((q0_Zf p0 p1).2.1,((q0_Zf p0 p1).2.2.1,((q0_Zf p0 p1).2.2.2.1,((wi ((q0_Zf p0 p1).2.1 * (q0_Zf p0 p1).2.1)),((wi ((q0_Zf p0 p1).2.1 * (q0_Zf p0 p1).2.2.1)),(zz0,zz0))))))))))))
theorem w_Zf_eq (p0:(List (Int×(Int×(Int×(Int×Int)))))) (p1:Int) (K:(Int×(Int×(Int×(Int×(Int×(Int×(Int×Int)))))))→Prop):tfn F_Zf A_Zf C_Zf P_Zf R_Zf (p0,p1) K = w_Zf p0 p1 K := by kernel_rfl
def s_Zf (p0:(List (Int×(Int×(Int×(Int×Int)))))) (p1:Int):(Int×(Int×(Int×(Int×(Int×(Int×(Int×Int))))))) := (cond (decide (p1 > 0)) ((1:Int),((p0.getD p1.toNat ((0:Int),((0:Int),((0:Int),(0,0))))).2.1,((p0.getD p1.toNat ((0:Int),((0:Int),((0:Int),(0,0))))).2.2.1,((p0.getD p1.toNat ((0:Int),((0:Int),((0:Int),(0,0))))).2.2.2.1,((IntKind.i64.wrap ((p0.getD p1.toNat ((0:Int),((0:Int),((0:Int),(0,0))))).2.1 * (p0.getD p1.toNat ((0:Int),((0:Int),((0:Int),(0,0))))).2.1)),((IntKind.i64.wrap ((p0.getD p1.toNat ((0:Int),((0:Int),((0:Int),(0,0))))).2.1 * (p0.getD p1.toNat ((0:Int),((0:Int),((0:Int),(0,0))))).2.2.1)),((IntKind.i64.wrap ((p0.getD p1.toNat ((0:Int),((0:Int),((0:Int),(0,0))))).2.1 - (p0.getD (Int.toNat (IntKind.i64.wrap (p1 - 1))) ((0:Int),((0:Int),((0:Int),(0,0))))).2.1)),(IntKind.i64.wrap ((p0.getD p1.toNat ((0:Int),((0:Int),((0:Int),(0,0))))).2.2.1 - (p0.getD (Int.toNat (IntKind.i64.wrap (p1 - 1))) ((0:Int),((0:Int),((0:Int),(0,0))))).2.2.1))))))))) ((1:Int),((p0.getD p1.toNat ((0:Int),((0:Int),((0:Int),(0,0))))).2.1,((p0.getD p1.toNat ((0:Int),((0:Int),((0:Int),(0,0))))).2.2.1,((p0.getD p1.toNat ((0:Int),((0:Int),((0:Int),(0,0))))).2.2.2.1,((IntKind.i64.wrap ((p0.getD p1.toNat ((0:Int),((0:Int),((0:Int),(0,0))))).2.1 * (p0.getD p1.toNat ((0:Int),((0:Int),((0:Int),(0,0))))).2.1)),((IntKind.i64.wrap ((p0.getD p1.toNat ((0:Int),((0:Int),((0:Int),(0,0))))).2.1 * (p0.getD p1.toNat ((0:Int),((0:Int),((0:Int),(0,0))))).2.2.1)),(0,0))))))))
abbrev pre_Zf (p0:(List (Int×(Int×(Int×(Int×Int)))))) (p1:Int):List Prop := [((0:Int)≤p1),(p1 < (p0.length:Int)),(((decide (p1 > 0))=true)→((0:Int)≤(IntKind.i64.wrap (p1 - 1)))),(((decide (p1 > 0))=true)→((IntKind.i64.wrap (p1 - 1)) < (p0.length:Int)))]
theorem d_Zf (p0:(List (Int×(Int×(Int×(Int×Int)))))) (p1:Int) (K:(Int×(Int×(Int×(Int×(Int×(Int×(Int×Int)))))))→Prop) (hp:∀ p∈pre_Zf p0 p1,p) (h:K (s_Zf p0 p1)):w_Zf p0 p1 K := by
 unfold w_Zf
 unfold s_Zf at h
 obtain ⟨hp0,hp1,hp2,hp3,_⟩ := conj_of hp
 exact ⟨(hp0),(hp1),(br' h (fun e0 h => ⟨(hp2 e0),(hp3 e0),(hp2 e0),(hp3 e0),h⟩)
  (fun e0 h => h))⟩
abbrev t_Zf (p0:List (Int×Int×Int×Int×Int)) (p1:Int):Int×Int×Int×Int×Int×Int×Int×Int := v_tms p0 p1.toNat
abbrev qre_Zf (p0:List (Int×Int×Int×Int×Int)) (p1:Int):List Prop := [v_smp p0,0≤p1,p1 < p0.length]
theorem pp_Zf (p0:List (Int×Int×Int×Int×Int)) (p1:Int) (hq:∀ p∈qre_Zf p0 p1,p):∀ p∈pre_Zf p0 p1,p := by
 obtain ⟨h1,h2,h3,_⟩ := conj_of hq
 have hl := h1.len
 have hw:IntKind.i64.wrap (p1 - 1)=p1 - 1 := wrap_id (by omega) (by omega)
 simp only [pre_Zf,fM,hw,decide_eq_true_eq]
 and_intros
 all_goals first | (intros; omega) | (intro p hp; cases hp)
theorem tt_Zf (p0:List (Int×Int×Int×Int×Int)) (p1:Int) (hq:∀ p∈qre_Zf p0 p1,p):s_Zf p0 p1 = t_Zf p0 p1 := by
 obtain ⟨h1,h2,h3,_⟩ := conj_of hq
 have hl := h1.len
 have hw:IntKind.i64.wrap (p1 - 1)=p1 - 1 := wrap_id (by omega) (by omega)
 obtain ⟨w1,w2,w3,w4⟩ := v_tms_w h1 (show p1.toNat < p0.length by omega)
 unfold s_Zf t_Zf v_tms
 rw [hw,w1,w2]
 by_cases h0:p1 > 0
 ·rw [decide_eq_true h0,cond_true,show (p1 - 1).toNat = p1.toNat - 1 by omega,w3,w4]
 ·rw [decide_eq_false h0,cond_false,show p1.toNat - 1 = p1.toNat by omega,Int.sub_self,Int.sub_self]

abbrev con_Zf:Con := ⟨P_Zf,R_Zf,fun x => qre_Zf x.1 x.2,fun x => t_Zf x.1 x.2⟩
theorem ok_Zf:ConOk Try.prog 23 con_Zf := okG k_Zf e_Zf hC_Zf fun x hx => tf_of (w_Zf_eq x.1 x.2 _) (d_Zf x.1 x.2 _ (pp_Zf x.1 x.2 hx) (tt_Zf x.1 x.2 hx))
def C_Ze:Cons := [(23,[],con_Zf)]
theorem hC_Ze:ConsOk Try.prog C_Ze := cC ok_Zf <| ConsOk.nil
def w_Ze (p0:(List (Int×(Int×(Int×(Int×Int)))))) (p1:Int) (p2:(Int×(Int×(Int×(Int×(Int×(Int×(Int×(Int×Int))))))))) (p3:Int) (K:Int→Prop):Prop := ((v_smp p0) ∧((zz0≤p1) ∧((p1 < (p0.length:Int)) ∧((zz0≤p1) ∧((p1 < (p0.length:Int)) ∧(∃ n0,(loopP (fun (y1:gG) k2 => ((((decide (y1.1 < 8))=true) →((zz0≤y1.1) ∧((y1.1 < 8) ∧((zz0≤y1.1) ∧((y1.1 < 8) ∧(k2 ((IntKind.i64.wrap (y1.1 + 1)),(IntKind.i64.wrap (y1.2 - (IntKind.i64.wrap ((List.getD (p2.2.1 :: (p2.2.2.1 :: (p2.2.2.2.1 :: (p2.2.2.2.2.1 :: (p2.2.2.2.2.2.1 :: (p2.2.2.2.2.2.2.1 :: (p2.2.2.2.2.2.2.2.1 :: (p2.2.2.2.2.2.2.2.2 :: ([]:List Int))))))))) y1.1.toNat zz0) * (List.getD ((v_tms p0 p1.toNat).1 :: ((v_tms p0 p1.toNat).2.1 :: ((v_tms p0 p1.toNat).2.2.1 :: ((v_tms p0 p1.toNat).2.2.2.1 :: ((v_tms p0 p1.toNat).2.2.2.2.1 :: ((v_tms p0 p1.toNat).2.2.2.2.2.1 :: ((v_tms p0 p1.toNat).2.2.2.2.2.2.1 :: ((v_tms p0 p1.toNat).2.2.2.2.2.2.2 :: ([]:List Int))))))))) y1.1.toNat zz0)))))))))))) ∧(((decide (y1.1 < 8))=false) →(K y1.2)))) n0 (p3,(IntKind.i64.wrap (p2.1 * (p0.getD p1.toNat (zz0,(zz0,(zz0,(zz0,zz0))))).2.2.2.2))))))))))
theorem w_Ze_eq (p0:(List (Int×(Int×(Int×(Int×Int)))))) (p1:Int) (p2:(Int×(Int×(Int×(Int×(Int×(Int×(Int×(Int×Int))))))))) (p3:Int) (K:Int→Prop):tfn F_Ze A_Ze C_Ze P_Ze R_Ze (p0,p1,p2,p3) K = w_Ze p0 p1 p2 p3 K := by kernel_rfl
def st_Ze_0 (p0:(List (Int×(Int×(Int×(Int×Int)))))) (p1:Int) (p2:(Int×(Int×(Int×(Int×(Int×(Int×(Int×(Int×Int))))))))) (_p3:Int) (y0:gG):(Int×Int) ⊕ Int := (cond (decide (y0.1 < 8)) (Sum.inl ((IntKind.i64.wrap (y0.1 + 1)),(IntKind.i64.wrap (y0.2 - (IntKind.i64.wrap ((List.getD (p2.2.1 :: (p2.2.2.1 :: (p2.2.2.2.1 :: (p2.2.2.2.2.1 :: (p2.2.2.2.2.2.1 :: (p2.2.2.2.2.2.2.1 :: (p2.2.2.2.2.2.2.2.1 :: (p2.2.2.2.2.2.2.2.2 :: ([]:List Int))))))))) y0.1.toNat (0:Int)) * (List.getD ((v_tms p0 p1.toNat).1 :: ((v_tms p0 p1.toNat).2.1 :: ((v_tms p0 p1.toNat).2.2.1 :: ((v_tms p0 p1.toNat).2.2.2.1 :: ((v_tms p0 p1.toNat).2.2.2.2.1 :: ((v_tms p0 p1.toNat).2.2.2.2.2.1 :: ((v_tms p0 p1.toNat).2.2.2.2.2.2.1 :: ((v_tms p0 p1.toNat).2.2.2.2.2.2.2 :: ([]:List Int))))))))) y0.1.toNat (0:Int)))))))) (Sum.inr y0.2))
abbrev sp_Ze_0 (_p0:(List (Int×(Int×(Int×(Int×Int)))))) (_p1:Int) (_p2:(Int×(Int×(Int×(Int×(Int×(Int×(Int×(Int×Int))))))))) (_p3:Int) (y0:gG):List Prop := [(((decide (y0.1 < 8))=true)→((0:Int)≤y0.1)),(((decide (y0.1 < 8))=true)→(y0.1 < 8))]
def s_Ze (p0:(List (Int×(Int×(Int×(Int×Int)))))) (p1:Int) (p2:(Int×(Int×(Int×(Int×(Int×(Int×(Int×(Int×Int))))))))) (p3:Int):Int := (lpv (0:Int) (st_Ze_0 p0 p1 p2 p3) (p3,(IntKind.i64.wrap (p2.1 * (p0.getD p1.toNat ((0:Int),((0:Int),((0:Int),(0,0))))).2.2.2.2))))
abbrev pre_Ze (p0:(List (Int×(Int×(Int×(Int×Int)))))) (p1:Int) (p2:(Int×(Int×(Int×(Int×(Int×(Int×(Int×(Int×Int))))))))) (p3:Int):List Prop := [(v_smp p0),((0:Int)≤p1),(p1 < (p0.length:Int)),(OkL (st_Ze_0 p0 p1 p2 p3) (sp_Ze_0 p0 p1 p2 p3) (p3,(IntKind.i64.wrap (p2.1 * (p0.getD p1.toNat ((0:Int),((0:Int),((0:Int),(0,0))))).2.2.2.2))))]
theorem d_Ze (p0:(List (Int×(Int×(Int×(Int×Int)))))) (p1:Int) (p2:(Int×(Int×(Int×(Int×(Int×(Int×(Int×(Int×Int))))))))) (p3:Int) (K:Int→Prop) (hp:∀ p∈pre_Ze p0 p1 p2 p3,p) (h:K (s_Ze p0 p1 p2 p3)):w_Ze p0 p1 p2 p3 K := by
 unfold w_Ze
 unfold s_Ze at h
 obtain ⟨hp0,hp1,hp2,hp3,_⟩ := conj_of hp
 exact ⟨(hp0),(hp1),(hp2),(hp1),(hp2),(loop_gen (hp3) h (fun y0 k0 hp h => by
 unfold st_Ze_0 at h; obtain ⟨hp0,hp1,_⟩ := conj_of hp
 exact (br' h (fun e1 h => ⟨(hp0 e1),(hp1 e1),(hp0 e1),(hp1 e1),h⟩)
  (fun e1 h => h))))⟩
theorem l_Ze_0 (l:List (Int×Int×Int×Int×Int)) (i m:Nat) (f:Int×Int×Int×Int×Int×Int×Int×Int×Int) (h:v_smp l) (hi:i < l.length) (hm:m≤1) (hf:v_fok f):OkL (st_Ze_0 l (i:Int) f (m:Int)) (sp_Ze_0 l (i:Int) f (m:Int)) ((m:Int),IntKind.i64.wrap (f.1 * (l.getD (i:Int).toNat (0,0,0,0,0)).2.2.2.2))∧lpv 0 (st_Ze_0 l (i:Int) f (m:Int)) ((m:Int),IntKind.i64.wrap (f.1 * (l.getD (i:Int).toNat (0,0,0,0,0)).2.2.2.2))=v_left l i m f := by
 have ha := v_lft_a h hi hf
 rw [Int.toNat_natCast,wrap_id (n := f.1 * (l.getD i (0,0,0,0,0)).2.2.2.2) (by omega) (by omega)]
 have main := @for_is Int (Int×Int) Int 0 (st_Ze_0 l (i:Int) f (m:Int)) (sp_Ze_0 l (i:Int) f (m:Int)) (fun i t => (i,t)) m 8 (fun j t => t = v_subs (f.1 * (l.getD i (0,0,0,0,0)).2.2.2.2) (v_parts f) (v_tml (v_tms l i)) m (j - m)) (fun _ _ => v_left l i m f) (by omega) (by omega) ?_ ?_ (f.1 * (l.getD i (0,0,0,0,0)).2.2.2.2) (by rw [Nat.sub_self]; rfl)
 ·exact main
 ·rintro t h3
  simp only [sp_Ze_0,st_Ze_0,fM,show decide (((8:Nat):Int) < 8)=false from rfl,cond_false,h3]
  refine ⟨?_,by first | rfl | trivial⟩
  and_intros
  all_goals first
   | (intro h; cases h; done)
   | (intro p hp; cases hp)
 ·rintro j t h0 hj h3
  have hw1:IntKind.i64.wrap ((j:Int) + 1)=((j + 1:Nat):Int) := wrap_id (by omega) (by omega)
  have hd:decide ((j:Int) < 8)=true := decide_eq_true (by omega)
  have b1 := v_subs_le (v_fok_nat hf) (fun k hk => v_tml_le h hi hk) ha (j - m) (by omega) (m := m)
  have b2 := v_mulb (v_fok_nat hf j hj) (v_tml_le h hi hj)
  have hs:v_subs (f.1 * (l.getD i (0,0,0,0,0)).2.2.2.2) (v_parts f) (v_tml (v_tms l i)) m (j + 1 - m)=v_subs (f.1 * (l.getD i (0,0,0,0,0)).2.2.2.2) (v_parts f) (v_tml (v_tms l i)) m (j - m) - (v_parts f).getD j 0 * (v_tml (v_tms l i)).getD j 0 := by
   rw [show j + 1 - m = (j - m) + 1 by omega]
   show _ - (v_parts f).getD (m + (j - m)) 0 * (v_tml (v_tms l i)).getD (m + (j - m)) 0 = _
   rw [show m + (j - m)=j by omega]
  rw [← h3] at b1 hs
  have e1:([f.2.1,f.2.2.1,f.2.2.2.1,f.2.2.2.2.1,f.2.2.2.2.2.1,f.2.2.2.2.2.2.1,f.2.2.2.2.2.2.2.1,f.2.2.2.2.2.2.2.2]:List Int)=v_parts f := rfl
  have e2:([(v_tms l i).1,(v_tms l i).2.1,(v_tms l i).2.2.1,(v_tms l i).2.2.2.1,(v_tms l i).2.2.2.2.1,(v_tms l i).2.2.2.2.2.1,(v_tms l i).2.2.2.2.2.2.1,(v_tms l i).2.2.2.2.2.2.2]:List Int)=v_tml (v_tms l i) := rfl
  have w1:IntKind.i64.wrap ((v_parts f).getD j 0 * (v_tml (v_tms l i)).getD j 0)=(v_parts f).getD j 0 * (v_tml (v_tms l i)).getD j 0 := wrap_id (by omega) (by omega)
  have w2:IntKind.i64.wrap (t - (v_parts f).getD j 0 * (v_tml (v_tms l i)).getD j 0)=t - (v_parts f).getD j 0 * (v_tml (v_tms l i)).getD j 0 := wrap_id (by omega) (by omega)
  simp only [sp_Ze_0,st_Ze_0,fM,hd,cond_true,Int.toNat_natCast,hw1,e1,e2,w1,w2]
  refine ⟨?_,.inl ⟨_,rfl,hs.symm,by first | rfl | trivial⟩⟩
  and_intros
  all_goals first
   | (intro p hp; cases hp; done)
   | (intros; omega)
abbrev t_Ze (p0:List (Int×Int×Int×Int×Int)) (p1:Int) (p2:Int×Int×Int×Int×Int×Int×Int×Int×Int) (p3:Int):Int := v_left p0 p1.toNat p3.toNat p2
abbrev qre_Ze (p0:List (Int×Int×Int×Int×Int)) (p1:Int) (p2:Int×Int×Int×Int×Int×Int×Int×Int×Int) (p3:Int):List Prop := [v_smp p0,0≤p1,p1 < p0.length,0≤p3∧p3≤1,v_fok p2]
theorem pp_Ze (p0:List (Int×Int×Int×Int×Int)) (p1:Int) (p2:Int×Int×Int×Int×Int×Int×Int×Int×Int) (p3:Int) (hq:∀ p∈qre_Ze p0 p1 p2 p3,p):∀ p∈pre_Ze p0 p1 p2 p3,p := by
 obtain ⟨h1,h2,h3,h4,h5,_⟩ := conj_of hq
 obtain ⟨i,rfl⟩ : ∃ i:Nat,p1 = i := ⟨p1.toNat,by omega⟩
 obtain ⟨m,rfl⟩ : ∃ m:Nat,p3 = m := ⟨p3.toNat,by omega⟩
 have hl := (l_Ze_0 p0 i m p2 h1 (by omega) (by omega) h5).1
 simp only [pre_Ze,fM]
 first
  | exact ⟨by omega,by omega,h1,hl,by simp⟩
  | exact ⟨h1,by omega,by omega,hl,by simp⟩
theorem tt_Ze (p0:List (Int×Int×Int×Int×Int)) (p1:Int) (p2:Int×Int×Int×Int×Int×Int×Int×Int×Int) (p3:Int) (hq:∀ p∈qre_Ze p0 p1 p2 p3,p):s_Ze p0 p1 p2 p3 = t_Ze p0 p1 p2 p3 := by
 obtain ⟨h1,h2,h3,h4,h5,_⟩ := conj_of hq
 obtain ⟨i,rfl⟩ : ∃ i:Nat,p1 = i := ⟨p1.toNat,by omega⟩
 obtain ⟨m,rfl⟩ : ∃ m:Nat,p3 = m := ⟨p3.toNat,by omega⟩
 exact (l_Ze_0 p0 i m p2 h1 (by omega) (by omega) h5).2

abbrev con_Ze:Con := ⟨P_Ze,R_Ze,fun x => qre_Ze x.1 x.2.1 x.2.2.1 x.2.2.2,fun x => t_Ze x.1 x.2.1 x.2.2.1 x.2.2.2⟩
theorem ok_Ze:ConOk Try.prog 106 con_Ze := okG k_Ze e_Ze hC_Ze fun x hx => tf_of (w_Ze_eq x.1 x.2.1 x.2.2.1 x.2.2.2 _) (d_Ze x.1 x.2.1 x.2.2.1 x.2.2.2 _ (pp_Ze x.1 x.2.1 x.2.2.1 x.2.2.2 hx) (tt_Ze x.1 x.2.1 x.2.2.1 x.2.2.2 hx))
def C_Zy:Cons := [(30,[],con_Zn),(31,[],con_Zl)]
theorem hC_Zy:ConsOk Try.prog C_Zy := cC ok_Zn <| cC ok_Zl <| ConsOk.nil
def w_Zy (p0:Int) (p1:Int) (K:(Int×Int)→Prop):Prop := ((v_fit p0) ∧((zz0 < p1) ∧((v_fit p0) ∧((zz0 < p1) ∧(K ((p0 / p1),(v_ceil p0 p1)))))))
theorem w_Zy_eq (p0:Int) (p1:Int) (K:(Int×Int)→Prop):tfn F_Zy A_Zy C_Zy P_Zy R_Zy (p0,p1) K = w_Zy p0 p1 K := by kernel_rfl
def s_Zy (p0:Int) (p1:Int):(Int×Int) := ((p0 / p1),(v_ceil p0 p1))
abbrev pre_Zy (p0:Int) (p1:Int):List Prop := [(v_fit p0),((0:Int) < p1)]
theorem d_Zy (p0:Int) (p1:Int) (K:(Int×Int)→Prop) (hp:∀ p∈pre_Zy p0 p1,p) (h:K (s_Zy p0 p1)):w_Zy p0 p1 K := by
 unfold w_Zy
 unfold s_Zy at h
 obtain ⟨hp0,hp1,_⟩ := conj_of hp
 exact ⟨(hp0),(hp1),(hp0),(hp1),h⟩
abbrev con_Zy:Con := ⟨P_Zy,R_Zy,fun x => pre_Zy x.1 x.2,fun x => s_Zy x.1 x.2⟩
theorem ok_Zy:ConOk Try.prog 105 con_Zy := okG k_Zy e_Zy hC_Zy fun x hx => tf_of (w_Zy_eq x.1 x.2 _) (d_Zy x.1 x.2 _ hx rfl)
def C_Zc:Cons := [(106,[],con_Ze),(105,[],con_Zy)]
theorem hC_Zc:ConsOk Try.prog C_Zc := cC ok_Ze <| cC ok_Zy <| ConsOk.nil
def w_Zc (p0:(List (Int×(Int×(Int×(Int×Int)))))) (p1:(Int×(Int×(Int×(Int×(Int×(Int×(Int×(Int×Int))))))))) (K:(List (Int×Int))→Prop):Prop := (∃ n0,(loopP (fun (y1:(Int×(List (Int×Int)))) k2 => ((((decide (y1.1 < (p0.length:Int)))=true) →((v_smp p0) ∧((zz0≤y1.1) ∧((y1.1 < (p0.length:Int)) ∧(((zz0≤0) ∧(zz0≤1)) ∧((v_fok p1) ∧((v_fit (v_left p0 y1.1.toNat (Int.toNat zz0) p1)) ∧((zz0 < p1.1) ∧((((y1.2.length + (List.length ((((v_left p0 y1.1.toNat (Int.toNat zz0) p1) / p1.1),(v_ceil (v_left p0 y1.1.toNat (Int.toNat zz0) p1) p1.1)) :: ([]:List (Int×Int))))) * 16)≤140737488355328) ∧(k2 ((IntKind.i64.wrap (y1.1 + 1)),(y1.2 ++ ((((v_left p0 y1.1.toNat (Int.toNat zz0) p1) / p1.1),(v_ceil (v_left p0 y1.1.toNat (Int.toNat zz0) p1) p1.1)) :: ([]:List (Int×Int))))))))))))))) ∧(((decide (y1.1 < (p0.length:Int)))=false) →(K y1.2)))) n0 (zz0,([]:List (Int×Int)))))
theorem w_Zc_eq (p0:(List (Int×(Int×(Int×(Int×Int)))))) (p1:(Int×(Int×(Int×(Int×(Int×(Int×(Int×(Int×Int))))))))) (K:(List (Int×Int))→Prop):tfn F_Zc A_Zc C_Zc P_Zc R_Zc (p0,p1) K = w_Zc p0 p1 K := by kernel_rfl
def st_Zc_0 (p0:(List (Int×(Int×(Int×(Int×Int)))))) (p1:(Int×(Int×(Int×(Int×(Int×(Int×(Int×(Int×Int))))))))) (y0:(Int×(List (Int×Int)))):(Int×(List (Int×Int))) ⊕ (List (Int×Int)) := (cond (decide (y0.1 < (p0.length:Int))) (Sum.inl ((IntKind.i64.wrap (y0.1 + 1)),(y0.2 ++ ((((v_left p0 y0.1.toNat (Int.toNat (0:Int)) p1) / p1.1),(v_ceil (v_left p0 y0.1.toNat (Int.toNat (0:Int)) p1) p1.1)) :: ([]:List (Int×Int)))))) (Sum.inr y0.2))
abbrev sp_Zc_0 (p0:(List (Int×(Int×(Int×(Int×Int)))))) (p1:(Int×(Int×(Int×(Int×(Int×(Int×(Int×(Int×Int))))))))) (y0:(Int×(List (Int×Int)))):List Prop := [(((decide (y0.1 < (p0.length:Int)))=true)→(v_smp p0)),(((decide (y0.1 < (p0.length:Int)))=true)→((0:Int)≤y0.1)),(((decide (y0.1 < (p0.length:Int)))=true)→(y0.1 < (p0.length:Int))),(((decide (y0.1 < (p0.length:Int)))=true)→(v_fok p1)),(((decide (y0.1 < (p0.length:Int)))=true)→(v_fit (v_left p0 y0.1.toNat (Int.toNat (0:Int)) p1))),(((decide (y0.1 < (p0.length:Int)))=true)→((0:Int) < p1.1)),(((decide (y0.1 < (p0.length:Int)))=true)→(((y0.2.length + (List.length ((((v_left p0 y0.1.toNat (Int.toNat (0:Int)) p1) / p1.1),(v_ceil (v_left p0 y0.1.toNat (Int.toNat (0:Int)) p1) p1.1)) :: ([]:List (Int×Int))))) * 16)≤140737488355328))]
def s_Zc (p0:(List (Int×(Int×(Int×(Int×Int)))))) (p1:(Int×(Int×(Int×(Int×(Int×(Int×(Int×(Int×Int))))))))):(List (Int×Int)) := (lpv [] (st_Zc_0 p0 p1) ((0:Int),([]:List (Int×Int))))
abbrev pre_Zc (p0:(List (Int×(Int×(Int×(Int×Int)))))) (p1:(Int×(Int×(Int×(Int×(Int×(Int×(Int×(Int×Int))))))))):List Prop := [(OkL (st_Zc_0 p0 p1) (sp_Zc_0 p0 p1) ((0:Int),([]:List (Int×Int))))]
theorem d_Zc (p0:(List (Int×(Int×(Int×(Int×Int)))))) (p1:(Int×(Int×(Int×(Int×(Int×(Int×(Int×(Int×Int))))))))) (K:(List (Int×Int))→Prop) (hp:∀ p∈pre_Zc p0 p1,p) (h:K (s_Zc p0 p1)):w_Zc p0 p1 K := by
 unfold w_Zc
 unfold s_Zc at h
 obtain ⟨hp0,_⟩ := conj_of hp
 exact (loop_gen (hp0) h (fun y0 k0 hp h => by
 unfold st_Zc_0 at h; obtain ⟨hp0,hp1,hp2,hp3,hp4,hp5,hp6,_⟩ := conj_of hp
 exact (br' h (fun e1 h => ⟨(hp0 e1),(hp1 e1),(hp2 e1),(od rfl),(hp3 e1),(hp4 e1),(hp5 e1),(hp6 e1),h⟩)
  (fun e1 h => h))))
theorem l_Zc_0 (l:List (Int×Int×Int×Int×Int)) (f:Int×Int×Int×Int×Int×Int×Int×Int×Int) (h:v_smp l) (hf:v_fok f):OkL (st_Zc_0 l f) (sp_Zc_0 l f) (0,[])∧lpv [] (st_Zc_0 l f) (0,[])=(v_rem l 0 f) := by
 have hl := h.len
 have hd := hf.den
 refine @forapp_is (Int×Int) (Int×List (Int×Int)) (List (Int×Int)) [] (st_Zc_0 l f) (sp_Zc_0 l f) (fun i t => (i,t)) 0 l.length (v_rnd l f 0) (fun t => t) (Nat.zero_le _) (by omega) ?_ ?_
 ·rintro t _
  simp only [sp_Zc_0,st_Zc_0,fM,decide_eq_false (Int.lt_irrefl (l.length:Int)),cond_false]
  refine ⟨?_,by first | rfl | trivial⟩
  and_intros
  all_goals first
   | (intro h; cases h; done)
   | (intro p hp; cases hp)
 ·rintro j t h0 hj h1
  have hw1:IntKind.i64.wrap ((j:Int) + 1)=((j + 1:Nat):Int) := wrap_id (by omega) (by omega)
  have hdd:decide ((j:Int) < (l.length:Int))=true := decide_eq_true (by omega)
  have hb := v_left_le h hj hf (m := 0) (by omega)
  simp only [sp_Zc_0,st_Zc_0,fM,Int.toNat_natCast,hw1,hdd,cond_true,show (0:Int).toNat = 0 from rfl,show (1:Int).toNat = 1 from rfl]
  refine ⟨?_,by first | rfl | trivial⟩
  and_intros
  all_goals first
   | (intro p hp; cases hp; done)
   | (intros; exact h)
   | (intros; exact hf)
   | (intros; simp only [List.length_cons,List.length_nil]; omega)
   | (intros; omega)
abbrev t_Zc (p0:List (Int×Int×Int×Int×Int)) (p1:Int×Int×Int×Int×Int×Int×Int×Int×Int):List (Int×Int) := v_rem p0 0 p1
abbrev qre_Zc (p0:List (Int×Int×Int×Int×Int)) (p1:Int×Int×Int×Int×Int×Int×Int×Int×Int):List Prop := [v_smp p0,v_fok p1]
theorem pp_Zc (p0:List (Int×Int×Int×Int×Int)) (p1:Int×Int×Int×Int×Int×Int×Int×Int×Int) (hq:∀ p∈qre_Zc p0 p1,p):∀ p∈pre_Zc p0 p1,p := by
 obtain ⟨h1,h2,_⟩ := conj_of hq
 simp only [pre_Zc,fM]
 exact ⟨(l_Zc_0 p0 p1 h1 h2).1,by simp⟩
theorem tt_Zc (p0:List (Int×Int×Int×Int×Int)) (p1:Int×Int×Int×Int×Int×Int×Int×Int×Int) (hq:∀ p∈qre_Zc p0 p1,p):s_Zc p0 p1 = t_Zc p0 p1 := by
 obtain ⟨h1,h2,_⟩ := conj_of hq
 exact (l_Zc_0 p0 p1 h1 h2).2

abbrev con_Zc:Con := ⟨P_Zc,R_Zc,fun x => qre_Zc x.1 x.2,fun x => t_Zc x.1 x.2⟩
theorem ok_Zc:ConOk Try.prog 57 con_Zc := okG k_Zc e_Zc hC_Zc fun x hx => tf_of (w_Zc_eq x.1 x.2 _) (d_Zc x.1 x.2 _ (pp_Zc x.1 x.2 hx) (tt_Zc x.1 x.2 hx))
def C_Za:Cons := []
theorem hC_Za:ConsOk Try.prog C_Za := ConsOk.nil
def w_Za (p0:gC) (p1:gC) (K:Bool→Prop):Prop := (((((p0.length:Int) != (p1.length:Int))=true) →(K false)) ∧((((p0.length:Int) != (p1.length:Int))=false) →(∃ n0,(loopP (fun (y1:Int) k2 => ((((decide (y1 < (p0.length:Int)))=true) →((zz0≤y1) ∧((y1 < (p0.length:Int)) ∧((zz0≤y1) ∧((y1 < (p1.length:Int)) ∧((((!(((p0.getD y1.toNat (zz0,zz0)).1 == (p1.getD y1.toNat (zz0,zz0)).1) && (((p0.getD y1.toNat (zz0,zz0)).2 == (p1.getD y1.toNat (zz0,zz0)).2) && true)))=true) →(K false)) ∧(((!(((p0.getD y1.toNat (zz0,zz0)).1 == (p1.getD y1.toNat (zz0,zz0)).1) && (((p0.getD y1.toNat (zz0,zz0)).2 == (p1.getD y1.toNat (zz0,zz0)).2) && true)))=false) →(k2 (IntKind.i64.wrap (y1 + 1)))))))))) ∧(((decide (y1 < (p0.length:Int)))=false) →(K true)))) n0 zz0))))
theorem w_Za_eq (p0:gC) (p1:gC) (K:Bool→Prop):tfn F_Za A_Za C_Za P_Za R_Za (p0,p1) K = w_Za p0 p1 K := by kernel_rfl
def st_Za_0 (p0:gC) (p1:gC) (y1:Int):Int ⊕ Bool := (cond (decide (y1 < (p0.length:Int))) (cond (!(((p0.getD y1.toNat (0,0)).1 == (p1.getD y1.toNat (0,0)).1) && (((p0.getD y1.toNat (0,0)).2 == (p1.getD y1.toNat (0,0)).2) && true))) (Sum.inr false) (Sum.inl (IntKind.i64.wrap (y1 + 1)))) (Sum.inr true))
abbrev sp_Za_0 (p0:gC) (p1:gC) (y1:Int):List Prop := [(((decide (y1 < (p0.length:Int)))=true)→((0:Int)≤y1)),(((decide (y1 < (p0.length:Int)))=true)→(y1 < (p0.length:Int))),(((decide (y1 < (p0.length:Int)))=true)→(y1 < (p1.length:Int)))]
def s_Za (p0:gC) (p1:gC):Bool := (cond ((p0.length:Int) != (p1.length:Int)) false (lpv false (st_Za_0 p0 p1) (0:Int)))
abbrev pre_Za (p0:gC) (p1:gC):List Prop := [((((p0.length:Int) != (p1.length:Int))=false)→(OkL (st_Za_0 p0 p1) (sp_Za_0 p0 p1) (0:Int)))]
theorem d_Za (p0:gC) (p1:gC) (K:Bool→Prop) (hp:∀ p∈pre_Za p0 p1,p) (h:K (s_Za p0 p1)):w_Za p0 p1 K := by
 unfold w_Za
 unfold s_Za at h
 obtain ⟨hp0,_⟩ := conj_of hp
 exact (br' h (fun e0 h => h)
  (fun e0 h => (loop_gen (hp0 e0) h (fun y1 k1 hp h => by
 unfold st_Za_0 at h; obtain ⟨hp0,hp1,hp2,_⟩ := conj_of hp
 exact (br' h (fun e2 h => ⟨(hp0 e2),(hp1 e2),(hp0 e2),(hp2 e2),(br' h (fun e3 h => h)
  (fun e3 h => h))⟩)
  (fun e2 h => h))))))
theorem l_Za_0 (p0 p1:gC) (hl:lenOk p0) (he:p0.length = p1.length):OkL (st_Za_0 p0 p1) (sp_Za_0 p0 p1) 0∧lpv false (st_Za_0 p0 p1) 0 = v_scan (fun i x => cond (!(((x.1 == (p1.getD i.toNat (0,0)).1) && ((x.2 == (p1.getD i.toNat (0,0)).2) && true)))) (some false) none) true 0 p0 := by
 refine scan_is p0 (0,0) (fun i x => cond (!(((x.1 == (p1.getD i.toNat (0,0)).1) && ((x.2 == (p1.getD i.toNat (0,0)).2) && true)))) (some false) none) true hl ?_ ?_
 ·refine ⟨by simp only [sp_Za_0,fM,decide_eq_true_eq]; simp,by simp [st_Za_0]⟩
 ·intro j hj
  have hj' : (j:Int) < p0.length := by omega
  refine ⟨by simp only [sp_Za_0,fM,decide_eq_true_eq,Int.toNat_natCast]; simp <;> omega,?_⟩
  simp only [st_Za_0,hj',decide_true,Int.toNat_natCast,cond_true,wrap_nat (show (j:Int)≤9223372036854775806 by unfold lenOk at hl; omega)]
  generalize p0.getD j (0,0)=x
  generalize p1.getD j (0,0)=z
  cases (x.1 == z.1) <;> cases (x.2 == z.2) <;> rfl
abbrev t_Za (p0 p1:gC):Bool := decide (p0 = p1)
abbrev qre_Za (p0 _p1:gC):List Prop := [lenOk p0]
theorem pp_Za (p0 p1:gC) (hq:∀ p∈qre_Za p0 p1,p):∀ p∈pre_Za p0 p1,p := by
 simp only [pre_Za,fM]
 refine ⟨fun h => (l_Za_0 p0 p1 (conj_of hq).1 ?_).1,by simp⟩
 have h' : (p0.length:Int)=p1.length := by simpa using h
 omega
theorem tt_Za (p0 p1:gC) (hq:∀ p∈qre_Za p0 p1,p):s_Za p0 p1 = t_Za p0 p1 := by
 unfold s_Za t_Za
 by_cases h:p0.length = p1.length
 ·rw [show ((p0.length:Int) != (p1.length:Int))=false by simp [h]]
  refine (l_Za_0 p0 p1 (conj_of hq).1 h).2.trans ?_
  exact v_scan_eq (0,0) (fun x y => ((x.1 == y.1) && ((x.2 == y.2) && true))) (fun x y => by by_cases h1:x.1 = y.1 <;> by_cases h2:x.2 = y.2 <;> simp [h1,h2,Prod.ext_iff]) p0 p1 h
 ·rw [show ((p0.length:Int) != (p1.length:Int))=true by simp; omega]
  have:p0 ≠ p1 := fun e => h (congrArg List.length e)
  simp [this]

abbrev con_Za:Con := ⟨P_Za,R_Za,fun x => qre_Za x.1 x.2,fun x => t_Za x.1 x.2⟩
theorem ok_Za:ConOk Try.prog 29 con_Za := okG k_Za e_Za hC_Za fun x hx => tf_of (w_Za_eq x.1 x.2 _) (d_Za x.1 x.2 _ (pp_Za x.1 x.2 hx) (tt_Za x.1 x.2 hx))
def C_Zh:Cons := [(106,[],con_Ze),(105,[],con_Zy)]
theorem hC_Zh:ConsOk Try.prog C_Zh := cC ok_Ze <| cC ok_Zy <| ConsOk.nil
def w_Zh (p0:(List (Int×(Int×(Int×(Int×Int)))))) (p1:(Int×(Int×(Int×(Int×(Int×(Int×(Int×(Int×Int))))))))) (K:(List (Int×Int))→Prop):Prop := (∃ n0,(loopP (fun (y1:(Int×(List (Int×Int)))) k2 => ((((decide (y1.1 < (p0.length:Int)))=true) →((v_smp p0) ∧((zz0≤y1.1) ∧((y1.1 < (p0.length:Int)) ∧(((zz0≤1) ∧(zz1≤1)) ∧((v_fok p1) ∧((v_fit (v_left p0 y1.1.toNat (Int.toNat zz1) p1)) ∧((zz0 < p1.1) ∧((((y1.2.length + (List.length ((((v_left p0 y1.1.toNat (Int.toNat zz1) p1) / p1.1),(v_ceil (v_left p0 y1.1.toNat (Int.toNat zz1) p1) p1.1)) :: ([]:List (Int×Int))))) * 16)≤140737488355328) ∧(k2 ((IntKind.i64.wrap (y1.1 + 1)),(y1.2 ++ ((((v_left p0 y1.1.toNat (Int.toNat zz1) p1) / p1.1),(v_ceil (v_left p0 y1.1.toNat (Int.toNat zz1) p1) p1.1)) :: ([]:List (Int×Int))))))))))))))) ∧(((decide (y1.1 < (p0.length:Int)))=false) →(K y1.2)))) n0 (zz0,([]:List (Int×Int)))))
theorem w_Zh_eq (p0:(List (Int×(Int×(Int×(Int×Int)))))) (p1:(Int×(Int×(Int×(Int×(Int×(Int×(Int×(Int×Int))))))))) (K:(List (Int×Int))→Prop):tfn F_Zh A_Zh C_Zh P_Zh R_Zh (p0,p1) K = w_Zh p0 p1 K := by kernel_rfl
def st_Zh_0 (p0:(List (Int×(Int×(Int×(Int×Int)))))) (p1:(Int×(Int×(Int×(Int×(Int×(Int×(Int×(Int×Int))))))))) (y0:(Int×(List (Int×Int)))):(Int×(List (Int×Int))) ⊕ (List (Int×Int)) := (cond (decide (y0.1 < (p0.length:Int))) (Sum.inl ((IntKind.i64.wrap (y0.1 + 1)),(y0.2 ++ ((((v_left p0 y0.1.toNat (Int.toNat (1:Int)) p1) / p1.1),(v_ceil (v_left p0 y0.1.toNat (Int.toNat (1:Int)) p1) p1.1)) :: ([]:List (Int×Int)))))) (Sum.inr y0.2))
abbrev sp_Zh_0 (p0:(List (Int×(Int×(Int×(Int×Int)))))) (p1:(Int×(Int×(Int×(Int×(Int×(Int×(Int×(Int×Int))))))))) (y0:(Int×(List (Int×Int)))):List Prop := [(((decide (y0.1 < (p0.length:Int)))=true)→(v_smp p0)),(((decide (y0.1 < (p0.length:Int)))=true)→((0:Int)≤y0.1)),(((decide (y0.1 < (p0.length:Int)))=true)→(y0.1 < (p0.length:Int))),(((decide (y0.1 < (p0.length:Int)))=true)→(v_fok p1)),(((decide (y0.1 < (p0.length:Int)))=true)→(v_fit (v_left p0 y0.1.toNat (Int.toNat (1:Int)) p1))),(((decide (y0.1 < (p0.length:Int)))=true)→((0:Int) < p1.1)),(((decide (y0.1 < (p0.length:Int)))=true)→(((y0.2.length + (List.length ((((v_left p0 y0.1.toNat (Int.toNat (1:Int)) p1) / p1.1),(v_ceil (v_left p0 y0.1.toNat (Int.toNat (1:Int)) p1) p1.1)) :: ([]:List (Int×Int))))) * 16)≤140737488355328))]
def s_Zh (p0:(List (Int×(Int×(Int×(Int×Int)))))) (p1:(Int×(Int×(Int×(Int×(Int×(Int×(Int×(Int×Int))))))))):(List (Int×Int)) := (lpv [] (st_Zh_0 p0 p1) ((0:Int),([]:List (Int×Int))))
abbrev pre_Zh (p0:(List (Int×(Int×(Int×(Int×Int)))))) (p1:(Int×(Int×(Int×(Int×(Int×(Int×(Int×(Int×Int))))))))):List Prop := [(OkL (st_Zh_0 p0 p1) (sp_Zh_0 p0 p1) ((0:Int),([]:List (Int×Int))))]
theorem d_Zh (p0:(List (Int×(Int×(Int×(Int×Int)))))) (p1:(Int×(Int×(Int×(Int×(Int×(Int×(Int×(Int×Int))))))))) (K:(List (Int×Int))→Prop) (hp:∀ p∈pre_Zh p0 p1,p) (h:K (s_Zh p0 p1)):w_Zh p0 p1 K := by
 unfold w_Zh
 unfold s_Zh at h
 obtain ⟨hp0,_⟩ := conj_of hp
 exact (loop_gen (hp0) h (fun y0 k0 hp h => by
 unfold st_Zh_0 at h; obtain ⟨hp0,hp1,hp2,hp3,hp4,hp5,hp6,_⟩ := conj_of hp
 exact (br' h (fun e1 h => ⟨(hp0 e1),(hp1 e1),(hp2 e1),(od rfl),(hp3 e1),(hp4 e1),(hp5 e1),(hp6 e1),h⟩)
  (fun e1 h => h))))
theorem l_Zh_0 (l:List (Int×Int×Int×Int×Int)) (f:Int×Int×Int×Int×Int×Int×Int×Int×Int) (h:v_smp l) (hf:v_fok f):OkL (st_Zh_0 l f) (sp_Zh_0 l f) (0,[])∧lpv [] (st_Zh_0 l f) (0,[])=(v_rem l 1 f) := by
 have hl := h.len
 have hd := hf.den
 refine @forapp_is (Int×Int) (Int×List (Int×Int)) (List (Int×Int)) [] (st_Zh_0 l f) (sp_Zh_0 l f) (fun i t => (i,t)) 0 l.length (v_rnd l f 1) (fun t => t) (Nat.zero_le _) (by omega) ?_ ?_
 ·rintro t _
  simp only [sp_Zh_0,st_Zh_0,fM,decide_eq_false (Int.lt_irrefl (l.length:Int)),cond_false]
  refine ⟨?_,by first | rfl | trivial⟩
  and_intros
  all_goals first
   | (intro h; cases h; done)
   | (intro p hp; cases hp)
 ·rintro j t h0 hj h1
  have hw1:IntKind.i64.wrap ((j:Int) + 1)=((j + 1:Nat):Int) := wrap_id (by omega) (by omega)
  have hdd:decide ((j:Int) < (l.length:Int))=true := decide_eq_true (by omega)
  have hb := v_left_le h hj hf (m := 1) (by omega)
  simp only [sp_Zh_0,st_Zh_0,fM,Int.toNat_natCast,hw1,hdd,cond_true,show (0:Int).toNat = 0 from rfl,show (1:Int).toNat = 1 from rfl]
  refine ⟨?_,by first | rfl | trivial⟩
  and_intros
  all_goals first
   | (intro p hp; cases hp; done)
   | (intros; exact h)
   | (intros; exact hf)
   | (intros; simp only [List.length_cons,List.length_nil]; omega)
   | (intros; omega)
abbrev t_Zh (p0:List (Int×Int×Int×Int×Int)) (p1:Int×Int×Int×Int×Int×Int×Int×Int×Int):List (Int×Int) := v_rem p0 1 p1
abbrev qre_Zh (p0:List (Int×Int×Int×Int×Int)) (p1:Int×Int×Int×Int×Int×Int×Int×Int×Int):List Prop := [v_smp p0,v_fok p1]
theorem pp_Zh (p0:List (Int×Int×Int×Int×Int)) (p1:Int×Int×Int×Int×Int×Int×Int×Int×Int) (hq:∀ p∈qre_Zh p0 p1,p):∀ p∈pre_Zh p0 p1,p := by
 obtain ⟨h1,h2,_⟩ := conj_of hq
 simp only [pre_Zh,fM]
 exact ⟨(l_Zh_0 p0 p1 h1 h2).1,by simp⟩
theorem tt_Zh (p0:List (Int×Int×Int×Int×Int)) (p1:Int×Int×Int×Int×Int×Int×Int×Int×Int) (hq:∀ p∈qre_Zh p0 p1,p):s_Zh p0 p1 = t_Zh p0 p1 := by
 obtain ⟨h1,h2,_⟩ := conj_of hq
 exact (l_Zh_0 p0 p1 h1 h2).2

abbrev con_Zh:Con := ⟨P_Zh,R_Zh,fun x => qre_Zh x.1 x.2,fun x => t_Zh x.1 x.2⟩
theorem ok_Zh:ConOk Try.prog 58 con_Zh := okG k_Zh e_Zh hC_Zh fun x hx => tf_of (w_Zh_eq x.1 x.2 _) (d_Zh x.1 x.2 _ (pp_Zh x.1 x.2 hx) (tt_Zh x.1 x.2 hx))
def C_Z3:Cons := [(57,[],con_Zc)]
theorem hC_Z3:ConsOk Try.prog C_Z3 := cC ok_Zc <| ConsOk.nil
abbrev q1_Z3 (p0:(List (Int×(Int×(Int×(Int×Int)))))) (p1:(Int×(Int×(Int×(Int×(Int×(Int×(Int×(Int×Int))))))))) (p2:gF) (y1:(Int×(Int×Int))) := (List.drop (Int.toNat (p2.getD y1.1.toNat zz0)) (v_rem p0 0 p1))
abbrev q0_Z3 (p0:(List (Int×(Int×(Int×(Int×Int)))))) (p1:(Int×(Int×(Int×(Int×(Int×(Int×(Int×(Int×Int))))))))) (p2:gF) (y1:(Int×(Int×Int))) := (List.take ((Int.toNat (p0.length:Int)) - (Int.toNat (p2.getD y1.1.toNat zz0))) (q1_Z3 p0 p1 p2 y1))
def w_Z3 (p0:(List (Int×(Int×(Int×(Int×Int)))))) (p1:(Int×(Int×(Int×(Int×(Int×(Int×(Int×(Int×Int))))))))) (p2:gF) (K:(Int×Int)→Prop):Prop := ((v_smp p0) ∧((v_fok p1) ∧(∃ n0,(loopP (fun (y1:(Int×(Int×Int))) k2 => ((((decide (y1.1 < (p2.length:Int)))=true) →((((decide ((wi (y1.1 + zz1)) < (p2.length:Int)))=true) →((zz0≤(wi (y1.1 + zz1))) ∧(((wi (y1.1 + zz1)) < (p2.length:Int)) ∧((zz0≤y1.1) ∧((y1.1 < (p2.length:Int)) ∧((zz0≤(p2.getD y1.1.toNat zz0)) ∧(((p2.getD y1.1.toNat zz0)≤(p2.getD (Int.toNat (wi (y1.1 + zz1))) zz0)) ∧(((p2.getD (Int.toNat (wi (y1.1 + zz1))) zz0)≤(((v_rem p0 0 p1).length:Nat):Int)) ∧((zz0 < (((List.length (List.take ((Int.toNat (p2.getD (Int.toNat (wi (y1.1 + zz1))) zz0)) - (Int.toNat (p2.getD y1.1.toNat zz0))) (q1_Z3 p0 p1 p2 y1))):Nat):Int)) ∧((zz0 < (((List.length (List.take ((Int.toNat (p2.getD (Int.toNat (wi (y1.1 + zz1))) zz0)) - (Int.toNat (p2.getD y1.1.toNat zz0))) (q1_Z3 p0 p1 p2 y1))):Nat):Int)) ∧((zz0 < (((List.length (List.take ((Int.toNat (p2.getD (Int.toNat (wi (y1.1 + zz1))) zz0)) - (Int.toNat (p2.getD y1.1.toNat zz0))) (q1_Z3 p0 p1 p2 y1))):Nat):Int)) ∧((zz0 < (((List.length (List.take ((Int.toNat (p2.getD (Int.toNat (wi (y1.1 + zz1))) zz0)) - (Int.toNat (p2.getD y1.1.toNat zz0))) (q1_Z3 p0 p1 p2 y1))):Nat):Int)) ∧(∃ n3,(loopP (fun (y4:(Int×(Int×(Int×(Int×Int))))) k5 => ((((decide (y4.1 < (((List.length (List.take ((Int.toNat (p2.getD (Int.toNat (wi (y1.1 + zz1))) zz0)) - (Int.toNat (p2.getD y1.1.toNat zz0))) (q1_Z3 p0 p1 p2 y1))):Nat):Int)))=true) →((zz0≤y4.1) ∧((y4.1 < (((List.length (List.take ((Int.toNat (p2.getD (Int.toNat (wi (y1.1 + zz1))) zz0)) - (Int.toNat (p2.getD y1.1.toNat zz0))) (q1_Z3 p0 p1 p2 y1))):Nat):Int)) ∧((zz0≤y4.1) ∧((y4.1 < (((List.length (List.take ((Int.toNat (p2.getD (Int.toNat (wi (y1.1 + zz1))) zz0)) - (Int.toNat (p2.getD y1.1.toNat zz0))) (q1_Z3 p0 p1 p2 y1))):Nat):Int)) ∧((zz0≤y4.1) ∧((y4.1 < (((List.length (List.take ((Int.toNat (p2.getD (Int.toNat (wi (y1.1 + zz1))) zz0)) - (Int.toNat (p2.getD y1.1.toNat zz0))) (q1_Z3 p0 p1 p2 y1))):Nat):Int)) ∧((zz0≤y4.1) ∧((y4.1 < (((List.length (List.take ((Int.toNat (p2.getD (Int.toNat (wi (y1.1 + zz1))) zz0)) - (Int.toNat (p2.getD y1.1.toNat zz0))) (q1_Z3 p0 p1 p2 y1))):Nat):Int)) ∧(k5 ((wi (y4.1 + zz1)),((min y4.2.1 (List.getD (List.take ((Int.toNat (p2.getD (Int.toNat (wi (y1.1 + zz1))) zz0)) - (Int.toNat (p2.getD y1.1.toNat zz0))) (q1_Z3 p0 p1 p2 y1)) y4.1.toNat (zz0,zz0)).2),((max y4.2.2.1 (List.getD (List.take ((Int.toNat (p2.getD (Int.toNat (wi (y1.1 + zz1))) zz0)) - (Int.toNat (p2.getD y1.1.toNat zz0))) (q1_Z3 p0 p1 p2 y1)) y4.1.toNat (zz0,zz0)).1),((min y4.2.2.2.1 (List.getD (List.take ((Int.toNat (p2.getD (Int.toNat (wi (y1.1 + zz1))) zz0)) - (Int.toNat (p2.getD y1.1.toNat zz0))) (q1_Z3 p0 p1 p2 y1)) y4.1.toNat (zz0,zz0)).1),(max y4.2.2.2.2 (List.getD (List.take ((Int.toNat (p2.getD (Int.toNat (wi (y1.1 + zz1))) zz0)) - (Int.toNat (p2.getD y1.1.toNat zz0))) (q1_Z3 p0 p1 p2 y1)) y4.1.toNat (zz0,zz0)).2))))))))))))))) ∧(((decide (y4.1 < (((List.length (List.take ((Int.toNat (p2.getD (Int.toNat (wi (y1.1 + zz1))) zz0)) - (Int.toNat (p2.getD y1.1.toNat zz0))) (q1_Z3 p0 p1 p2 y1))):Nat):Int)))=false) →(k2 ((wi (y1.1 + zz1)),((wi (y1.2.1 + (max zz0 (wi (y4.2.2.1 - y4.2.1))))),(wi ((wi (y1.2.2 + y4.2.2.2.2)) - y4.2.2.2.1)))))))) n3 (zz0,((List.getD (List.take ((Int.toNat (p2.getD (Int.toNat (wi (y1.1 + zz1))) zz0)) - (Int.toNat (p2.getD y1.1.toNat zz0))) (q1_Z3 p0 p1 p2 y1)) (Int.toNat zz0) (zz0,zz0)).2,((List.getD (List.take ((Int.toNat (p2.getD (Int.toNat (wi (y1.1 + zz1))) zz0)) - (Int.toNat (p2.getD y1.1.toNat zz0))) (q1_Z3 p0 p1 p2 y1)) (Int.toNat zz0) (zz0,zz0)).1,(List.getD (List.take ((Int.toNat (p2.getD (Int.toNat (wi (y1.1 + zz1))) zz0)) - (Int.toNat (p2.getD y1.1.toNat zz0))) (q1_Z3 p0 p1 p2 y1)) (Int.toNat zz0) (zz0,zz0))))))))))))))))))) ∧(((decide ((wi (y1.1 + zz1)) < (p2.length:Int)))=false) →((zz0≤y1.1) ∧((y1.1 < (p2.length:Int)) ∧((zz0≤(p2.getD y1.1.toNat zz0)) ∧(((p2.getD y1.1.toNat zz0)≤(p0.length:Int)) ∧(((p0.length:Int)≤(((v_rem p0 0 p1).length:Nat):Int)) ∧((zz0 < (((q0_Z3 p0 p1 p2 y1).length:Nat):Int)) ∧((zz0 < (((q0_Z3 p0 p1 p2 y1).length:Nat):Int)) ∧((zz0 < (((q0_Z3 p0 p1 p2 y1).length:Nat):Int)) ∧((zz0 < (((q0_Z3 p0 p1 p2 y1).length:Nat):Int)) ∧(∃ n6,(loopP (fun (y7:(Int×(Int×(Int×(Int×Int))))) k8 => ((((decide (y7.1 < (((q0_Z3 p0 p1 p2 y1).length:Nat):Int)))=true) →((zz0≤y7.1) ∧((y7.1 < (((q0_Z3 p0 p1 p2 y1).length:Nat):Int)) ∧((zz0≤y7.1) ∧((y7.1 < (((q0_Z3 p0 p1 p2 y1).length:Nat):Int)) ∧((zz0≤y7.1) ∧((y7.1 < (((q0_Z3 p0 p1 p2 y1).length:Nat):Int)) ∧((zz0≤y7.1) ∧((y7.1 < (((q0_Z3 p0 p1 p2 y1).length:Nat):Int)) ∧(k8 ((wi (y7.1 + zz1)),((min y7.2.1 (List.getD (q0_Z3 p0 p1 p2 y1) y7.1.toNat (zz0,zz0)).2),((max y7.2.2.1 (List.getD (q0_Z3 p0 p1 p2 y1) y7.1.toNat (zz0,zz0)).1),((min y7.2.2.2.1 (List.getD (q0_Z3 p0 p1 p2 y1) y7.1.toNat (zz0,zz0)).1),(max y7.2.2.2.2 (List.getD (q0_Z3 p0 p1 p2 y1) y7.1.toNat (zz0,zz0)).2))))))))))))))) ∧(((decide (y7.1 < (((q0_Z3 p0 p1 p2 y1).length:Nat):Int)))=false) →(k2 ((wi (y1.1 + zz1)),((wi (y1.2.1 + (max zz0 (wi (y7.2.2.1 - y7.2.1))))),(wi ((wi (y1.2.2 + y7.2.2.2.2)) - y7.2.2.2.1)))))))) n6 (zz0,((List.getD (q0_Z3 p0 p1 p2 y1) (Int.toNat zz0) (zz0,zz0)).2,((List.getD (q0_Z3 p0 p1 p2 y1) (Int.toNat zz0) (zz0,zz0)).1,(List.getD (q0_Z3 p0 p1 p2 y1) (Int.toNat zz0) (zz0,zz0))))))))))))))))))) ∧(((decide (y1.1 < (p2.length:Int)))=false) →(K y1.2)))) n0 (zz0,(zz0,zz0))))))
theorem w_Z3_eq (p0:(List (Int×(Int×(Int×(Int×Int)))))) (p1:(Int×(Int×(Int×(Int×(Int×(Int×(Int×(Int×Int))))))))) (p2:gF) (K:(Int×Int)→Prop):tfn F_Z3 A_Z3 C_Z3 P_Z3 R_Z3 (p0,p1,p2) K = w_Z3 p0 p1 p2 K := by kernel_rfl
def st_Z3_0 (p0:(List (Int×(Int×(Int×(Int×Int)))))) (p1:(Int×(Int×(Int×(Int×(Int×(Int×(Int×(Int×Int))))))))) (p2:gF) (y0:(Int×(Int×Int))) (y3:(Int×(Int×(Int×(Int×Int))))):(Int×(Int×(Int×(Int×Int)))) ⊕ ((Int×(Int×Int)) ⊕ (Int×Int)) := (cond (decide (y3.1 < (((List.length (List.take ((Int.toNat (p2.getD (Int.toNat (IntKind.i64.wrap (y0.1 + 1))) (0:Int))) - (Int.toNat (p2.getD y0.1.toNat (0:Int)))) (List.drop (Int.toNat (p2.getD y0.1.toNat (0:Int))) (v_rem p0 0 p1)))):Nat):Int))) (Sum.inl ((IntKind.i64.wrap (y3.1 + 1)),((min y3.2.1 (List.getD (List.take ((Int.toNat (p2.getD (Int.toNat (IntKind.i64.wrap (y0.1 + 1))) (0:Int))) - (Int.toNat (p2.getD y0.1.toNat (0:Int)))) (List.drop (Int.toNat (p2.getD y0.1.toNat (0:Int))) (v_rem p0 0 p1))) y3.1.toNat (0,0)).2),((max y3.2.2.1 (List.getD (List.take ((Int.toNat (p2.getD (Int.toNat (IntKind.i64.wrap (y0.1 + 1))) (0:Int))) - (Int.toNat (p2.getD y0.1.toNat (0:Int)))) (List.drop (Int.toNat (p2.getD y0.1.toNat (0:Int))) (v_rem p0 0 p1))) y3.1.toNat (0,0)).1),((min y3.2.2.2.1 (List.getD (List.take ((Int.toNat (p2.getD (Int.toNat (IntKind.i64.wrap (y0.1 + 1))) (0:Int))) - (Int.toNat (p2.getD y0.1.toNat (0:Int)))) (List.drop (Int.toNat (p2.getD y0.1.toNat (0:Int))) (v_rem p0 0 p1))) y3.1.toNat (0,0)).1),(max y3.2.2.2.2 (List.getD (List.take ((Int.toNat (p2.getD (Int.toNat (IntKind.i64.wrap (y0.1 + 1))) (0:Int))) - (Int.toNat (p2.getD y0.1.toNat (0:Int)))) (List.drop (Int.toNat (p2.getD y0.1.toNat (0:Int))) (v_rem p0 0 p1))) y3.1.toNat (0,0)).2)))))) (Sum.inr (Sum.inl ((IntKind.i64.wrap (y0.1 + 1)),((IntKind.i64.wrap (y0.2.1 + (max (0:Int) (IntKind.i64.wrap (y3.2.2.1 - y3.2.1))))),(IntKind.i64.wrap ((IntKind.i64.wrap (y0.2.2 + y3.2.2.2.2)) - y3.2.2.2.1)))))))
abbrev sp_Z3_0 (p0:(List (Int×(Int×(Int×(Int×Int)))))) (p1:(Int×(Int×(Int×(Int×(Int×(Int×(Int×(Int×Int))))))))) (p2:gF) (y0:(Int×(Int×Int))) (y3:(Int×(Int×(Int×(Int×Int))))):List Prop := [(((decide (y3.1 < (((List.length (List.take ((Int.toNat (p2.getD (Int.toNat (IntKind.i64.wrap (y0.1 + 1))) (0:Int))) - (Int.toNat (p2.getD y0.1.toNat (0:Int)))) (List.drop (Int.toNat (p2.getD y0.1.toNat (0:Int))) (v_rem p0 0 p1)))):Nat):Int)))=true)→((0:Int)≤y3.1)),(((decide (y3.1 < (((List.length (List.take ((Int.toNat (p2.getD (Int.toNat (IntKind.i64.wrap (y0.1 + 1))) (0:Int))) - (Int.toNat (p2.getD y0.1.toNat (0:Int)))) (List.drop (Int.toNat (p2.getD y0.1.toNat (0:Int))) (v_rem p0 0 p1)))):Nat):Int)))=true)→(y3.1 < (((List.length (List.take ((Int.toNat (p2.getD (Int.toNat (IntKind.i64.wrap (y0.1 + 1))) (0:Int))) - (Int.toNat (p2.getD y0.1.toNat (0:Int)))) (List.drop (Int.toNat (p2.getD y0.1.toNat (0:Int))) (v_rem p0 0 p1)))):Nat):Int)))]
def st_Z3_1 (p0:(List (Int×(Int×(Int×(Int×Int)))))) (p1:(Int×(Int×(Int×(Int×(Int×(Int×(Int×(Int×Int))))))))) (p2:gF) (y0:(Int×(Int×Int))) (y5:(Int×(Int×(Int×(Int×Int))))):(Int×(Int×(Int×(Int×Int)))) ⊕ ((Int×(Int×Int)) ⊕ (Int×Int)) := (cond (decide (y5.1 < (((List.length (List.take ((Int.toNat (p0.length:Int)) - (Int.toNat (p2.getD y0.1.toNat (0:Int)))) (List.drop (Int.toNat (p2.getD y0.1.toNat (0:Int))) (v_rem p0 0 p1)))):Nat):Int))) (Sum.inl ((IntKind.i64.wrap (y5.1 + 1)),((min y5.2.1 (List.getD (List.take ((Int.toNat (p0.length:Int)) - (Int.toNat (p2.getD y0.1.toNat (0:Int)))) (List.drop (Int.toNat (p2.getD y0.1.toNat (0:Int))) (v_rem p0 0 p1))) y5.1.toNat (0,0)).2),((max y5.2.2.1 (List.getD (List.take ((Int.toNat (p0.length:Int)) - (Int.toNat (p2.getD y0.1.toNat (0:Int)))) (List.drop (Int.toNat (p2.getD y0.1.toNat (0:Int))) (v_rem p0 0 p1))) y5.1.toNat (0,0)).1),((min y5.2.2.2.1 (List.getD (List.take ((Int.toNat (p0.length:Int)) - (Int.toNat (p2.getD y0.1.toNat (0:Int)))) (List.drop (Int.toNat (p2.getD y0.1.toNat (0:Int))) (v_rem p0 0 p1))) y5.1.toNat (0,0)).1),(max y5.2.2.2.2 (List.getD (List.take ((Int.toNat (p0.length:Int)) - (Int.toNat (p2.getD y0.1.toNat (0:Int)))) (List.drop (Int.toNat (p2.getD y0.1.toNat (0:Int))) (v_rem p0 0 p1))) y5.1.toNat (0,0)).2)))))) (Sum.inr (Sum.inl ((IntKind.i64.wrap (y0.1 + 1)),((IntKind.i64.wrap (y0.2.1 + (max (0:Int) (IntKind.i64.wrap (y5.2.2.1 - y5.2.1))))),(IntKind.i64.wrap ((IntKind.i64.wrap (y0.2.2 + y5.2.2.2.2)) - y5.2.2.2.1)))))))
abbrev sp_Z3_1 (p0:(List (Int×(Int×(Int×(Int×Int)))))) (p1:(Int×(Int×(Int×(Int×(Int×(Int×(Int×(Int×Int))))))))) (p2:gF) (y0:(Int×(Int×Int))) (y5:(Int×(Int×(Int×(Int×Int))))):List Prop := [(((decide (y5.1 < (((List.length (List.take ((Int.toNat (p0.length:Int)) - (Int.toNat (p2.getD y0.1.toNat (0:Int)))) (List.drop (Int.toNat (p2.getD y0.1.toNat (0:Int))) (v_rem p0 0 p1)))):Nat):Int)))=true)→((0:Int)≤y5.1)),(((decide (y5.1 < (((List.length (List.take ((Int.toNat (p0.length:Int)) - (Int.toNat (p2.getD y0.1.toNat (0:Int)))) (List.drop (Int.toNat (p2.getD y0.1.toNat (0:Int))) (v_rem p0 0 p1)))):Nat):Int)))=true)→(y5.1 < (((List.length (List.take ((Int.toNat (p0.length:Int)) - (Int.toNat (p2.getD y0.1.toNat (0:Int)))) (List.drop (Int.toNat (p2.getD y0.1.toNat (0:Int))) (v_rem p0 0 p1)))):Nat):Int)))]
def st_Z3_2 (p0:(List (Int×(Int×(Int×(Int×Int)))))) (p1:(Int×(Int×(Int×(Int×(Int×(Int×(Int×(Int×Int))))))))) (p2:gF) (y0:(Int×(Int×Int))):(Int×(Int×Int)) ⊕ (Int×Int) := (cond (decide (y0.1 < (p2.length:Int))) (cond (decide ((IntKind.i64.wrap (y0.1 + 1)) < (p2.length:Int))) (lpv (Sum.inr (0,0)) (st_Z3_0 p0 p1 p2 y0) ((0:Int),((List.getD (List.take ((Int.toNat (p2.getD (Int.toNat (IntKind.i64.wrap (y0.1 + 1))) (0:Int))) - (Int.toNat (p2.getD y0.1.toNat (0:Int)))) (List.drop (Int.toNat (p2.getD y0.1.toNat (0:Int))) (v_rem p0 0 p1))) (Int.toNat (0:Int)) (0,0)).2,((List.getD (List.take ((Int.toNat (p2.getD (Int.toNat (IntKind.i64.wrap (y0.1 + 1))) (0:Int))) - (Int.toNat (p2.getD y0.1.toNat (0:Int)))) (List.drop (Int.toNat (p2.getD y0.1.toNat (0:Int))) (v_rem p0 0 p1))) (Int.toNat (0:Int)) (0,0)).1,(List.getD (List.take ((Int.toNat (p2.getD (Int.toNat (IntKind.i64.wrap (y0.1 + 1))) (0:Int))) - (Int.toNat (p2.getD y0.1.toNat (0:Int)))) (List.drop (Int.toNat (p2.getD y0.1.toNat (0:Int))) (v_rem p0 0 p1))) (Int.toNat (0:Int)) (0,0)))))) (lpv (Sum.inr (0,0)) (st_Z3_1 p0 p1 p2 y0) ((0:Int),((List.getD (List.take ((Int.toNat (p0.length:Int)) - (Int.toNat (p2.getD y0.1.toNat (0:Int)))) (List.drop (Int.toNat (p2.getD y0.1.toNat (0:Int))) (v_rem p0 0 p1))) (Int.toNat (0:Int)) (0,0)).2,((List.getD (List.take ((Int.toNat (p0.length:Int)) - (Int.toNat (p2.getD y0.1.toNat (0:Int)))) (List.drop (Int.toNat (p2.getD y0.1.toNat (0:Int))) (v_rem p0 0 p1))) (Int.toNat (0:Int)) (0,0)).1,(List.getD (List.take ((Int.toNat (p0.length:Int)) - (Int.toNat (p2.getD y0.1.toNat (0:Int)))) (List.drop (Int.toNat (p2.getD y0.1.toNat (0:Int))) (v_rem p0 0 p1))) (Int.toNat (0:Int)) (0,0))))))) (Sum.inr y0.2))
abbrev sp_Z3_2 (p0:(List (Int×(Int×(Int×(Int×Int)))))) (p1:(Int×(Int×(Int×(Int×(Int×(Int×(Int×(Int×Int))))))))) (p2:gF) (y0:(Int×(Int×Int))):List Prop := [(((decide (y0.1 < (p2.length:Int)))=true)→(((decide ((IntKind.i64.wrap (y0.1 + 1)) < (p2.length:Int)))=true)→((0:Int)≤(IntKind.i64.wrap (y0.1 + 1))))),(((decide (y0.1 < (p2.length:Int)))=true)→(((decide ((IntKind.i64.wrap (y0.1 + 1)) < (p2.length:Int)))=true)→((IntKind.i64.wrap (y0.1 + 1)) < (p2.length:Int)))),(((decide (y0.1 < (p2.length:Int)))=true)→(((decide ((IntKind.i64.wrap (y0.1 + 1)) < (p2.length:Int)))=true)→((0:Int)≤y0.1))),(((decide (y0.1 < (p2.length:Int)))=true)→(((decide ((IntKind.i64.wrap (y0.1 + 1)) < (p2.length:Int)))=true)→(y0.1 < (p2.length:Int)))),(((decide (y0.1 < (p2.length:Int)))=true)→(((decide ((IntKind.i64.wrap (y0.1 + 1)) < (p2.length:Int)))=true)→((0:Int)≤(p2.getD y0.1.toNat (0:Int))))),(((decide (y0.1 < (p2.length:Int)))=true)→(((decide ((IntKind.i64.wrap (y0.1 + 1)) < (p2.length:Int)))=true)→((p2.getD y0.1.toNat (0:Int))≤(p2.getD (Int.toNat (IntKind.i64.wrap (y0.1 + 1))) (0:Int))))),(((decide (y0.1 < (p2.length:Int)))=true)→(((decide ((IntKind.i64.wrap (y0.1 + 1)) < (p2.length:Int)))=true)→((p2.getD (Int.toNat (IntKind.i64.wrap (y0.1 + 1))) (0:Int))≤(((v_rem p0 0 p1).length:Nat):Int)))),(((decide (y0.1 < (p2.length:Int)))=true)→(((decide ((IntKind.i64.wrap (y0.1 + 1)) < (p2.length:Int)))=true)→((0:Int) < (((List.length (List.take ((Int.toNat (p2.getD (Int.toNat (IntKind.i64.wrap (y0.1 + 1))) (0:Int))) - (Int.toNat (p2.getD y0.1.toNat (0:Int)))) (List.drop (Int.toNat (p2.getD y0.1.toNat (0:Int))) (v_rem p0 0 p1)))):Nat):Int)))),(((decide (y0.1 < (p2.length:Int)))=true)→(((decide ((IntKind.i64.wrap (y0.1 + 1)) < (p2.length:Int)))=true)→(OkL (st_Z3_0 p0 p1 p2 y0) (sp_Z3_0 p0 p1 p2 y0) ((0:Int),((List.getD (List.take ((Int.toNat (p2.getD (Int.toNat (IntKind.i64.wrap (y0.1 + 1))) (0:Int))) - (Int.toNat (p2.getD y0.1.toNat (0:Int)))) (List.drop (Int.toNat (p2.getD y0.1.toNat (0:Int))) (v_rem p0 0 p1))) (Int.toNat (0:Int)) (0,0)).2,((List.getD (List.take ((Int.toNat (p2.getD (Int.toNat (IntKind.i64.wrap (y0.1 + 1))) (0:Int))) - (Int.toNat (p2.getD y0.1.toNat (0:Int)))) (List.drop (Int.toNat (p2.getD y0.1.toNat (0:Int))) (v_rem p0 0 p1))) (Int.toNat (0:Int)) (0,0)).1,(List.getD (List.take ((Int.toNat (p2.getD (Int.toNat (IntKind.i64.wrap (y0.1 + 1))) (0:Int))) - (Int.toNat (p2.getD y0.1.toNat (0:Int)))) (List.drop (Int.toNat (p2.getD y0.1.toNat (0:Int))) (v_rem p0 0 p1))) (Int.toNat (0:Int)) (0,0)))))))),(((decide (y0.1 < (p2.length:Int)))=true)→(((decide ((IntKind.i64.wrap (y0.1 + 1)) < (p2.length:Int)))=false)→((0:Int)≤y0.1))),(((decide (y0.1 < (p2.length:Int)))=true)→(((decide ((IntKind.i64.wrap (y0.1 + 1)) < (p2.length:Int)))=false)→(y0.1 < (p2.length:Int)))),(((decide (y0.1 < (p2.length:Int)))=true)→(((decide ((IntKind.i64.wrap (y0.1 + 1)) < (p2.length:Int)))=false)→((0:Int)≤(p2.getD y0.1.toNat (0:Int))))),(((decide (y0.1 < (p2.length:Int)))=true)→(((decide ((IntKind.i64.wrap (y0.1 + 1)) < (p2.length:Int)))=false)→((p2.getD y0.1.toNat (0:Int))≤(p0.length:Int)))),(((decide (y0.1 < (p2.length:Int)))=true)→(((decide ((IntKind.i64.wrap (y0.1 + 1)) < (p2.length:Int)))=false)→((p0.length:Int)≤(((v_rem p0 0 p1).length:Nat):Int)))),(((decide (y0.1 < (p2.length:Int)))=true)→(((decide ((IntKind.i64.wrap (y0.1 + 1)) < (p2.length:Int)))=false)→((0:Int) < (((List.length (List.take ((Int.toNat (p0.length:Int)) - (Int.toNat (p2.getD y0.1.toNat (0:Int)))) (List.drop (Int.toNat (p2.getD y0.1.toNat (0:Int))) (v_rem p0 0 p1)))):Nat):Int)))),(((decide (y0.1 < (p2.length:Int)))=true)→(((decide ((IntKind.i64.wrap (y0.1 + 1)) < (p2.length:Int)))=false)→(OkL (st_Z3_1 p0 p1 p2 y0) (sp_Z3_1 p0 p1 p2 y0) ((0:Int),((List.getD (List.take ((Int.toNat (p0.length:Int)) - (Int.toNat (p2.getD y0.1.toNat (0:Int)))) (List.drop (Int.toNat (p2.getD y0.1.toNat (0:Int))) (v_rem p0 0 p1))) (Int.toNat (0:Int)) (0,0)).2,((List.getD (List.take ((Int.toNat (p0.length:Int)) - (Int.toNat (p2.getD y0.1.toNat (0:Int)))) (List.drop (Int.toNat (p2.getD y0.1.toNat (0:Int))) (v_rem p0 0 p1))) (Int.toNat (0:Int)) (0,0)).1,(List.getD (List.take ((Int.toNat (p0.length:Int)) - (Int.toNat (p2.getD y0.1.toNat (0:Int)))) (List.drop (Int.toNat (p2.getD y0.1.toNat (0:Int))) (v_rem p0 0 p1))) (Int.toNat (0:Int)) (0,0))))))))]
def s_Z3 (p0:(List (Int×(Int×(Int×(Int×Int)))))) (p1:(Int×(Int×(Int×(Int×(Int×(Int×(Int×(Int×Int))))))))) (p2:gF):(Int×Int) := (lpv (0,0) (st_Z3_2 p0 p1 p2) ((0:Int),(0,0)))
abbrev pre_Z3 (p0:(List (Int×(Int×(Int×(Int×Int)))))) (p1:(Int×(Int×(Int×(Int×(Int×(Int×(Int×(Int×Int))))))))) (p2:gF):List Prop := [(v_smp p0),(v_fok p1),(OkL (st_Z3_2 p0 p1 p2) (sp_Z3_2 p0 p1 p2) ((0:Int),(0,0)))]
theorem d_Z3 (p0:(List (Int×(Int×(Int×(Int×Int)))))) (p1:(Int×(Int×(Int×(Int×(Int×(Int×(Int×(Int×Int))))))))) (p2:gF) (K:(Int×Int)→Prop) (hp:∀ p∈pre_Z3 p0 p1 p2,p) (h:K (s_Z3 p0 p1 p2)):w_Z3 p0 p1 p2 K := by
 unfold w_Z3
 unfold s_Z3 at h
 obtain ⟨hp0,hp1,hp2,_⟩ := conj_of hp
 exact ⟨(hp0),(hp1),(loop_gen (hp2) h (fun y0 k0 hp h => by
 unfold st_Z3_2 at h; obtain ⟨hp0,hp1,hp2,hp3,hp4,hp5,hp6,hp7,hp8,hp9,hp10,hp11,hp12,hp13,hp14,hp15,_⟩ := conj_of hp
 exact (br' h (fun e1 h => (br' h (fun e2 h => ⟨(hp0 e1 e2),(hp1 e1 e2),(hp2 e1 e2),(hp3 e1 e2),(hp4 e1 e2),(hp5 e1 e2),(hp6 e1 e2),(hp7 e1 e2),(hp7 e1 e2),(hp7 e1 e2),(hp7 e1 e2),(loop_gen (hp8 e1 e2) h (fun y3 k3 hp h => by
 unfold st_Z3_0 at h; obtain ⟨hp0,hp1,_⟩ := conj_of hp
 exact (br' h (fun e4 h => ⟨(hp0 e4),(hp1 e4),(hp0 e4),(hp1 e4),(hp0 e4),(hp1 e4),(hp0 e4),(hp1 e4),h⟩)
  (fun e4 h => h))))⟩)
  (fun e2 h => ⟨(hp9 e1 e2),(hp10 e1 e2),(hp11 e1 e2),(hp12 e1 e2),(hp13 e1 e2),(hp14 e1 e2),(hp14 e1 e2),(hp14 e1 e2),(hp14 e1 e2),(loop_gen (hp15 e1 e2) h (fun y5 k5 hp h => by
 unfold st_Z3_1 at h; obtain ⟨hp0,hp1,_⟩ := conj_of hp
 exact (br' h (fun e6 h => ⟨(hp0 e6),(hp1 e6),(hp0 e6),(hp1 e6),(hp0 e6),(hp1 e6),(hp0 e6),(hp1 e6),h⟩)
  (fun e6 h => h))))⟩)))
  (fun e1 h => h))))⟩
theorem l_Z3_0 (p0:List (Int×Int×Int×Int×Int)) (p1:Int×Int×Int×Int×Int×Int×Int×Int×Int) (p2:gF) (i:Nat) (out:gG) (s:(Int×Int)×Int×Int) (R:gC) (hR:v_rem p0 0 p1 = R) (hi:i≤100) (hlen:R.length≤20):OkL (st_Z3_0 p0 p1 p2 ((i:Int),out)) (sp_Z3_0 p0 p1 p2 ((i:Int),out)) (0,s.2.1,s.1.2,s.1.1,s.2.2)∧lpv (.inr (0,0)) (st_Z3_0 p0 p1 p2 ((i:Int),out)) (0,s.2.1,s.1.2,s.1.1,s.2.2) = .inl (((i + 1:Nat):Int),IntKind.i64.wrap (out.1 + max 0 (IntKind.i64.wrap (((v_own R (p2.getD i 0).toNat (p2.getD (i + 1) 0).toNat).foldl v_mms s).1.2 - ((v_own R (p2.getD i 0).toNat (p2.getD (i + 1) 0).toNat).foldl v_mms s).2.1))),IntKind.i64.wrap (IntKind.i64.wrap (out.2 + ((v_own R (p2.getD i 0).toNat (p2.getD (i + 1) 0).toNat).foldl v_mms s).2.2) - ((v_own R (p2.getD i 0).toNat (p2.getD (i + 1) 0).toNat).foldl v_mms s).1.1)) := by
 have hw0:IntKind.i64.wrap ((i:Int) + 1)=((i + 1:Nat):Int) := wrap_id (by omega) (by omega)
 have hol:(v_own R (p2.getD i 0).toNat (p2.getD (i + 1) 0).toNat).length≤20 := by unfold v_own; rw [List.length_take,List.length_drop]; omega
 have hO:List.take ((p2.getD (i + 1) 0).toNat - (p2.getD i 0).toNat) (List.drop (p2.getD i 0).toNat R)=(v_own R (p2.getD i 0).toNat (p2.getD (i + 1) 0).toNat) := rfl
 generalize (v_own R (p2.getD i 0).toNat (p2.getD (i + 1) 0).toNat)=O at *
 have main := @for_is ((Int×Int)×Int×Int) (Int×Int×Int×Int×Int) ((Int×Int×Int) ⊕ (Int×Int)) (.inr (0,0)) (st_Z3_0 p0 p1 p2 ((i:Int),out)) (sp_Z3_0 p0 p1 p2 ((i:Int),out)) (fun i t => (i,t.2.1,t.1.2,t.1.1,t.2.2)) 0 O.length (fun j t => t = (O.take j).foldl v_mms s) (fun _ _ => .inl (((i + 1:Nat):Int),IntKind.i64.wrap (out.1 + max 0 (IntKind.i64.wrap ((O.foldl v_mms s).1.2 - (O.foldl v_mms s).2.1))),IntKind.i64.wrap (IntKind.i64.wrap (out.2 + (O.foldl v_mms s).2.2) - (O.foldl v_mms s).1.1))) (Nat.zero_le _) (by omega) ?_ ?_ s rfl
 ·exact main
 ·rintro t h1
  rw [List.take_length] at h1
  simp only [sp_Z3_0,st_Z3_0,fM,Int.toNat_natCast,hw0,hR,hO,decide_eq_false (Int.lt_irrefl (O.length:Int)),cond_false,h1]
  refine ⟨?_,by first | rfl | trivial⟩
  and_intros
  all_goals first
   | (intro h; cases h; done)
   | (intro p hp; cases hp)
 ·rintro j t h0 hj h1
  have hw1:IntKind.i64.wrap ((j:Int) + 1)=((j + 1:Nat):Int) := wrap_id (by omega) (by omega)
  have hd:decide ((j:Int) < (O.length:Int))=true := decide_eq_true (by omega)
  simp only [sp_Z3_0,st_Z3_0,fM,Int.toNat_natCast,hw0,hw1,hR,hO,hd,cond_true]
  refine ⟨?_,.inl ⟨v_mms t (O.getD j (0,0)),rfl,by rw [v_fold_snoc hj,h1],by first | rfl | trivial⟩⟩
  and_intros
  all_goals first
   | (intro p hp; cases hp; done)
   | (intros; omega)
theorem l_Z3_1 (p0:List (Int×Int×Int×Int×Int)) (p1:Int×Int×Int×Int×Int×Int×Int×Int×Int) (p2:gF) (i:Nat) (out:gG) (s:(Int×Int)×Int×Int) (R:gC) (hR:v_rem p0 0 p1 = R) (hi:i≤100) (hlen:R.length≤20):OkL (st_Z3_1 p0 p1 p2 ((i:Int),out)) (sp_Z3_1 p0 p1 p2 ((i:Int),out)) (0,s.2.1,s.1.2,s.1.1,s.2.2)∧lpv (.inr (0,0)) (st_Z3_1 p0 p1 p2 ((i:Int),out)) (0,s.2.1,s.1.2,s.1.1,s.2.2) = .inl (((i + 1:Nat):Int),IntKind.i64.wrap (out.1 + max 0 (IntKind.i64.wrap (((v_own R (p2.getD i 0).toNat p0.length).foldl v_mms s).1.2 - ((v_own R (p2.getD i 0).toNat p0.length).foldl v_mms s).2.1))),IntKind.i64.wrap (IntKind.i64.wrap (out.2 + ((v_own R (p2.getD i 0).toNat p0.length).foldl v_mms s).2.2) - ((v_own R (p2.getD i 0).toNat p0.length).foldl v_mms s).1.1)) := by
 have hw0:IntKind.i64.wrap ((i:Int) + 1)=((i + 1:Nat):Int) := wrap_id (by omega) (by omega)
 have hol:(v_own R (p2.getD i 0).toNat p0.length).length≤20 := by unfold v_own; rw [List.length_take,List.length_drop]; omega
 have hO:List.take (p0.length - (p2.getD i 0).toNat) (List.drop (p2.getD i 0).toNat R)=(v_own R (p2.getD i 0).toNat p0.length) := rfl
 generalize (v_own R (p2.getD i 0).toNat p0.length)=O at *
 have main := @for_is ((Int×Int)×Int×Int) (Int×Int×Int×Int×Int) ((Int×Int×Int) ⊕ (Int×Int)) (.inr (0,0)) (st_Z3_1 p0 p1 p2 ((i:Int),out)) (sp_Z3_1 p0 p1 p2 ((i:Int),out)) (fun i t => (i,t.2.1,t.1.2,t.1.1,t.2.2)) 0 O.length (fun j t => t = (O.take j).foldl v_mms s) (fun _ _ => .inl (((i + 1:Nat):Int),IntKind.i64.wrap (out.1 + max 0 (IntKind.i64.wrap ((O.foldl v_mms s).1.2 - (O.foldl v_mms s).2.1))),IntKind.i64.wrap (IntKind.i64.wrap (out.2 + (O.foldl v_mms s).2.2) - (O.foldl v_mms s).1.1))) (Nat.zero_le _) (by omega) ?_ ?_ s rfl
 ·exact main
 ·rintro t h1
  rw [List.take_length] at h1
  simp only [sp_Z3_1,st_Z3_1,fM,Int.toNat_natCast,hw0,hR,hO,decide_eq_false (Int.lt_irrefl (O.length:Int)),cond_false,h1]
  refine ⟨?_,by first | rfl | trivial⟩
  and_intros
  all_goals first
   | (intro h; cases h; done)
   | (intro p hp; cases hp)
 ·rintro j t h0 hj h1
  have hw1:IntKind.i64.wrap ((j:Int) + 1)=((j + 1:Nat):Int) := wrap_id (by omega) (by omega)
  have hd:decide ((j:Int) < (O.length:Int))=true := decide_eq_true (by omega)
  simp only [sp_Z3_1,st_Z3_1,fM,Int.toNat_natCast,hw0,hw1,hR,hO,hd,cond_true]
  refine ⟨?_,.inl ⟨v_mms t (O.getD j (0,0)),rfl,by rw [v_fold_snoc hj,h1],by first | rfl | trivial⟩⟩
  and_intros
  all_goals first
   | (intro p hp; cases hp; done)
   | (intros; omega)
theorem l_Z3_2 (p0:List (Int×Int×Int×Int×Int)) (p1:Int×Int×Int×Int×Int×Int×Int×Int×Int) (p2:gF) (R:gC) (hR:v_rem p0 0 p1 = R) (hl:p0.length≤20) (hn:R.length = p0.length) (hb:v_bds 101000000000001 R) (hg:v_lok p0.length p2):OkL (st_Z3_2 p0 p1 p2) (sp_Z3_2 p0 p1 p2) (0,0,0)∧lpv (0,0) (st_Z3_2 p0 p1 p2) (0,0,0)=v_fig R p0.length p2 p2.length := by
 have hgl := hg.len
 have main := @for_is (Int×Int) (Int×Int×Int) (Int×Int) (0,0) (st_Z3_2 p0 p1 p2) (sp_Z3_2 p0 p1 p2) (fun i t => (i,t)) 0 p2.length (fun j t => t = v_fig R p0.length p2 j) (fun _ _ => v_fig R p0.length p2 p2.length) (Nat.zero_le _) (by omega) ?_ ?_ (0,0) rfl
 ·exact main
 ·rintro t h1
  simp only [sp_Z3_2,st_Z3_2,fM,decide_eq_false (Int.lt_irrefl (p2.length:Int)),cond_false,h1]
  refine ⟨?_,by first | rfl | trivial⟩
  and_intros
  all_goals first
   | (intro h; cases h; done)
   | (intro p hp; cases hp)
 ·rintro j t h0 hj h1
  have hw1:IntKind.i64.wrap ((j:Int) + 1)=((j + 1:Nat):Int) := wrap_id (by omega) (by omega)
  have hd:decide ((j:Int) < (p2.length:Int))=true := decide_eq_true (by omega)
  have hk := hg.ok j hj
  have he := v_end_is hg hj
  have fb := v_fig_bd hg hn hb j (by omega)
  have xb := v_ext_bd (e := (v_end p0.length p2 j).toNat) hb (show (p2.getD j 0).toNat < R.length by omega)
  have hfs:v_fig R p0.length p2 (j + 1)=((v_fig R p0.length p2 j).1 + max 0 ((v_leg R p0.length p2 j).1.2 - (v_leg R p0.length p2 j).2.1),(v_fig R p0.length p2 j).2 + ((v_leg R p0.length p2 j).2.2 - (v_leg R p0.length p2 j).1.1)) := rfl
  obtain ⟨a,b,c,d⟩ := xb
  have lg:v_ext R (p2.getD j 0).toNat (v_end p0.length p2 j).toNat = v_leg R p0.length p2 j := rfl
  rw [lg] at a b c d
  have w1:IntKind.i64.wrap ((v_leg R p0.length p2 j).1.2 - (v_leg R p0.length p2 j).2.1)=(v_leg R p0.length p2 j).1.2 - (v_leg R p0.length p2 j).2.1 := wrap_id (by omega) (by omega)
  have w2:IntKind.i64.wrap ((v_fig R p0.length p2 j).2 + (v_leg R p0.length p2 j).2.2)=(v_fig R p0.length p2 j).2 + (v_leg R p0.length p2 j).2.2 := wrap_id (by omega) (by omega)
  have w3:IntKind.i64.wrap ((v_fig R p0.length p2 j).1 + max 0 ((v_leg R p0.length p2 j).1.2 - (v_leg R p0.length p2 j).2.1))=(v_fig R p0.length p2 j).1 + max 0 ((v_leg R p0.length p2 j).1.2 - (v_leg R p0.length p2 j).2.1) := wrap_id (by omega) (by omega)
  have w4:IntKind.i64.wrap ((v_fig R p0.length p2 j).2 + (v_leg R p0.length p2 j).2.2 - (v_leg R p0.length p2 j).1.1)=(v_fig R p0.length p2 j).2 + ((v_leg R p0.length p2 j).2.2 - (v_leg R p0.length p2 j).1.1) := by rw [wrap_id (by omega) (by omega)]; omega
  subst h1
  obtain ⟨q1,q2⟩ := l_Z3_0 p0 p1 p2 j (v_fig R p0.length p2 j) (v_st R (p2.getD j 0).toNat) R hR (by omega) (by omega)
  obtain ⟨r1,r2⟩ := l_Z3_1 p0 p1 p2 j (v_fig R p0.length p2 j) (v_st R (p2.getD j 0).toNat) R hR (by omega) (by omega)
  have hj2:((j + 1:Nat):Int)=(j:Int) + 1 := rfl
  have ho:∀ e,List.take (e - (p2.getD j 0).toNat) (List.drop (p2.getD j 0).toNat R)=v_own R (p2.getD j 0).toNat e := fun _ => rfl
  have l1 := v_own_len (R := R) (b := (p2.getD j 0).toNat) (e := p0.length) (by omega)
  have s1 := v_own_0 (R := R) (b := (p2.getD j 0).toNat) (e := p0.length) (by omega)
  simp only [sp_Z3_2,st_Z3_2,fM,Int.toNat_natCast,hw1,hR,hd,cond_true,ho,show (0:Int).toNat = 0 from rfl]
  cases k:decide (((j + 1:Nat):Int) < (p2.length:Int))
  ·have hv:(v_end p0.length p2 j).toNat = p0.length := by
    unfold v_end; rw [← hj2,k]; rfl
   have hx:(v_own R (p2.getD j 0).toNat p0.length).foldl v_mms (v_st R (p2.getD j 0).toNat)=v_leg R p0.length p2 j := by
    unfold v_leg v_ext; rw [hv]
   refine ⟨?_,.inl ⟨v_fig R p0.length p2 (j + 1),?_,rfl,by first | rfl | trivial⟩⟩
   ·rw [s1]
    refine ⟨fun _ h => (by cases h),fun _ h => (by cases h),fun _ h => (by cases h),fun _ h => (by cases h),fun _ h => (by cases h),fun _ h => (by cases h),fun _ h => (by cases h),fun _ h => (by cases h),fun _ h => (by cases h),fun _ _ => by omega,fun _ _ => by omega,fun _ _ => by omega,fun _ _ => by omega,fun _ _ => by omega,fun _ _ => by omega,fun _ _ => r1,fun p hp => by cases hp⟩
   ·rw [cond_false,s1]
    refine r2.trans ?_
    rw [hx,w1,w2,w3,w4,hfs]
  ·have hk2 := of_decide_eq_true k
   have has := hg.asc j (by omega)
   have ok2 := hg.ok (j + 1) (by omega)
   have l0 := v_own_len (R := R) (b := (p2.getD j 0).toNat) (e := (p2.getD (j + 1) 0).toNat) (by omega)
   have s0 := v_own_0 (R := R) (b := (p2.getD j 0).toNat) (e := (p2.getD (j + 1) 0).toNat) (by omega)
   have hv:(v_end p0.length p2 j).toNat = (p2.getD (j + 1) 0).toNat := by
    unfold v_end; rw [← hj2,k]; rfl
   have hx:(v_own R (p2.getD j 0).toNat (p2.getD (j + 1) 0).toNat).foldl v_mms (v_st R (p2.getD j 0).toNat)=v_leg R p0.length p2 j := by
    unfold v_leg v_ext; rw [hv]
   refine ⟨?_,.inl ⟨v_fig R p0.length p2 (j + 1),?_,rfl,by first | rfl | trivial⟩⟩
   ·rw [s0]
    refine ⟨fun _ _ => by omega,fun _ _ => by omega,fun _ _ => by omega,fun _ _ => by omega,fun _ _ => by omega,fun _ _ => by omega,fun _ _ => by omega,fun _ _ => by omega,fun _ _ => q1,fun _ h => (by cases h),fun _ h => (by cases h),fun _ h => (by cases h),fun _ h => (by cases h),fun _ h => (by cases h),fun _ h => (by cases h),fun _ h => (by cases h),fun p hp => by cases hp⟩
   ·rw [cond_true,s0]
    refine q2.trans ?_
    rw [hx,w1,w2,w3,w4,hfs]
abbrev t_Z3 (p0:List (Int×Int×Int×Int×Int)) (p1:Int×Int×Int×Int×Int×Int×Int×Int×Int) (p2:gF):Int×Int := v_fig (v_rem p0 0 p1) p0.length p2 p2.length
abbrev qre_Z3 (p0:List (Int×Int×Int×Int×Int)) (p1:Int×Int×Int×Int×Int×Int×Int×Int×Int) (p2:gF):List Prop := [v_smp p0,v_fok p1,v_lgs p0.length (-1) p2 = 0]
theorem pp_Z3 (p0:List (Int×Int×Int×Int×Int)) (p1:Int×Int×Int×Int×Int×Int×Int×Int×Int) (p2:gF) (hq:∀ p∈qre_Z3 p0 p1 p2,p):∀ p∈pre_Z3 p0 p1 p2,p := by
 obtain ⟨h1,h2,h3,_⟩ := conj_of hq
 simp only [pre_Z3,fM]
 exact ⟨h1,h2,(l_Z3_2 p0 p1 p2 _ rfl h1.len (v_rem_len _ _ _) (v_rem_bds h1 h2) (v_lger_ok h3)).1,by simp⟩
theorem tt_Z3 (p0:List (Int×Int×Int×Int×Int)) (p1:Int×Int×Int×Int×Int×Int×Int×Int×Int) (p2:gF) (hq:∀ p∈qre_Z3 p0 p1 p2,p):s_Z3 p0 p1 p2 = t_Z3 p0 p1 p2 := by
 obtain ⟨h1,h2,h3,_⟩ := conj_of hq
 exact (l_Z3_2 p0 p1 p2 _ rfl h1.len (v_rem_len _ _ _) (v_rem_bds h1 h2) (v_lger_ok h3)).2

abbrev con_Z3:Con := ⟨P_Z3,R_Z3,fun x => qre_Z3 x.1 x.2.1 x.2.2,fun x => t_Z3 x.1 x.2.1 x.2.2⟩
theorem ok_Z3:ConOk Try.prog 60 con_Z3 := okG k_Z3 e_Z3 hC_Z3 fun x hx => tf_of (w_Z3_eq x.1 x.2.1 x.2.2 _) (d_Z3 x.1 x.2.1 x.2.2 _ (pp_Z3 x.1 x.2.1 x.2.2 hx) (tt_Z3 x.1 x.2.1 x.2.2 hx))
def C_Z0:Cons := [(13,[],con_Z15),(20,[],con_Z12),(22,[],con_Z13),(27,[],con_Zx),(28,[],con_Zr),(46,ownMark,con_Zo),(56,[],con_Z1),(24,[],con_Z14),(26,[],con_Zm),(57,[],con_Zc),(29,[],con_Za),(58,[],con_Zh),(59,[],con_Zd),(60,[],con_Z3)]
theorem hC_Z0:ConsOk Try.prog C_Z0 := cC ok_Z15 <| cC ok_Z12 <| cC ok_Z13 <| cC ok_Zx <| cC ok_Zr <| ConsOk.consO ok_Zo <| cC ok_Z1 <| cC ok_Z14 <| cC ok_Zm <| cC ok_Zc <| cC ok_Za <| cC ok_Zh <| cC ok_Zd <| cC ok_Z3 <| ConsOk.nil
abbrev q1_Z0 (p0:(List (Int×(Int×(Int×(Int×Int)))))) := (([]:List (Int×(Int×(Int×(Int×Int))))) ++ p0)
abbrev q5_Z0 (p0:(List (Int×(Int×(Int×(Int×Int)))))) (p1:(Int×(Int×(Int×(Int×(Int×(Int×(Int×(Int×Int))))))))) := ((v_rmx (q1_Z0 p0) p1 zz0).2 != zz0)
abbrev q8_Z0 (p0:(List (Int×(Int×(Int×(Int×Int)))))) (p1:(Int×(Int×(Int×(Int×(Int×(Int×(Int×(Int×Int))))))))) := (cond (q5_Z0 p0 p1) true (!(decide ((v_rmx (q1_Z0 p0) p1 zz0).1 = (v_rem p0 0 p1)))))
abbrev q0_Z0 (p0:(List (Int×(Int×(Int×(Int×Int)))))) (p1:(Int×(Int×(Int×(Int×(Int×(Int×(Int×(Int×Int))))))))) := (cond (q8_Z0 p0 p1) true ((v_rmx (q1_Z0 p0) p1 zz1).2 != zz0))
abbrev q17_Z0 (p0:(List (Int×(Int×(Int×(Int×Int)))))) (p1:(Int×(Int×(Int×(Int×(Int×(Int×(Int×(Int×Int))))))))) := ((v_rmx (q1_Z0 p0) p1 zz0).2 == (v_ferr p1))
abbrev q9_Z0 (p0:(List (Int×(Int×(Int×(Int×Int)))))) (p1:(Int×(Int×(Int×(Int×(Int×(Int×(Int×(Int×Int))))))))) := (cond (q17_Z0 p0 p1) ((v_rmx (q1_Z0 p0) p1 zz1).2 == (v_ferr p1)) false)
abbrev q2_Z0 (p0:(List (Int×(Int×(Int×(Int×Int)))))) (p1:(Int×(Int×(Int×(Int×(Int×(Int×(Int×(Int×Int))))))))) (p2:gF) := (cond (q9_Z0 p0 p1) ((v_fgx (q1_Z0 p0) p1 p2).2 == (v_ferr p1)) false)
abbrev q18_Z0 (p0:(List (Int×(Int×(Int×(Int×Int)))))) (p1:(Int×(Int×(Int×(Int×(Int×(Int×(Int×(Int×Int))))))))) := ((v_rmx (q1_Z0 p0) p1 zz0).2 == (v_cs p0).2)
abbrev q10_Z0 (p0:(List (Int×(Int×(Int×(Int×Int)))))) (p1:(Int×(Int×(Int×(Int×(Int×(Int×(Int×(Int×Int))))))))) := (cond (q18_Z0 p0 p1) ((v_rmx (q1_Z0 p0) p1 zz1).2 == (v_cs p0).2) false)
abbrev q3_Z0 (p0:(List (Int×(Int×(Int×(Int×Int)))))) (p1:(Int×(Int×(Int×(Int×(Int×(Int×(Int×(Int×Int))))))))) (p2:gF) := (cond (q10_Z0 p0 p1) ((v_fgx (q1_Z0 p0) p1 p2).2 == (v_cs p0).2) false)
abbrev q4_Z0 (p0:(List (Int×(Int×(Int×(Int×Int)))))) (p1:(Int×(Int×(Int×(Int×(Int×(Int×(Int×(Int×Int))))))))) := ((((v_rmx (q1_Z0 p0) p1 zz0).1.length:Nat):Int) + (((v_rmx (q1_Z0 p0) p1 zz1).1.length:Nat):Int))
abbrev q6_Z0 (p0:(List (Int×(Int×(Int×(Int×Int)))))) (p1:(Int×(Int×(Int×(Int×(Int×(Int×(Int×(Int×Int))))))))) (p2:gF) := (((v_fgx (q1_Z0 p0) p1 p2).2 == zz0)=((v_fgx (q1_Z0 p0) p1 p2).2 == zz0))
abbrev q7_Z0 (p0:(List (Int×(Int×(Int×(Int×Int)))))) (p1:(Int×(Int×(Int×(Int×(Int×(Int×(Int×(Int×Int))))))))) (p2:gF) := ((v_fgx (q1_Z0 p0) p1 p2).2 == (v_lger (p0.length:Int) p2))
abbrev q11_Z0 (p0:(List (Int×(Int×(Int×(Int×Int)))))) (p1:(Int×(Int×(Int×(Int×(Int×(Int×(Int×(Int×Int))))))))) (p2:gF) := (((v_fgx (q1_Z0 p0) p1 p2).2 == zz0)=true)
abbrev q12_Z0 (p0:(List (Int×(Int×(Int×(Int×Int)))))) (p1:(Int×(Int×(Int×(Int×(Int×(Int×(Int×(Int×Int))))))))) := ((q5_Z0 p0 p1)=(q5_Z0 p0 p1))
abbrev q13_Z0 (p0:(List (Int×(Int×(Int×(Int×Int)))))) (p1:(Int×(Int×(Int×(Int×(Int×(Int×(Int×(Int×Int))))))))) := ((q0_Z0 p0 p1)=(q0_Z0 p0 p1))
abbrev q14_Z0 (p0:(List (Int×(Int×(Int×(Int×Int)))))) (p1:(Int×(Int×(Int×(Int×(Int×(Int×(Int×(Int×Int))))))))) (p2:gF) := (cond ((v_fgx (q1_Z0 p0) p1 p2).2 == zz0) (((v_fgx (q1_Z0 p0) p1 p2).1.1 == (v_fig (v_rem p0 0 p1) (p0.length:Int) p2 p2.length).1) && (((v_fgx (q1_Z0 p0) p1 p2).1.2 == (v_fig (v_rem p0 0 p1) (p0.length:Int) p2 p2.length).2) && true)) false)
abbrev q15_Z0 (p0:(List (Int×(Int×(Int×(Int×Int)))))) (p1:(Int×(Int×(Int×(Int×(Int×(Int×(Int×(Int×Int))))))))) (p2:gF) := (((v_fgx (q1_Z0 p0) p1 p2).1.1 == zz0) && (((v_fgx (q1_Z0 p0) p1 p2).1.2 == zz0) && true))
abbrev q16_Z0 (p0:(List (Int×(Int×(Int×(Int×Int)))))) (p1:(Int×(Int×(Int×(Int×(Int×(Int×(Int×(Int×Int))))))))) := (cond (q0_Z0 p0 p1) true (!(decide ((v_rmx (q1_Z0 p0) p1 zz1).1 = (v_rem p0 1 p1)))))
def w_Z0 (p0:(List (Int×(Int×(Int×(Int×Int)))))) (p1:(Int×(Int×(Int×(Int×(Int×(Int×(Int×(Int×Int))))))))) (p2:gF) (K:Bool→Prop):Prop := ((((!(s_Z15))=true) →(K false)) ∧(((!(s_Z15))=false) →((((!(decide ((p0.length:Int)≤22)))=false) →((!(decide ((p0.length:Int)≤22)))=(!(decide ((p0.length:Int)≤22))))) ∧((((!(decide ((p0.length:Int)≤22)))=false) →((!(decide ((p0.length:Int)≤22)))=(!(decide ((p0.length:Int)≤22))))) ∧(((!(decide ((p0.length:Int)≤22)))=(!(decide ((p0.length:Int)≤22)))) ∧((((cond (!(decide ((p0.length:Int)≤22))) true (decide ((p2.length:Int) > 22)))=true) →(K true)) ∧(((cond (!(decide ((p0.length:Int)≤22))) true (decide ((p2.length:Int) > 22)))=false) →(((((List.length ([]:List (Int×(Int×(Int×(Int×Int)))))) + p0.length) * 40)≤140737488355328) ∧(((((List.length ([]:List (Int×(Int×(Int×(Int×Int)))))) + p0.length) * 40)≤140737488355328) ∧(((((List.length ([]:List (Int×(Int×(Int×(Int×Int)))))) + p0.length) * 40)≤140737488355328) ∧((p2.length≤1000000) ∧((lenOk (q1_Z0 p0)) ∧((p2.length≤1000) ∧(((((v_cs p0).2 == zz0)=true) →(((((v_ferr p1) != zz0)=true) →((((q17_Z0 p0 p1)=true) →((q17_Z0 p0 p1)=(q17_Z0 p0 p1))) ∧((((q17_Z0 p0 p1)=true) →((q17_Z0 p0 p1)=(q17_Z0 p0 p1))) ∧(((q17_Z0 p0 p1)=(q17_Z0 p0 p1)) ∧((((q9_Z0 p0 p1)=true) →((q9_Z0 p0 p1)=(q9_Z0 p0 p1))) ∧((((q9_Z0 p0 p1)=true) →((q9_Z0 p0 p1)=(q9_Z0 p0 p1))) ∧(((q9_Z0 p0 p1)=(q9_Z0 p0 p1)) ∧((((q2_Z0 p0 p1 p2)=true) →((q2_Z0 p0 p1 p2)=(q2_Z0 p0 p1 p2))) ∧((((q2_Z0 p0 p1 p2)=true) →((q2_Z0 p0 p1 p2)=(q2_Z0 p0 p1 p2))) ∧((((q2_Z0 p0 p1 p2)=true) →((q2_Z0 p0 p1 p2)=(q2_Z0 p0 p1 p2))) ∧((((q2_Z0 p0 p1 p2)=true) →((q2_Z0 p0 p1 p2)=(q2_Z0 p0 p1 p2))) ∧((((q2_Z0 p0 p1 p2)=true) →((q2_Z0 p0 p1 p2)=(q2_Z0 p0 p1 p2))) ∧(((q2_Z0 p0 p1 p2)=(q2_Z0 p0 p1 p2)) ∧((((cond (q2_Z0 p0 p1 p2) ((wi (q4_Z0 p0 p1)) == zz0) false)=true) →((cond (q2_Z0 p0 p1 p2) ((wi (q4_Z0 p0 p1)) == zz0) false)=(cond (q2_Z0 p0 p1 p2) ((wi (q4_Z0 p0 p1)) == zz0) false))) ∧((((cond (q2_Z0 p0 p1 p2) ((wi (q4_Z0 p0 p1)) == zz0) false)=true) →((cond (q2_Z0 p0 p1 p2) ((wi (q4_Z0 p0 p1)) == zz0) false)=(cond (q2_Z0 p0 p1 p2) ((wi (q4_Z0 p0 p1)) == zz0) false))) ∧(((cond (q2_Z0 p0 p1 p2) ((wi (q4_Z0 p0 p1)) == zz0) false)=(cond (q2_Z0 p0 p1 p2) ((wi (q4_Z0 p0 p1)) == zz0) false)) ∧(K (cond (cond (q2_Z0 p0 p1 p2) ((wi (q4_Z0 p0 p1)) == zz0) false) (q15_Z0 p0 p1 p2) false)))))))))))))))))) ∧((((v_ferr p1) != zz0)=false) →((((q5_Z0 p0 p1)=false) →(q12_Z0 p0 p1)) ∧((((q5_Z0 p0 p1)=false) →(q12_Z0 p0 p1)) ∧((((q5_Z0 p0 p1)=false) →(v_smp p0)) ∧((((q5_Z0 p0 p1)=false) →(v_fok p1)) ∧((((q5_Z0 p0 p1)=false) →(q12_Z0 p0 p1)) ∧((((q5_Z0 p0 p1)=false) →(q12_Z0 p0 p1)) ∧((((q5_Z0 p0 p1)=false) →(lenOk (v_rmx (q1_Z0 p0) p1 zz0).1)) ∧((((q5_Z0 p0 p1)=false) →(q12_Z0 p0 p1)) ∧((q12_Z0 p0 p1) ∧((((q8_Z0 p0 p1)=false) →((q8_Z0 p0 p1)=(q8_Z0 p0 p1))) ∧(((q8_Z0 p0 p1)=(q8_Z0 p0 p1)) ∧((((q0_Z0 p0 p1)=false) →(q13_Z0 p0 p1)) ∧((((q0_Z0 p0 p1)=false) →(q13_Z0 p0 p1)) ∧((((q0_Z0 p0 p1)=false) →(v_smp p0)) ∧((((q0_Z0 p0 p1)=false) →(v_fok p1)) ∧((((q0_Z0 p0 p1)=false) →(q13_Z0 p0 p1)) ∧((((q0_Z0 p0 p1)=false) →(q13_Z0 p0 p1)) ∧((((q0_Z0 p0 p1)=false) →(lenOk (v_rmx (q1_Z0 p0) p1 zz1).1)) ∧((((q0_Z0 p0 p1)=false) →(q13_Z0 p0 p1)) ∧((q13_Z0 p0 p1) ∧((((q16_Z0 p0 p1)=true) →(K false)) ∧(((q16_Z0 p0 p1)=false) →((lenOk p0) ∧((lenOk p2) ∧(((((v_lger (p0.length:Int) p2) != zz0)=true) →((((q7_Z0 p0 p1 p2)=true) →((q7_Z0 p0 p1 p2)=(q7_Z0 p0 p1 p2))) ∧((((q7_Z0 p0 p1 p2)=true) →((q7_Z0 p0 p1 p2)=(q7_Z0 p0 p1 p2))) ∧(((q7_Z0 p0 p1 p2)=(q7_Z0 p0 p1 p2)) ∧(K (cond (q7_Z0 p0 p1 p2) (q15_Z0 p0 p1 p2) false)))))) ∧((((v_lger (p0.length:Int) p2) != zz0)=false) →(((q11_Z0 p0 p1 p2) →(q6_Z0 p0 p1 p2)) ∧(((q11_Z0 p0 p1 p2) →(q6_Z0 p0 p1 p2)) ∧(((q11_Z0 p0 p1 p2) →(q6_Z0 p0 p1 p2)) ∧(((q11_Z0 p0 p1 p2) →(v_smp p0)) ∧(((q11_Z0 p0 p1 p2) →(v_fok p1)) ∧(((q11_Z0 p0 p1 p2) →((v_lgs (p0.length:Int) (-1:Int) p2)=zz0)) ∧(((q11_Z0 p0 p1 p2) →(q6_Z0 p0 p1 p2)) ∧(((q11_Z0 p0 p1 p2) →(q6_Z0 p0 p1 p2)) ∧((q6_Z0 p0 p1 p2) ∧(K (q14_Z0 p0 p1 p2)))))))))))))))))))))))))))))))))))))))) ∧((((v_cs p0).2 == zz0)=false) →(((((v_cs p0).2 != zz0)=true) →((((q18_Z0 p0 p1)=true) →((q18_Z0 p0 p1)=(q18_Z0 p0 p1))) ∧((((q18_Z0 p0 p1)=true) →((q18_Z0 p0 p1)=(q18_Z0 p0 p1))) ∧(((q18_Z0 p0 p1)=(q18_Z0 p0 p1)) ∧((((q10_Z0 p0 p1)=true) →((q10_Z0 p0 p1)=(q10_Z0 p0 p1))) ∧((((q10_Z0 p0 p1)=true) →((q10_Z0 p0 p1)=(q10_Z0 p0 p1))) ∧(((q10_Z0 p0 p1)=(q10_Z0 p0 p1)) ∧((((q3_Z0 p0 p1 p2)=true) →((q3_Z0 p0 p1 p2)=(q3_Z0 p0 p1 p2))) ∧((((q3_Z0 p0 p1 p2)=true) →((q3_Z0 p0 p1 p2)=(q3_Z0 p0 p1 p2))) ∧((((q3_Z0 p0 p1 p2)=true) →((q3_Z0 p0 p1 p2)=(q3_Z0 p0 p1 p2))) ∧((((q3_Z0 p0 p1 p2)=true) →((q3_Z0 p0 p1 p2)=(q3_Z0 p0 p1 p2))) ∧((((q3_Z0 p0 p1 p2)=true) →((q3_Z0 p0 p1 p2)=(q3_Z0 p0 p1 p2))) ∧(((q3_Z0 p0 p1 p2)=(q3_Z0 p0 p1 p2)) ∧((((cond (q3_Z0 p0 p1 p2) ((wi (q4_Z0 p0 p1)) == zz0) false)=true) →((cond (q3_Z0 p0 p1 p2) ((wi (q4_Z0 p0 p1)) == zz0) false)=(cond (q3_Z0 p0 p1 p2) ((wi (q4_Z0 p0 p1)) == zz0) false))) ∧((((cond (q3_Z0 p0 p1 p2) ((wi (q4_Z0 p0 p1)) == zz0) false)=true) →((cond (q3_Z0 p0 p1 p2) ((wi (q4_Z0 p0 p1)) == zz0) false)=(cond (q3_Z0 p0 p1 p2) ((wi (q4_Z0 p0 p1)) == zz0) false))) ∧(((cond (q3_Z0 p0 p1 p2) ((wi (q4_Z0 p0 p1)) == zz0) false)=(cond (q3_Z0 p0 p1 p2) ((wi (q4_Z0 p0 p1)) == zz0) false)) ∧(K (cond (cond (q3_Z0 p0 p1 p2) ((wi (q4_Z0 p0 p1)) == zz0) false) (q15_Z0 p0 p1 p2) false)))))))))))))))))) ∧((((v_cs p0).2 != zz0)=false) →((((q5_Z0 p0 p1)=false) →(q12_Z0 p0 p1)) ∧((((q5_Z0 p0 p1)=false) →(q12_Z0 p0 p1)) ∧((((q5_Z0 p0 p1)=false) →(v_smp p0)) ∧((((q5_Z0 p0 p1)=false) →(v_fok p1)) ∧((((q5_Z0 p0 p1)=false) →(q12_Z0 p0 p1)) ∧((((q5_Z0 p0 p1)=false) →(q12_Z0 p0 p1)) ∧((((q5_Z0 p0 p1)=false) →(lenOk (v_rmx (q1_Z0 p0) p1 zz0).1)) ∧((((q5_Z0 p0 p1)=false) →(q12_Z0 p0 p1)) ∧((q12_Z0 p0 p1) ∧((((q8_Z0 p0 p1)=false) →((q8_Z0 p0 p1)=(q8_Z0 p0 p1))) ∧(((q8_Z0 p0 p1)=(q8_Z0 p0 p1)) ∧((((q0_Z0 p0 p1)=false) →(q13_Z0 p0 p1)) ∧((((q0_Z0 p0 p1)=false) →(q13_Z0 p0 p1)) ∧((((q0_Z0 p0 p1)=false) →(v_smp p0)) ∧((((q0_Z0 p0 p1)=false) →(v_fok p1)) ∧((((q0_Z0 p0 p1)=false) →(q13_Z0 p0 p1)) ∧((((q0_Z0 p0 p1)=false) →(q13_Z0 p0 p1)) ∧((((q0_Z0 p0 p1)=false) →(lenOk (v_rmx (q1_Z0 p0) p1 zz1).1)) ∧((((q0_Z0 p0 p1)=false) →(q13_Z0 p0 p1)) ∧((q13_Z0 p0 p1) ∧((((q16_Z0 p0 p1)=true) →(K false)) ∧(((q16_Z0 p0 p1)=false) →((lenOk p0) ∧((lenOk p2) ∧(((((v_lger (p0.length:Int) p2) != zz0)=true) →((((q7_Z0 p0 p1 p2)=true) →((q7_Z0 p0 p1 p2)=(q7_Z0 p0 p1 p2))) ∧((((q7_Z0 p0 p1 p2)=true) →((q7_Z0 p0 p1 p2)=(q7_Z0 p0 p1 p2))) ∧(((q7_Z0 p0 p1 p2)=(q7_Z0 p0 p1 p2)) ∧(K (cond (q7_Z0 p0 p1 p2) (q15_Z0 p0 p1 p2) false)))))) ∧((((v_lger (p0.length:Int) p2) != zz0)=false) →(((q11_Z0 p0 p1 p2) →(q6_Z0 p0 p1 p2)) ∧(((q11_Z0 p0 p1 p2) →(q6_Z0 p0 p1 p2)) ∧(((q11_Z0 p0 p1 p2) →(q6_Z0 p0 p1 p2)) ∧(((q11_Z0 p0 p1 p2) →(v_smp p0)) ∧(((q11_Z0 p0 p1 p2) →(v_fok p1)) ∧(((q11_Z0 p0 p1 p2) →((v_lgs (p0.length:Int) (-1:Int) p2)=zz0)) ∧(((q11_Z0 p0 p1 p2) →(q6_Z0 p0 p1 p2)) ∧(((q11_Z0 p0 p1 p2) →(q6_Z0 p0 p1 p2)) ∧((q6_Z0 p0 p1 p2) ∧(K (q14_Z0 p0 p1 p2))))))))))))))))))))))))))))))))))))))))))))))))))))))
theorem w_Z0_eq (p0:(List (Int×(Int×(Int×(Int×Int)))))) (p1:(Int×(Int×(Int×(Int×(Int×(Int×(Int×(Int×Int))))))))) (p2:gF) (K:Bool→Prop):tfn F_Z0 A_Z0 C_Z0 P_Z0 R_Z0 (p0,p1,p2) K = w_Z0 p0 p1 p2 K := by kernel_rfl
def s_Z0 (p0:(List (Int×(Int×(Int×(Int×Int)))))) (p1:(Int×(Int×(Int×(Int×(Int×(Int×(Int×(Int×Int))))))))) (p2:gF):Bool := (cond (cond (!(decide ((p0.length:Int)≤22))) true (decide ((p2.length:Int) > 22))) true (cond ((v_cs p0).2 == 0) (cond ((v_ferr p1) != 0) (cond (cond (cond (cond ((v_rmx (([]:List (Int×(Int×(Int×(Int×Int))))) ++ p0) p1 (0:Int)).2 == (v_ferr p1)) ((v_rmx (([]:List (Int×(Int×(Int×(Int×Int))))) ++ p0) p1 (1:Int)).2 == (v_ferr p1)) false) ((v_fgx (([]:List (Int×(Int×(Int×(Int×Int))))) ++ p0) p1 p2).2 == (v_ferr p1)) false) ((IntKind.i64.wrap ((((List.length (v_rmx (([]:List (Int×(Int×(Int×(Int×Int))))) ++ p0) p1 (0:Int)).1):Nat):Int) + (((List.length (v_rmx (([]:List (Int×(Int×(Int×(Int×Int))))) ++ p0) p1 (1:Int)).1):Nat):Int))) == 0) false) (((v_fgx (([]:List (Int×(Int×(Int×(Int×Int))))) ++ p0) p1 p2).1.1 == 0) && (((v_fgx (([]:List (Int×(Int×(Int×(Int×Int))))) ++ p0) p1 p2).1.2 == 0) && true)) false) (cond (cond (cond (cond ((v_rmx (([]:List (Int×(Int×(Int×(Int×Int))))) ++ p0) p1 (0:Int)).2 != 0) true (!(decide ((v_rmx (([]:List (Int×(Int×(Int×(Int×Int))))) ++ p0) p1 (0:Int)).1 = (v_rem p0 0 p1))))) true ((v_rmx (([]:List (Int×(Int×(Int×(Int×Int))))) ++ p0) p1 (1:Int)).2 != 0)) true (!(decide ((v_rmx (([]:List (Int×(Int×(Int×(Int×Int))))) ++ p0) p1 (1:Int)).1 = (v_rem p0 1 p1))))) false (cond ((v_lger (p0.length:Int) p2) != 0) (cond ((v_fgx (([]:List (Int×(Int×(Int×(Int×Int))))) ++ p0) p1 p2).2 == (v_lger (p0.length:Int) p2)) (((v_fgx (([]:List (Int×(Int×(Int×(Int×Int))))) ++ p0) p1 p2).1.1 == 0) && (((v_fgx (([]:List (Int×(Int×(Int×(Int×Int))))) ++ p0) p1 p2).1.2 == 0) && true)) false) (cond ((v_fgx (([]:List (Int×(Int×(Int×(Int×Int))))) ++ p0) p1 p2).2 == 0) (((v_fgx (([]:List (Int×(Int×(Int×(Int×Int))))) ++ p0) p1 p2).1.1 == (v_fig (v_rem p0 0 p1) (p0.length:Int) p2 p2.length).1) && (((v_fgx (([]:List (Int×(Int×(Int×(Int×Int))))) ++ p0) p1 p2).1.2 == (v_fig (v_rem p0 0 p1) (p0.length:Int) p2 p2.length).2) && true)) false)))) (cond ((v_cs p0).2 != 0) (cond (cond (cond (cond ((v_rmx (([]:List (Int×(Int×(Int×(Int×Int))))) ++ p0) p1 (0:Int)).2 == (v_cs p0).2) ((v_rmx (([]:List (Int×(Int×(Int×(Int×Int))))) ++ p0) p1 (1:Int)).2 == (v_cs p0).2) false) ((v_fgx (([]:List (Int×(Int×(Int×(Int×Int))))) ++ p0) p1 p2).2 == (v_cs p0).2) false) ((IntKind.i64.wrap ((((List.length (v_rmx (([]:List (Int×(Int×(Int×(Int×Int))))) ++ p0) p1 (0:Int)).1):Nat):Int) + (((List.length (v_rmx (([]:List (Int×(Int×(Int×(Int×Int))))) ++ p0) p1 (1:Int)).1):Nat):Int))) == 0) false) (((v_fgx (([]:List (Int×(Int×(Int×(Int×Int))))) ++ p0) p1 p2).1.1 == 0) && (((v_fgx (([]:List (Int×(Int×(Int×(Int×Int))))) ++ p0) p1 p2).1.2 == 0) && true)) false) (cond (cond (cond (cond ((v_rmx (([]:List (Int×(Int×(Int×(Int×Int))))) ++ p0) p1 (0:Int)).2 != 0) true (!(decide ((v_rmx (([]:List (Int×(Int×(Int×(Int×Int))))) ++ p0) p1 (0:Int)).1 = (v_rem p0 0 p1))))) true ((v_rmx (([]:List (Int×(Int×(Int×(Int×Int))))) ++ p0) p1 (1:Int)).2 != 0)) true (!(decide ((v_rmx (([]:List (Int×(Int×(Int×(Int×Int))))) ++ p0) p1 (1:Int)).1 = (v_rem p0 1 p1))))) false (cond ((v_lger (p0.length:Int) p2) != 0) (cond ((v_fgx (([]:List (Int×(Int×(Int×(Int×Int))))) ++ p0) p1 p2).2 == (v_lger (p0.length:Int) p2)) (((v_fgx (([]:List (Int×(Int×(Int×(Int×Int))))) ++ p0) p1 p2).1.1 == 0) && (((v_fgx (([]:List (Int×(Int×(Int×(Int×Int))))) ++ p0) p1 p2).1.2 == 0) && true)) false) (cond ((v_fgx (([]:List (Int×(Int×(Int×(Int×Int))))) ++ p0) p1 p2).2 == 0) (((v_fgx (([]:List (Int×(Int×(Int×(Int×Int))))) ++ p0) p1 p2).1.1 == (v_fig (v_rem p0 0 p1) (p0.length:Int) p2 p2.length).1) && (((v_fgx (([]:List (Int×(Int×(Int×(Int×Int))))) ++ p0) p1 p2).1.2 == (v_fig (v_rem p0 0 p1) (p0.length:Int) p2 p2.length).2) && true)) false))))))
abbrev pre_Z0 (p0:(List (Int×(Int×(Int×(Int×Int)))))) (p1:(Int×(Int×(Int×(Int×(Int×(Int×(Int×(Int×Int))))))))) (p2:gF):List Prop := [(((cond (!(decide ((p0.length:Int)≤22))) true (decide ((p2.length:Int) > 22)))=false)→((((List.length ([]:List (Int×(Int×(Int×(Int×Int)))))) + p0.length) * 40)≤140737488355328)),(((cond (!(decide ((p0.length:Int)≤22))) true (decide ((p2.length:Int) > 22)))=false)→(p2.length≤1000000)),(((cond (!(decide ((p0.length:Int)≤22))) true (decide ((p2.length:Int) > 22)))=false)→(lenOk (([]:List (Int×(Int×(Int×(Int×Int))))) ++ p0))),(((cond (!(decide ((p0.length:Int)≤22))) true (decide ((p2.length:Int) > 22)))=false)→(p2.length≤1000)),(((cond (!(decide ((p0.length:Int)≤22))) true (decide ((p2.length:Int) > 22)))=false)→((((v_cs p0).2 == 0)=true)→((((v_ferr p1) != 0)=false)→((((v_rmx (([]:List (Int×(Int×(Int×(Int×Int))))) ++ p0) p1 (0:Int)).2 != 0)=false)→(v_smp p0))))),(((cond (!(decide ((p0.length:Int)≤22))) true (decide ((p2.length:Int) > 22)))=false)→((((v_cs p0).2 == 0)=true)→((((v_ferr p1) != 0)=false)→((((v_rmx (([]:List (Int×(Int×(Int×(Int×Int))))) ++ p0) p1 (0:Int)).2 != 0)=false)→(v_fok p1))))),(((cond (!(decide ((p0.length:Int)≤22))) true (decide ((p2.length:Int) > 22)))=false)→((((v_cs p0).2 == 0)=true)→((((v_ferr p1) != 0)=false)→((((v_rmx (([]:List (Int×(Int×(Int×(Int×Int))))) ++ p0) p1 (0:Int)).2 != 0)=false)→(lenOk (v_rmx (([]:List (Int×(Int×(Int×(Int×Int))))) ++ p0) p1 (0:Int)).1))))),(((cond (!(decide ((p0.length:Int)≤22))) true (decide ((p2.length:Int) > 22)))=false)→((((v_cs p0).2 == 0)=true)→((((v_ferr p1) != 0)=false)→(((cond (cond ((v_rmx (([]:List (Int×(Int×(Int×(Int×Int))))) ++ p0) p1 (0:Int)).2 != 0) true (!(decide ((v_rmx (([]:List (Int×(Int×(Int×(Int×Int))))) ++ p0) p1 (0:Int)).1 = (v_rem p0 0 p1))))) true ((v_rmx (([]:List (Int×(Int×(Int×(Int×Int))))) ++ p0) p1 (1:Int)).2 != 0))=false)→(v_smp p0))))),(((cond (!(decide ((p0.length:Int)≤22))) true (decide ((p2.length:Int) > 22)))=false)→((((v_cs p0).2 == 0)=true)→((((v_ferr p1) != 0)=false)→(((cond (cond ((v_rmx (([]:List (Int×(Int×(Int×(Int×Int))))) ++ p0) p1 (0:Int)).2 != 0) true (!(decide ((v_rmx (([]:List (Int×(Int×(Int×(Int×Int))))) ++ p0) p1 (0:Int)).1 = (v_rem p0 0 p1))))) true ((v_rmx (([]:List (Int×(Int×(Int×(Int×Int))))) ++ p0) p1 (1:Int)).2 != 0))=false)→(v_fok p1))))),(((cond (!(decide ((p0.length:Int)≤22))) true (decide ((p2.length:Int) > 22)))=false)→((((v_cs p0).2 == 0)=true)→((((v_ferr p1) != 0)=false)→(((cond (cond ((v_rmx (([]:List (Int×(Int×(Int×(Int×Int))))) ++ p0) p1 (0:Int)).2 != 0) true (!(decide ((v_rmx (([]:List (Int×(Int×(Int×(Int×Int))))) ++ p0) p1 (0:Int)).1 = (v_rem p0 0 p1))))) true ((v_rmx (([]:List (Int×(Int×(Int×(Int×Int))))) ++ p0) p1 (1:Int)).2 != 0))=false)→(lenOk (v_rmx (([]:List (Int×(Int×(Int×(Int×Int))))) ++ p0) p1 (1:Int)).1))))),(((cond (!(decide ((p0.length:Int)≤22))) true (decide ((p2.length:Int) > 22)))=false)→((((v_cs p0).2 == 0)=true)→((((v_ferr p1) != 0)=false)→(((cond (cond (cond ((v_rmx (([]:List (Int×(Int×(Int×(Int×Int))))) ++ p0) p1 (0:Int)).2 != 0) true (!(decide ((v_rmx (([]:List (Int×(Int×(Int×(Int×Int))))) ++ p0) p1 (0:Int)).1 = (v_rem p0 0 p1))))) true ((v_rmx (([]:List (Int×(Int×(Int×(Int×Int))))) ++ p0) p1 (1:Int)).2 != 0)) true (!(decide ((v_rmx (([]:List (Int×(Int×(Int×(Int×Int))))) ++ p0) p1 (1:Int)).1 = (v_rem p0 1 p1)))))=false)→(lenOk p0))))),(((cond (!(decide ((p0.length:Int)≤22))) true (decide ((p2.length:Int) > 22)))=false)→((((v_cs p0).2 == 0)=true)→((((v_ferr p1) != 0)=false)→(((cond (cond (cond ((v_rmx (([]:List (Int×(Int×(Int×(Int×Int))))) ++ p0) p1 (0:Int)).2 != 0) true (!(decide ((v_rmx (([]:List (Int×(Int×(Int×(Int×Int))))) ++ p0) p1 (0:Int)).1 = (v_rem p0 0 p1))))) true ((v_rmx (([]:List (Int×(Int×(Int×(Int×Int))))) ++ p0) p1 (1:Int)).2 != 0)) true (!(decide ((v_rmx (([]:List (Int×(Int×(Int×(Int×Int))))) ++ p0) p1 (1:Int)).1 = (v_rem p0 1 p1)))))=false)→(lenOk p2))))),(((cond (!(decide ((p0.length:Int)≤22))) true (decide ((p2.length:Int) > 22)))=false)→((((v_cs p0).2 == 0)=true)→((((v_ferr p1) != 0)=false)→(((cond (cond (cond ((v_rmx (([]:List (Int×(Int×(Int×(Int×Int))))) ++ p0) p1 (0:Int)).2 != 0) true (!(decide ((v_rmx (([]:List (Int×(Int×(Int×(Int×Int))))) ++ p0) p1 (0:Int)).1 = (v_rem p0 0 p1))))) true ((v_rmx (([]:List (Int×(Int×(Int×(Int×Int))))) ++ p0) p1 (1:Int)).2 != 0)) true (!(decide ((v_rmx (([]:List (Int×(Int×(Int×(Int×Int))))) ++ p0) p1 (1:Int)).1 = (v_rem p0 1 p1)))))=false)→((((v_lger (p0.length:Int) p2) != 0)=false)→((((v_fgx (([]:List (Int×(Int×(Int×(Int×Int))))) ++ p0) p1 p2).2 == 0)=true)→(v_smp p0))))))),(((cond (!(decide ((p0.length:Int)≤22))) true (decide ((p2.length:Int) > 22)))=false)→((((v_cs p0).2 == 0)=true)→((((v_ferr p1) != 0)=false)→(((cond (cond (cond ((v_rmx (([]:List (Int×(Int×(Int×(Int×Int))))) ++ p0) p1 (0:Int)).2 != 0) true (!(decide ((v_rmx (([]:List (Int×(Int×(Int×(Int×Int))))) ++ p0) p1 (0:Int)).1 = (v_rem p0 0 p1))))) true ((v_rmx (([]:List (Int×(Int×(Int×(Int×Int))))) ++ p0) p1 (1:Int)).2 != 0)) true (!(decide ((v_rmx (([]:List (Int×(Int×(Int×(Int×Int))))) ++ p0) p1 (1:Int)).1 = (v_rem p0 1 p1)))))=false)→((((v_lger (p0.length:Int) p2) != 0)=false)→((((v_fgx (([]:List (Int×(Int×(Int×(Int×Int))))) ++ p0) p1 p2).2 == 0)=true)→(v_fok p1))))))),(((cond (!(decide ((p0.length:Int)≤22))) true (decide ((p2.length:Int) > 22)))=false)→((((v_cs p0).2 == 0)=true)→((((v_ferr p1) != 0)=false)→(((cond (cond (cond ((v_rmx (([]:List (Int×(Int×(Int×(Int×Int))))) ++ p0) p1 (0:Int)).2 != 0) true (!(decide ((v_rmx (([]:List (Int×(Int×(Int×(Int×Int))))) ++ p0) p1 (0:Int)).1 = (v_rem p0 0 p1))))) true ((v_rmx (([]:List (Int×(Int×(Int×(Int×Int))))) ++ p0) p1 (1:Int)).2 != 0)) true (!(decide ((v_rmx (([]:List (Int×(Int×(Int×(Int×Int))))) ++ p0) p1 (1:Int)).1 = (v_rem p0 1 p1)))))=false)→((((v_lger (p0.length:Int) p2) != 0)=false)→((((v_fgx (([]:List (Int×(Int×(Int×(Int×Int))))) ++ p0) p1 p2).2 == 0)=true)→((v_lgs (p0.length:Int) (-1:Int) p2)=(0:Int)))))))),(((cond (!(decide ((p0.length:Int)≤22))) true (decide ((p2.length:Int) > 22)))=false)→((((v_cs p0).2 == 0)=false)→((((v_cs p0).2 != 0)=false)→((((v_rmx (([]:List (Int×(Int×(Int×(Int×Int))))) ++ p0) p1 (0:Int)).2 != 0)=false)→(v_smp p0))))),(((cond (!(decide ((p0.length:Int)≤22))) true (decide ((p2.length:Int) > 22)))=false)→((((v_cs p0).2 == 0)=false)→((((v_cs p0).2 != 0)=false)→((((v_rmx (([]:List (Int×(Int×(Int×(Int×Int))))) ++ p0) p1 (0:Int)).2 != 0)=false)→(v_fok p1))))),(((cond (!(decide ((p0.length:Int)≤22))) true (decide ((p2.length:Int) > 22)))=false)→((((v_cs p0).2 == 0)=false)→((((v_cs p0).2 != 0)=false)→((((v_rmx (([]:List (Int×(Int×(Int×(Int×Int))))) ++ p0) p1 (0:Int)).2 != 0)=false)→(lenOk (v_rmx (([]:List (Int×(Int×(Int×(Int×Int))))) ++ p0) p1 (0:Int)).1))))),(((cond (!(decide ((p0.length:Int)≤22))) true (decide ((p2.length:Int) > 22)))=false)→((((v_cs p0).2 == 0)=false)→((((v_cs p0).2 != 0)=false)→(((cond (cond ((v_rmx (([]:List (Int×(Int×(Int×(Int×Int))))) ++ p0) p1 (0:Int)).2 != 0) true (!(decide ((v_rmx (([]:List (Int×(Int×(Int×(Int×Int))))) ++ p0) p1 (0:Int)).1 = (v_rem p0 0 p1))))) true ((v_rmx (([]:List (Int×(Int×(Int×(Int×Int))))) ++ p0) p1 (1:Int)).2 != 0))=false)→(v_smp p0))))),(((cond (!(decide ((p0.length:Int)≤22))) true (decide ((p2.length:Int) > 22)))=false)→((((v_cs p0).2 == 0)=false)→((((v_cs p0).2 != 0)=false)→(((cond (cond ((v_rmx (([]:List (Int×(Int×(Int×(Int×Int))))) ++ p0) p1 (0:Int)).2 != 0) true (!(decide ((v_rmx (([]:List (Int×(Int×(Int×(Int×Int))))) ++ p0) p1 (0:Int)).1 = (v_rem p0 0 p1))))) true ((v_rmx (([]:List (Int×(Int×(Int×(Int×Int))))) ++ p0) p1 (1:Int)).2 != 0))=false)→(v_fok p1))))),(((cond (!(decide ((p0.length:Int)≤22))) true (decide ((p2.length:Int) > 22)))=false)→((((v_cs p0).2 == 0)=false)→((((v_cs p0).2 != 0)=false)→(((cond (cond ((v_rmx (([]:List (Int×(Int×(Int×(Int×Int))))) ++ p0) p1 (0:Int)).2 != 0) true (!(decide ((v_rmx (([]:List (Int×(Int×(Int×(Int×Int))))) ++ p0) p1 (0:Int)).1 = (v_rem p0 0 p1))))) true ((v_rmx (([]:List (Int×(Int×(Int×(Int×Int))))) ++ p0) p1 (1:Int)).2 != 0))=false)→(lenOk (v_rmx (([]:List (Int×(Int×(Int×(Int×Int))))) ++ p0) p1 (1:Int)).1))))),(((cond (!(decide ((p0.length:Int)≤22))) true (decide ((p2.length:Int) > 22)))=false)→((((v_cs p0).2 == 0)=false)→((((v_cs p0).2 != 0)=false)→(((cond (cond (cond ((v_rmx (([]:List (Int×(Int×(Int×(Int×Int))))) ++ p0) p1 (0:Int)).2 != 0) true (!(decide ((v_rmx (([]:List (Int×(Int×(Int×(Int×Int))))) ++ p0) p1 (0:Int)).1 = (v_rem p0 0 p1))))) true ((v_rmx (([]:List (Int×(Int×(Int×(Int×Int))))) ++ p0) p1 (1:Int)).2 != 0)) true (!(decide ((v_rmx (([]:List (Int×(Int×(Int×(Int×Int))))) ++ p0) p1 (1:Int)).1 = (v_rem p0 1 p1)))))=false)→(lenOk p0))))),(((cond (!(decide ((p0.length:Int)≤22))) true (decide ((p2.length:Int) > 22)))=false)→((((v_cs p0).2 == 0)=false)→((((v_cs p0).2 != 0)=false)→(((cond (cond (cond ((v_rmx (([]:List (Int×(Int×(Int×(Int×Int))))) ++ p0) p1 (0:Int)).2 != 0) true (!(decide ((v_rmx (([]:List (Int×(Int×(Int×(Int×Int))))) ++ p0) p1 (0:Int)).1 = (v_rem p0 0 p1))))) true ((v_rmx (([]:List (Int×(Int×(Int×(Int×Int))))) ++ p0) p1 (1:Int)).2 != 0)) true (!(decide ((v_rmx (([]:List (Int×(Int×(Int×(Int×Int))))) ++ p0) p1 (1:Int)).1 = (v_rem p0 1 p1)))))=false)→(lenOk p2))))),(((cond (!(decide ((p0.length:Int)≤22))) true (decide ((p2.length:Int) > 22)))=false)→((((v_cs p0).2 == 0)=false)→((((v_cs p0).2 != 0)=false)→(((cond (cond (cond ((v_rmx (([]:List (Int×(Int×(Int×(Int×Int))))) ++ p0) p1 (0:Int)).2 != 0) true (!(decide ((v_rmx (([]:List (Int×(Int×(Int×(Int×Int))))) ++ p0) p1 (0:Int)).1 = (v_rem p0 0 p1))))) true ((v_rmx (([]:List (Int×(Int×(Int×(Int×Int))))) ++ p0) p1 (1:Int)).2 != 0)) true (!(decide ((v_rmx (([]:List (Int×(Int×(Int×(Int×Int))))) ++ p0) p1 (1:Int)).1 = (v_rem p0 1 p1)))))=false)→((((v_lger (p0.length:Int) p2) != 0)=false)→((((v_fgx (([]:List (Int×(Int×(Int×(Int×Int))))) ++ p0) p1 p2).2 == 0)=true)→(v_smp p0))))))),(((cond (!(decide ((p0.length:Int)≤22))) true (decide ((p2.length:Int) > 22)))=false)→((((v_cs p0).2 == 0)=false)→((((v_cs p0).2 != 0)=false)→(((cond (cond (cond ((v_rmx (([]:List (Int×(Int×(Int×(Int×Int))))) ++ p0) p1 (0:Int)).2 != 0) true (!(decide ((v_rmx (([]:List (Int×(Int×(Int×(Int×Int))))) ++ p0) p1 (0:Int)).1 = (v_rem p0 0 p1))))) true ((v_rmx (([]:List (Int×(Int×(Int×(Int×Int))))) ++ p0) p1 (1:Int)).2 != 0)) true (!(decide ((v_rmx (([]:List (Int×(Int×(Int×(Int×Int))))) ++ p0) p1 (1:Int)).1 = (v_rem p0 1 p1)))))=false)→((((v_lger (p0.length:Int) p2) != 0)=false)→((((v_fgx (([]:List (Int×(Int×(Int×(Int×Int))))) ++ p0) p1 p2).2 == 0)=true)→(v_fok p1))))))),(((cond (!(decide ((p0.length:Int)≤22))) true (decide ((p2.length:Int) > 22)))=false)→((((v_cs p0).2 == 0)=false)→((((v_cs p0).2 != 0)=false)→(((cond (cond (cond ((v_rmx (([]:List (Int×(Int×(Int×(Int×Int))))) ++ p0) p1 (0:Int)).2 != 0) true (!(decide ((v_rmx (([]:List (Int×(Int×(Int×(Int×Int))))) ++ p0) p1 (0:Int)).1 = (v_rem p0 0 p1))))) true ((v_rmx (([]:List (Int×(Int×(Int×(Int×Int))))) ++ p0) p1 (1:Int)).2 != 0)) true (!(decide ((v_rmx (([]:List (Int×(Int×(Int×(Int×Int))))) ++ p0) p1 (1:Int)).1 = (v_rem p0 1 p1)))))=false)→((((v_lger (p0.length:Int) p2) != 0)=false)→((((v_fgx (([]:List (Int×(Int×(Int×(Int×Int))))) ++ p0) p1 p2).2 == 0)=true)→((v_lgs (p0.length:Int) (-1:Int) p2)=(0:Int))))))))]
theorem d_Z0 (p0:(List (Int×(Int×(Int×(Int×Int)))))) (p1:(Int×(Int×(Int×(Int×(Int×(Int×(Int×(Int×Int))))))))) (p2:gF) (K:Bool→Prop) (hp:∀ p∈pre_Z0 p0 p1 p2,p) (h:K (s_Z0 p0 p1 p2)):w_Z0 p0 p1 p2 K := by
 unfold w_Z0
 unfold s_Z0 at h
 obtain ⟨hp0,hp1,hp2,hp3,hp4,hp5,hp6,hp7,hp8,hp9,hp10,hp11,hp12,hp13,hp14,hp15,hp16,hp17,hp18,hp19,hp20,hp21,hp22,hp23,hp24,hp25,_⟩ := conj_of hp
 exact ⟨nof,fun _ => ⟨rf,rf,rfl,(br' h (fun e0 h => h)
  (fun e0 h => ⟨(hp0 e0),(hp0 e0),(hp0 e0),(hp1 e0),(hp2 e0),(hp3 e0),(br' h (fun e1 h => (br' h (fun e2 h => ⟨rf,rf,rfl,rf,rf,rfl,rf,rf,rf,rf,rf,rfl,rf,rf,rfl,h⟩)
  (fun e2 h => ⟨rf,rf,(hp4 e0 e1 e2),(hp5 e0 e1 e2),rf,rf,(hp6 e0 e1 e2),rf,rfl,rf,rfl,rf,rf,(hp7 e0 e1 e2),(hp8 e0 e1 e2),rf,rf,(hp9 e0 e1 e2),rf,rfl,(br' h (fun e3 h => h)
  (fun e3 h => ⟨(hp10 e0 e1 e2 e3),(hp11 e0 e1 e2 e3),(br' h (fun e4 h => ⟨rf,rf,rfl,h⟩)
  (fun e4 h => ⟨rf,rf,rf,(hp12 e0 e1 e2 e3 e4),(hp13 e0 e1 e2 e3 e4),(hp14 e0 e1 e2 e3 e4),rf,rf,rfl,h⟩))⟩))⟩)))
  (fun e1 h => (br' h (fun e5 h => ⟨rf,rf,rfl,rf,rf,rfl,rf,rf,rf,rf,rf,rfl,rf,rf,rfl,h⟩)
  (fun e5 h => ⟨rf,rf,(hp15 e0 e1 e5),(hp16 e0 e1 e5),rf,rf,(hp17 e0 e1 e5),rf,rfl,rf,rfl,rf,rf,(hp18 e0 e1 e5),(hp19 e0 e1 e5),rf,rf,(hp20 e0 e1 e5),rf,rfl,(br' h (fun e6 h => h)
  (fun e6 h => ⟨(hp21 e0 e1 e5 e6),(hp22 e0 e1 e5 e6),(br' h (fun e7 h => ⟨rf,rf,rfl,h⟩)
  (fun e7 h => ⟨rf,rf,rf,(hp23 e0 e1 e5 e6 e7),(hp24 e0 e1 e5 e6 e7),(hp25 e0 e1 e5 e6 e7),rf,rf,rfl,h⟩))⟩))⟩))))⟩))⟩⟩
abbrev con_Z0:Con := ⟨P_Z0,R_Z0,fun x => pre_Z0 x.1 x.2.1 x.2.2,fun x => s_Z0 x.1 x.2.1 x.2.2⟩
theorem ok_Z0:ConOk Try.prog 12 con_Z0 := okG k_Z0 e_Z0 hC_Z0 fun x hx => tf_of (w_Z0_eq x.1 x.2.1 x.2.2 _) (d_Z0 x.1 x.2.1 x.2.2 _ hx rfl)
end Go.Proofs.Ytdkhhafmidokmaa
