/- What the functions that MagnetInvariant reaches compute: contracts, each function once. No condition. -/
import Derived.Test.YtdkhhafmidokmaaWalkMagnetInvariantA
import Derived.KernelRfl
namespace Go.Proofs.Ytdkhhafmidokmaa
open Go Go.Mx
set_option maxRecDepth 100000
set_option maxHeartbeats 4000000
def C_Z2:Cons := [(116,[],con_Zr)]
theorem hC_Z2:ConsOk Try.prog C_Z2 := cC ok_Zr <| ConsOk.nil
abbrev q0_Z2 (p2:Int) := ((64:Int) - (((v_ln p2.toNat):Nat):Int))
abbrev q1_Z2 (y1:gG) := ((decide (y1.2 ≥ 4294967296))=(decide (y1.2 ≥ 4294967296)))
abbrev q2_Z2 (y4:gG) := ((decide (y4.2 ≥ 4294967296))=(decide (y4.2 ≥ 4294967296)))
abbrev q3_Z2 (y7:gG) := ((decide (y7.2 ≥ 4294967296))=(decide (y7.2 ≥ 4294967296)))
def w_Z2 (p0:Int) (p1:Int) (p2:Int) (K:(Int×Int)→Prop):Prop := ((((p2 == zz0)=true) → False) ∧(((p2 == zz0)=false) →((((decide (p2≤p0))=true) → False) ∧(((decide (p2≤p0))=false) →((((p0 == zz0)=true) →((p2 ≠ zz0) ∧((p2 ≠ zz0) ∧(K ((IntKind.wrap .u64 (Int.tdiv p1 p2)),(Int.tmod p1 p2)))))) ∧(((p0 == zz0)=false) →(((zz0≤p2) ∧(p2 < 18446744073709551616)) ∧((zz0≤(IntKind.wrap .u64 (q0_Z2 p2))) ∧((zz0≤(IntKind.wrap .u64 (q0_Z2 p2))) ∧((zz0≤(IntKind.wrap .u64 ((64:Int) - (IntKind.wrap .u64 (q0_Z2 p2))))) ∧((zz0≤(IntKind.wrap .u64 (q0_Z2 p2))) ∧(((v_shr .u64 (v_shl .u64 p2 (IntKind.wrap .u64 (q0_Z2 p2))) (32:Int)) ≠ zz0) ∧(∃ n0,(loopP (fun (y1:gG) k2 => ((((decide (y1.2 ≥ 4294967296))=false) →(q1_Z2 y1)) ∧((((decide (y1.2 ≥ 4294967296))=false) →(q1_Z2 y1)) ∧((((decide (y1.2 ≥ 4294967296))=false) →(q1_Z2 y1)) ∧((((decide (y1.2 ≥ 4294967296))=false) →(q1_Z2 y1)) ∧((((decide (y1.2 ≥ 4294967296))=false) →(q1_Z2 y1)) ∧((((decide (y1.2 ≥ 4294967296))=false) →(q1_Z2 y1)) ∧((((decide (y1.2 ≥ 4294967296))=false) →(q1_Z2 y1)) ∧((q1_Z2 y1) ∧((((cond (decide (y1.2 ≥ 4294967296)) true (decide ((IntKind.wrap .u64 (y1.2 * (v_and .u64 (v_shl .u64 p2 (IntKind.wrap .u64 (q0_Z2 p2))) (4294967295:Int)))) > (IntKind.wrap .u64 ((IntKind.wrap .u64 ((4294967296:Int) * y1.1)) + (v_shr .u64 (v_shl .u64 p1 (IntKind.wrap .u64 (q0_Z2 p2))) (32:Int)))))))=true) →((((decide ((IntKind.wrap .u64 (y1.1 + (v_shr .u64 (v_shl .u64 p2 (IntKind.wrap .u64 (q0_Z2 p2))) (32:Int)))) ≥ 4294967296))=true) →(((v_shr .u64 (v_shl .u64 p2 (IntKind.wrap .u64 (q0_Z2 p2))) (32:Int)) ≠ zz0) ∧(∃ n3,(loopP (fun (y4:gG) k5 => ((((decide (y4.2 ≥ 4294967296))=false) →(q2_Z2 y4)) ∧((((decide (y4.2 ≥ 4294967296))=false) →(q2_Z2 y4)) ∧((((decide (y4.2 ≥ 4294967296))=false) →(q2_Z2 y4)) ∧((((decide (y4.2 ≥ 4294967296))=false) →(q2_Z2 y4)) ∧((((decide (y4.2 ≥ 4294967296))=false) →(q2_Z2 y4)) ∧((((decide (y4.2 ≥ 4294967296))=false) →(q2_Z2 y4)) ∧((((decide (y4.2 ≥ 4294967296))=false) →(q2_Z2 y4)) ∧((q2_Z2 y4) ∧((((cond (decide (y4.2 ≥ 4294967296)) true (decide ((IntKind.wrap .u64 (y4.2 * (v_and .u64 (v_shl .u64 p2 (IntKind.wrap .u64 (q0_Z2 p2))) (4294967295:Int)))) > (IntKind.wrap .u64 ((IntKind.wrap .u64 ((4294967296:Int) * y4.1)) + (v_and .u64 (v_shl .u64 p1 (IntKind.wrap .u64 (q0_Z2 p2))) (4294967295:Int)))))))=true) →((((decide ((IntKind.wrap .u64 (y4.1 + (v_shr .u64 (v_shl .u64 p2 (IntKind.wrap .u64 (q0_Z2 p2))) (32:Int)))) ≥ 4294967296))=true) →((zz0≤(IntKind.wrap .u64 (q0_Z2 p2))) ∧(K ((IntKind.wrap .u64 ((IntKind.wrap .u64 ((IntKind.wrap .u64 (y1.2 - zz1)) * 4294967296)) + (IntKind.wrap .u64 (y4.2 - zz1)))),(v_shr .u64 (IntKind.wrap .u64 ((IntKind.wrap .u64 ((IntKind.wrap .u64 ((IntKind.wrap .u64 ((IntKind.wrap .u64 ((IntKind.wrap .u64 ((v_or .u64 (v_shl .u64 p0 (IntKind.wrap .u64 (q0_Z2 p2))) (v_shr .u64 p1 (IntKind.wrap .u64 ((64:Int) - (IntKind.wrap .u64 (q0_Z2 p2)))))) * 4294967296)) + (v_shr .u64 (v_shl .u64 p1 (IntKind.wrap .u64 (q0_Z2 p2))) (32:Int)))) - (IntKind.wrap .u64 ((IntKind.wrap .u64 (y1.2 - zz1)) * (v_shl .u64 p2 (IntKind.wrap .u64 (q0_Z2 p2))))))) * 4294967296)) + (v_and .u64 (v_shl .u64 p1 (IntKind.wrap .u64 (q0_Z2 p2))) (4294967295:Int)))) - (IntKind.wrap .u64 ((IntKind.wrap .u64 (y4.2 - zz1)) * (v_shl .u64 p2 (IntKind.wrap .u64 (q0_Z2 p2))))))) (IntKind.wrap .u64 (q0_Z2 p2))))))) ∧(((decide ((IntKind.wrap .u64 (y4.1 + (v_shr .u64 (v_shl .u64 p2 (IntKind.wrap .u64 (q0_Z2 p2))) (32:Int)))) ≥ 4294967296))=false) →(k5 ((IntKind.wrap .u64 (y4.1 + (v_shr .u64 (v_shl .u64 p2 (IntKind.wrap .u64 (q0_Z2 p2))) (32:Int)))),(IntKind.wrap .u64 (y4.2 - zz1))))))) ∧(((cond (decide (y4.2 ≥ 4294967296)) true (decide ((IntKind.wrap .u64 (y4.2 * (v_and .u64 (v_shl .u64 p2 (IntKind.wrap .u64 (q0_Z2 p2))) (4294967295:Int)))) > (IntKind.wrap .u64 ((IntKind.wrap .u64 ((4294967296:Int) * y4.1)) + (v_and .u64 (v_shl .u64 p1 (IntKind.wrap .u64 (q0_Z2 p2))) (4294967295:Int)))))))=false) →((zz0≤(IntKind.wrap .u64 (q0_Z2 p2))) ∧(K ((IntKind.wrap .u64 ((IntKind.wrap .u64 ((IntKind.wrap .u64 (y1.2 - zz1)) * 4294967296)) + y4.2)),(v_shr .u64 (IntKind.wrap .u64 ((IntKind.wrap .u64 ((IntKind.wrap .u64 ((IntKind.wrap .u64 ((IntKind.wrap .u64 ((IntKind.wrap .u64 ((v_or .u64 (v_shl .u64 p0 (IntKind.wrap .u64 (q0_Z2 p2))) (v_shr .u64 p1 (IntKind.wrap .u64 ((64:Int) - (IntKind.wrap .u64 (q0_Z2 p2)))))) * 4294967296)) + (v_shr .u64 (v_shl .u64 p1 (IntKind.wrap .u64 (q0_Z2 p2))) (32:Int)))) - (IntKind.wrap .u64 ((IntKind.wrap .u64 (y1.2 - zz1)) * (v_shl .u64 p2 (IntKind.wrap .u64 (q0_Z2 p2))))))) * 4294967296)) + (v_and .u64 (v_shl .u64 p1 (IntKind.wrap .u64 (q0_Z2 p2))) (4294967295:Int)))) - (IntKind.wrap .u64 (y4.2 * (v_shl .u64 p2 (IntKind.wrap .u64 (q0_Z2 p2))))))) (IntKind.wrap .u64 (q0_Z2 p2))))))))))))))))) n3 ((IntKind.wrap .u64 ((IntKind.wrap .u64 ((IntKind.wrap .u64 ((IntKind.wrap .u64 ((v_or .u64 (v_shl .u64 p0 (IntKind.wrap .u64 (q0_Z2 p2))) (v_shr .u64 p1 (IntKind.wrap .u64 ((64:Int) - (IntKind.wrap .u64 (q0_Z2 p2)))))) * 4294967296)) + (v_shr .u64 (v_shl .u64 p1 (IntKind.wrap .u64 (q0_Z2 p2))) (32:Int)))) - (IntKind.wrap .u64 ((IntKind.wrap .u64 (y1.2 - zz1)) * (v_shl .u64 p2 (IntKind.wrap .u64 (q0_Z2 p2))))))) - (IntKind.wrap .u64 ((IntKind.wrap .u64 (Int.tdiv (IntKind.wrap .u64 ((IntKind.wrap .u64 ((IntKind.wrap .u64 ((v_or .u64 (v_shl .u64 p0 (IntKind.wrap .u64 (q0_Z2 p2))) (v_shr .u64 p1 (IntKind.wrap .u64 ((64:Int) - (IntKind.wrap .u64 (q0_Z2 p2)))))) * 4294967296)) + (v_shr .u64 (v_shl .u64 p1 (IntKind.wrap .u64 (q0_Z2 p2))) (32:Int)))) - (IntKind.wrap .u64 ((IntKind.wrap .u64 (y1.2 - zz1)) * (v_shl .u64 p2 (IntKind.wrap .u64 (q0_Z2 p2))))))) (v_shr .u64 (v_shl .u64 p2 (IntKind.wrap .u64 (q0_Z2 p2))) (32:Int)))) * (v_shr .u64 (v_shl .u64 p2 (IntKind.wrap .u64 (q0_Z2 p2))) (32:Int)))))),(IntKind.wrap .u64 (Int.tdiv (IntKind.wrap .u64 ((IntKind.wrap .u64 ((IntKind.wrap .u64 ((v_or .u64 (v_shl .u64 p0 (IntKind.wrap .u64 (q0_Z2 p2))) (v_shr .u64 p1 (IntKind.wrap .u64 ((64:Int) - (IntKind.wrap .u64 (q0_Z2 p2)))))) * 4294967296)) + (v_shr .u64 (v_shl .u64 p1 (IntKind.wrap .u64 (q0_Z2 p2))) (32:Int)))) - (IntKind.wrap .u64 ((IntKind.wrap .u64 (y1.2 - zz1)) * (v_shl .u64 p2 (IntKind.wrap .u64 (q0_Z2 p2))))))) (v_shr .u64 (v_shl .u64 p2 (IntKind.wrap .u64 (q0_Z2 p2))) (32:Int))))))))) ∧(((decide ((IntKind.wrap .u64 (y1.1 + (v_shr .u64 (v_shl .u64 p2 (IntKind.wrap .u64 (q0_Z2 p2))) (32:Int)))) ≥ 4294967296))=false) →(k2 ((IntKind.wrap .u64 (y1.1 + (v_shr .u64 (v_shl .u64 p2 (IntKind.wrap .u64 (q0_Z2 p2))) (32:Int)))),(IntKind.wrap .u64 (y1.2 - zz1))))))) ∧(((cond (decide (y1.2 ≥ 4294967296)) true (decide ((IntKind.wrap .u64 (y1.2 * (v_and .u64 (v_shl .u64 p2 (IntKind.wrap .u64 (q0_Z2 p2))) (4294967295:Int)))) > (IntKind.wrap .u64 ((IntKind.wrap .u64 ((4294967296:Int) * y1.1)) + (v_shr .u64 (v_shl .u64 p1 (IntKind.wrap .u64 (q0_Z2 p2))) (32:Int)))))))=false) →(((v_shr .u64 (v_shl .u64 p2 (IntKind.wrap .u64 (q0_Z2 p2))) (32:Int)) ≠ zz0) ∧(∃ n6,(loopP (fun (y7:gG) k8 => ((((decide (y7.2 ≥ 4294967296))=false) →(q3_Z2 y7)) ∧((((decide (y7.2 ≥ 4294967296))=false) →(q3_Z2 y7)) ∧((((decide (y7.2 ≥ 4294967296))=false) →(q3_Z2 y7)) ∧((((decide (y7.2 ≥ 4294967296))=false) →(q3_Z2 y7)) ∧((((decide (y7.2 ≥ 4294967296))=false) →(q3_Z2 y7)) ∧((((decide (y7.2 ≥ 4294967296))=false) →(q3_Z2 y7)) ∧((((decide (y7.2 ≥ 4294967296))=false) →(q3_Z2 y7)) ∧((q3_Z2 y7) ∧((((cond (decide (y7.2 ≥ 4294967296)) true (decide ((IntKind.wrap .u64 (y7.2 * (v_and .u64 (v_shl .u64 p2 (IntKind.wrap .u64 (q0_Z2 p2))) (4294967295:Int)))) > (IntKind.wrap .u64 ((IntKind.wrap .u64 ((4294967296:Int) * y7.1)) + (v_and .u64 (v_shl .u64 p1 (IntKind.wrap .u64 (q0_Z2 p2))) (4294967295:Int)))))))=true) →((((decide ((IntKind.wrap .u64 (y7.1 + (v_shr .u64 (v_shl .u64 p2 (IntKind.wrap .u64 (q0_Z2 p2))) (32:Int)))) ≥ 4294967296))=true) →((zz0≤(IntKind.wrap .u64 (q0_Z2 p2))) ∧(K ((IntKind.wrap .u64 ((IntKind.wrap .u64 (y1.2 * 4294967296)) + (IntKind.wrap .u64 (y7.2 - zz1)))),(v_shr .u64 (IntKind.wrap .u64 ((IntKind.wrap .u64 ((IntKind.wrap .u64 ((IntKind.wrap .u64 ((IntKind.wrap .u64 ((IntKind.wrap .u64 ((v_or .u64 (v_shl .u64 p0 (IntKind.wrap .u64 (q0_Z2 p2))) (v_shr .u64 p1 (IntKind.wrap .u64 ((64:Int) - (IntKind.wrap .u64 (q0_Z2 p2)))))) * 4294967296)) + (v_shr .u64 (v_shl .u64 p1 (IntKind.wrap .u64 (q0_Z2 p2))) (32:Int)))) - (IntKind.wrap .u64 (y1.2 * (v_shl .u64 p2 (IntKind.wrap .u64 (q0_Z2 p2))))))) * 4294967296)) + (v_and .u64 (v_shl .u64 p1 (IntKind.wrap .u64 (q0_Z2 p2))) (4294967295:Int)))) - (IntKind.wrap .u64 ((IntKind.wrap .u64 (y7.2 - zz1)) * (v_shl .u64 p2 (IntKind.wrap .u64 (q0_Z2 p2))))))) (IntKind.wrap .u64 (q0_Z2 p2))))))) ∧(((decide ((IntKind.wrap .u64 (y7.1 + (v_shr .u64 (v_shl .u64 p2 (IntKind.wrap .u64 (q0_Z2 p2))) (32:Int)))) ≥ 4294967296))=false) →(k8 ((IntKind.wrap .u64 (y7.1 + (v_shr .u64 (v_shl .u64 p2 (IntKind.wrap .u64 (q0_Z2 p2))) (32:Int)))),(IntKind.wrap .u64 (y7.2 - zz1))))))) ∧(((cond (decide (y7.2 ≥ 4294967296)) true (decide ((IntKind.wrap .u64 (y7.2 * (v_and .u64 (v_shl .u64 p2 (IntKind.wrap .u64 (q0_Z2 p2))) (4294967295:Int)))) > (IntKind.wrap .u64 ((IntKind.wrap .u64 ((4294967296:Int) * y7.1)) + (v_and .u64 (v_shl .u64 p1 (IntKind.wrap .u64 (q0_Z2 p2))) (4294967295:Int)))))))=false) →((zz0≤(IntKind.wrap .u64 (q0_Z2 p2))) ∧(K ((IntKind.wrap .u64 ((IntKind.wrap .u64 (y1.2 * 4294967296)) + y7.2)),(v_shr .u64 (IntKind.wrap .u64 ((IntKind.wrap .u64 ((IntKind.wrap .u64 ((IntKind.wrap .u64 ((IntKind.wrap .u64 ((IntKind.wrap .u64 ((v_or .u64 (v_shl .u64 p0 (IntKind.wrap .u64 (q0_Z2 p2))) (v_shr .u64 p1 (IntKind.wrap .u64 ((64:Int) - (IntKind.wrap .u64 (q0_Z2 p2)))))) * 4294967296)) + (v_shr .u64 (v_shl .u64 p1 (IntKind.wrap .u64 (q0_Z2 p2))) (32:Int)))) - (IntKind.wrap .u64 (y1.2 * (v_shl .u64 p2 (IntKind.wrap .u64 (q0_Z2 p2))))))) * 4294967296)) + (v_and .u64 (v_shl .u64 p1 (IntKind.wrap .u64 (q0_Z2 p2))) (4294967295:Int)))) - (IntKind.wrap .u64 (y7.2 * (v_shl .u64 p2 (IntKind.wrap .u64 (q0_Z2 p2))))))) (IntKind.wrap .u64 (q0_Z2 p2))))))))))))))))) n6 ((IntKind.wrap .u64 ((IntKind.wrap .u64 ((IntKind.wrap .u64 ((IntKind.wrap .u64 ((v_or .u64 (v_shl .u64 p0 (IntKind.wrap .u64 (q0_Z2 p2))) (v_shr .u64 p1 (IntKind.wrap .u64 ((64:Int) - (IntKind.wrap .u64 (q0_Z2 p2)))))) * 4294967296)) + (v_shr .u64 (v_shl .u64 p1 (IntKind.wrap .u64 (q0_Z2 p2))) (32:Int)))) - (IntKind.wrap .u64 (y1.2 * (v_shl .u64 p2 (IntKind.wrap .u64 (q0_Z2 p2))))))) - (IntKind.wrap .u64 ((IntKind.wrap .u64 (Int.tdiv (IntKind.wrap .u64 ((IntKind.wrap .u64 ((IntKind.wrap .u64 ((v_or .u64 (v_shl .u64 p0 (IntKind.wrap .u64 (q0_Z2 p2))) (v_shr .u64 p1 (IntKind.wrap .u64 ((64:Int) - (IntKind.wrap .u64 (q0_Z2 p2)))))) * 4294967296)) + (v_shr .u64 (v_shl .u64 p1 (IntKind.wrap .u64 (q0_Z2 p2))) (32:Int)))) - (IntKind.wrap .u64 (y1.2 * (v_shl .u64 p2 (IntKind.wrap .u64 (q0_Z2 p2))))))) (v_shr .u64 (v_shl .u64 p2 (IntKind.wrap .u64 (q0_Z2 p2))) (32:Int)))) * (v_shr .u64 (v_shl .u64 p2 (IntKind.wrap .u64 (q0_Z2 p2))) (32:Int)))))),(IntKind.wrap .u64 (Int.tdiv (IntKind.wrap .u64 ((IntKind.wrap .u64 ((IntKind.wrap .u64 ((v_or .u64 (v_shl .u64 p0 (IntKind.wrap .u64 (q0_Z2 p2))) (v_shr .u64 p1 (IntKind.wrap .u64 ((64:Int) - (IntKind.wrap .u64 (q0_Z2 p2)))))) * 4294967296)) + (v_shr .u64 (v_shl .u64 p1 (IntKind.wrap .u64 (q0_Z2 p2))) (32:Int)))) - (IntKind.wrap .u64 (y1.2 * (v_shl .u64 p2 (IntKind.wrap .u64 (q0_Z2 p2))))))) (v_shr .u64 (v_shl .u64 p2 (IntKind.wrap .u64 (q0_Z2 p2))) (32:Int))))))))))))))))))) n0 ((IntKind.wrap .u64 ((v_or .u64 (v_shl .u64 p0 (IntKind.wrap .u64 (q0_Z2 p2))) (v_shr .u64 p1 (IntKind.wrap .u64 ((64:Int) - (IntKind.wrap .u64 (q0_Z2 p2)))))) - (IntKind.wrap .u64 ((IntKind.wrap .u64 (Int.tdiv (v_or .u64 (v_shl .u64 p0 (IntKind.wrap .u64 (q0_Z2 p2))) (v_shr .u64 p1 (IntKind.wrap .u64 ((64:Int) - (IntKind.wrap .u64 (q0_Z2 p2)))))) (v_shr .u64 (v_shl .u64 p2 (IntKind.wrap .u64 (q0_Z2 p2))) (32:Int)))) * (v_shr .u64 (v_shl .u64 p2 (IntKind.wrap .u64 (q0_Z2 p2))) (32:Int)))))),(IntKind.wrap .u64 (Int.tdiv (v_or .u64 (v_shl .u64 p0 (IntKind.wrap .u64 (q0_Z2 p2))) (v_shr .u64 p1 (IntKind.wrap .u64 ((64:Int) - (IntKind.wrap .u64 (q0_Z2 p2)))))) (v_shr .u64 (v_shl .u64 p2 (IntKind.wrap .u64 (q0_Z2 p2))) (32:Int)))))))))))))))))))
theorem w_Z2_eq (p0:Int) (p1:Int) (p2:Int) (K:(Int×Int)→Prop):tfn F_Z2 A_Z2 C_Z2 P_Z2 R_Z2 (p0,p1,p2) K = w_Z2 p0 p1 p2 K := by kernel_rfl
def st_Z2_0 (p0:Int) (p1:Int) (p2:Int) (y3:gG) (y6:gG):(Int×Int) ⊕ ((Int×Int) ⊕ (Int×Int)) := (cond (cond (decide (y6.2 ≥ 4294967296)) true (decide ((IntKind.wrap .u64 (y6.2 * (v_and .u64 (v_shl .u64 p2 (IntKind.wrap .u64 ((64:Int) - (((v_ln p2.toNat):Nat):Int)))) (4294967295:Int)))) > (IntKind.wrap .u64 ((IntKind.wrap .u64 ((4294967296:Int) * y6.1)) + (v_and .u64 (v_shl .u64 p1 (IntKind.wrap .u64 ((64:Int) - (((v_ln p2.toNat):Nat):Int)))) (4294967295:Int))))))) (cond (decide ((IntKind.wrap .u64 (y6.1 + (v_shr .u64 (v_shl .u64 p2 (IntKind.wrap .u64 ((64:Int) - (((v_ln p2.toNat):Nat):Int)))) (32:Int)))) ≥ 4294967296)) (Sum.inr (Sum.inr ((IntKind.wrap .u64 ((IntKind.wrap .u64 ((IntKind.wrap .u64 (y3.2 - 1)) * 4294967296)) + (IntKind.wrap .u64 (y6.2 - 1)))),(v_shr .u64 (IntKind.wrap .u64 ((IntKind.wrap .u64 ((IntKind.wrap .u64 ((IntKind.wrap .u64 ((IntKind.wrap .u64 ((IntKind.wrap .u64 ((v_or .u64 (v_shl .u64 p0 (IntKind.wrap .u64 ((64:Int) - (((v_ln p2.toNat):Nat):Int)))) (v_shr .u64 p1 (IntKind.wrap .u64 ((64:Int) - (IntKind.wrap .u64 ((64:Int) - (((v_ln p2.toNat):Nat):Int))))))) * 4294967296)) + (v_shr .u64 (v_shl .u64 p1 (IntKind.wrap .u64 ((64:Int) - (((v_ln p2.toNat):Nat):Int)))) (32:Int)))) - (IntKind.wrap .u64 ((IntKind.wrap .u64 (y3.2 - 1)) * (v_shl .u64 p2 (IntKind.wrap .u64 ((64:Int) - (((v_ln p2.toNat):Nat):Int)))))))) * 4294967296)) + (v_and .u64 (v_shl .u64 p1 (IntKind.wrap .u64 ((64:Int) - (((v_ln p2.toNat):Nat):Int)))) (4294967295:Int)))) - (IntKind.wrap .u64 ((IntKind.wrap .u64 (y6.2 - 1)) * (v_shl .u64 p2 (IntKind.wrap .u64 ((64:Int) - (((v_ln p2.toNat):Nat):Int)))))))) (IntKind.wrap .u64 ((64:Int) - (((v_ln p2.toNat):Nat):Int))))))) (Sum.inl ((IntKind.wrap .u64 (y6.1 + (v_shr .u64 (v_shl .u64 p2 (IntKind.wrap .u64 ((64:Int) - (((v_ln p2.toNat):Nat):Int)))) (32:Int)))),(IntKind.wrap .u64 (y6.2 - 1))))) (Sum.inr (Sum.inr ((IntKind.wrap .u64 ((IntKind.wrap .u64 ((IntKind.wrap .u64 (y3.2 - 1)) * 4294967296)) + y6.2)),(v_shr .u64 (IntKind.wrap .u64 ((IntKind.wrap .u64 ((IntKind.wrap .u64 ((IntKind.wrap .u64 ((IntKind.wrap .u64 ((IntKind.wrap .u64 ((v_or .u64 (v_shl .u64 p0 (IntKind.wrap .u64 ((64:Int) - (((v_ln p2.toNat):Nat):Int)))) (v_shr .u64 p1 (IntKind.wrap .u64 ((64:Int) - (IntKind.wrap .u64 ((64:Int) - (((v_ln p2.toNat):Nat):Int))))))) * 4294967296)) + (v_shr .u64 (v_shl .u64 p1 (IntKind.wrap .u64 ((64:Int) - (((v_ln p2.toNat):Nat):Int)))) (32:Int)))) - (IntKind.wrap .u64 ((IntKind.wrap .u64 (y3.2 - 1)) * (v_shl .u64 p2 (IntKind.wrap .u64 ((64:Int) - (((v_ln p2.toNat):Nat):Int)))))))) * 4294967296)) + (v_and .u64 (v_shl .u64 p1 (IntKind.wrap .u64 ((64:Int) - (((v_ln p2.toNat):Nat):Int)))) (4294967295:Int)))) - (IntKind.wrap .u64 (y6.2 * (v_shl .u64 p2 (IntKind.wrap .u64 ((64:Int) - (((v_ln p2.toNat):Nat):Int)))))))) (IntKind.wrap .u64 ((64:Int) - (((v_ln p2.toNat):Nat):Int))))))))
abbrev sp_Z2_0 (_p0:Int) (p1:Int) (p2:Int) (_y3:gG) (y6:gG):List Prop := [(((cond (decide (y6.2 ≥ 4294967296)) true (decide ((IntKind.wrap .u64 (y6.2 * (v_and .u64 (v_shl .u64 p2 (IntKind.wrap .u64 ((64:Int) - (((v_ln p2.toNat):Nat):Int)))) (4294967295:Int)))) > (IntKind.wrap .u64 ((IntKind.wrap .u64 ((4294967296:Int) * y6.1)) + (v_and .u64 (v_shl .u64 p1 (IntKind.wrap .u64 ((64:Int) - (((v_ln p2.toNat):Nat):Int)))) (4294967295:Int)))))))=true)→(((decide ((IntKind.wrap .u64 (y6.1 + (v_shr .u64 (v_shl .u64 p2 (IntKind.wrap .u64 ((64:Int) - (((v_ln p2.toNat):Nat):Int)))) (32:Int)))) ≥ 4294967296))=true)→((0:Int)≤(IntKind.wrap .u64 ((64:Int) - (((v_ln p2.toNat):Nat):Int)))))),(((cond (decide (y6.2 ≥ 4294967296)) true (decide ((IntKind.wrap .u64 (y6.2 * (v_and .u64 (v_shl .u64 p2 (IntKind.wrap .u64 ((64:Int) - (((v_ln p2.toNat):Nat):Int)))) (4294967295:Int)))) > (IntKind.wrap .u64 ((IntKind.wrap .u64 ((4294967296:Int) * y6.1)) + (v_and .u64 (v_shl .u64 p1 (IntKind.wrap .u64 ((64:Int) - (((v_ln p2.toNat):Nat):Int)))) (4294967295:Int)))))))=false)→((0:Int)≤(IntKind.wrap .u64 ((64:Int) - (((v_ln p2.toNat):Nat):Int)))))]
def st_Z2_1 (p0:Int) (p1:Int) (p2:Int) (y3:gG) (y9:gG):(Int×Int) ⊕ ((Int×Int) ⊕ (Int×Int)) := (cond (cond (decide (y9.2 ≥ 4294967296)) true (decide ((IntKind.wrap .u64 (y9.2 * (v_and .u64 (v_shl .u64 p2 (IntKind.wrap .u64 ((64:Int) - (((v_ln p2.toNat):Nat):Int)))) (4294967295:Int)))) > (IntKind.wrap .u64 ((IntKind.wrap .u64 ((4294967296:Int) * y9.1)) + (v_and .u64 (v_shl .u64 p1 (IntKind.wrap .u64 ((64:Int) - (((v_ln p2.toNat):Nat):Int)))) (4294967295:Int))))))) (cond (decide ((IntKind.wrap .u64 (y9.1 + (v_shr .u64 (v_shl .u64 p2 (IntKind.wrap .u64 ((64:Int) - (((v_ln p2.toNat):Nat):Int)))) (32:Int)))) ≥ 4294967296)) (Sum.inr (Sum.inr ((IntKind.wrap .u64 ((IntKind.wrap .u64 (y3.2 * 4294967296)) + (IntKind.wrap .u64 (y9.2 - 1)))),(v_shr .u64 (IntKind.wrap .u64 ((IntKind.wrap .u64 ((IntKind.wrap .u64 ((IntKind.wrap .u64 ((IntKind.wrap .u64 ((IntKind.wrap .u64 ((v_or .u64 (v_shl .u64 p0 (IntKind.wrap .u64 ((64:Int) - (((v_ln p2.toNat):Nat):Int)))) (v_shr .u64 p1 (IntKind.wrap .u64 ((64:Int) - (IntKind.wrap .u64 ((64:Int) - (((v_ln p2.toNat):Nat):Int))))))) * 4294967296)) + (v_shr .u64 (v_shl .u64 p1 (IntKind.wrap .u64 ((64:Int) - (((v_ln p2.toNat):Nat):Int)))) (32:Int)))) - (IntKind.wrap .u64 (y3.2 * (v_shl .u64 p2 (IntKind.wrap .u64 ((64:Int) - (((v_ln p2.toNat):Nat):Int)))))))) * 4294967296)) + (v_and .u64 (v_shl .u64 p1 (IntKind.wrap .u64 ((64:Int) - (((v_ln p2.toNat):Nat):Int)))) (4294967295:Int)))) - (IntKind.wrap .u64 ((IntKind.wrap .u64 (y9.2 - 1)) * (v_shl .u64 p2 (IntKind.wrap .u64 ((64:Int) - (((v_ln p2.toNat):Nat):Int)))))))) (IntKind.wrap .u64 ((64:Int) - (((v_ln p2.toNat):Nat):Int))))))) (Sum.inl ((IntKind.wrap .u64 (y9.1 + (v_shr .u64 (v_shl .u64 p2 (IntKind.wrap .u64 ((64:Int) - (((v_ln p2.toNat):Nat):Int)))) (32:Int)))),(IntKind.wrap .u64 (y9.2 - 1))))) (Sum.inr (Sum.inr ((IntKind.wrap .u64 ((IntKind.wrap .u64 (y3.2 * 4294967296)) + y9.2)),(v_shr .u64 (IntKind.wrap .u64 ((IntKind.wrap .u64 ((IntKind.wrap .u64 ((IntKind.wrap .u64 ((IntKind.wrap .u64 ((IntKind.wrap .u64 ((v_or .u64 (v_shl .u64 p0 (IntKind.wrap .u64 ((64:Int) - (((v_ln p2.toNat):Nat):Int)))) (v_shr .u64 p1 (IntKind.wrap .u64 ((64:Int) - (IntKind.wrap .u64 ((64:Int) - (((v_ln p2.toNat):Nat):Int))))))) * 4294967296)) + (v_shr .u64 (v_shl .u64 p1 (IntKind.wrap .u64 ((64:Int) - (((v_ln p2.toNat):Nat):Int)))) (32:Int)))) - (IntKind.wrap .u64 (y3.2 * (v_shl .u64 p2 (IntKind.wrap .u64 ((64:Int) - (((v_ln p2.toNat):Nat):Int)))))))) * 4294967296)) + (v_and .u64 (v_shl .u64 p1 (IntKind.wrap .u64 ((64:Int) - (((v_ln p2.toNat):Nat):Int)))) (4294967295:Int)))) - (IntKind.wrap .u64 (y9.2 * (v_shl .u64 p2 (IntKind.wrap .u64 ((64:Int) - (((v_ln p2.toNat):Nat):Int)))))))) (IntKind.wrap .u64 ((64:Int) - (((v_ln p2.toNat):Nat):Int))))))))
abbrev sp_Z2_1 (_p0:Int) (p1:Int) (p2:Int) (_y3:gG) (y9:gG):List Prop := [(((cond (decide (y9.2 ≥ 4294967296)) true (decide ((IntKind.wrap .u64 (y9.2 * (v_and .u64 (v_shl .u64 p2 (IntKind.wrap .u64 ((64:Int) - (((v_ln p2.toNat):Nat):Int)))) (4294967295:Int)))) > (IntKind.wrap .u64 ((IntKind.wrap .u64 ((4294967296:Int) * y9.1)) + (v_and .u64 (v_shl .u64 p1 (IntKind.wrap .u64 ((64:Int) - (((v_ln p2.toNat):Nat):Int)))) (4294967295:Int)))))))=true)→(((decide ((IntKind.wrap .u64 (y9.1 + (v_shr .u64 (v_shl .u64 p2 (IntKind.wrap .u64 ((64:Int) - (((v_ln p2.toNat):Nat):Int)))) (32:Int)))) ≥ 4294967296))=true)→((0:Int)≤(IntKind.wrap .u64 ((64:Int) - (((v_ln p2.toNat):Nat):Int)))))),(((cond (decide (y9.2 ≥ 4294967296)) true (decide ((IntKind.wrap .u64 (y9.2 * (v_and .u64 (v_shl .u64 p2 (IntKind.wrap .u64 ((64:Int) - (((v_ln p2.toNat):Nat):Int)))) (4294967295:Int)))) > (IntKind.wrap .u64 ((IntKind.wrap .u64 ((4294967296:Int) * y9.1)) + (v_and .u64 (v_shl .u64 p1 (IntKind.wrap .u64 ((64:Int) - (((v_ln p2.toNat):Nat):Int)))) (4294967295:Int)))))))=false)→((0:Int)≤(IntKind.wrap .u64 ((64:Int) - (((v_ln p2.toNat):Nat):Int)))))]
def st_Z2_2 (p0:Int) (p1:Int) (p2:Int) (y3:gG):(Int×Int) ⊕ (Int×Int) := (cond (cond (decide (y3.2 ≥ 4294967296)) true (decide ((IntKind.wrap .u64 (y3.2 * (v_and .u64 (v_shl .u64 p2 (IntKind.wrap .u64 ((64:Int) - (((v_ln p2.toNat):Nat):Int)))) (4294967295:Int)))) > (IntKind.wrap .u64 ((IntKind.wrap .u64 ((4294967296:Int) * y3.1)) + (v_shr .u64 (v_shl .u64 p1 (IntKind.wrap .u64 ((64:Int) - (((v_ln p2.toNat):Nat):Int)))) (32:Int))))))) (cond (decide ((IntKind.wrap .u64 (y3.1 + (v_shr .u64 (v_shl .u64 p2 (IntKind.wrap .u64 ((64:Int) - (((v_ln p2.toNat):Nat):Int)))) (32:Int)))) ≥ 4294967296)) (lpv (Sum.inr (0,0)) (st_Z2_0 p0 p1 p2 y3) ((IntKind.wrap .u64 ((IntKind.wrap .u64 ((IntKind.wrap .u64 ((IntKind.wrap .u64 ((v_or .u64 (v_shl .u64 p0 (IntKind.wrap .u64 ((64:Int) - (((v_ln p2.toNat):Nat):Int)))) (v_shr .u64 p1 (IntKind.wrap .u64 ((64:Int) - (IntKind.wrap .u64 ((64:Int) - (((v_ln p2.toNat):Nat):Int))))))) * 4294967296)) + (v_shr .u64 (v_shl .u64 p1 (IntKind.wrap .u64 ((64:Int) - (((v_ln p2.toNat):Nat):Int)))) (32:Int)))) - (IntKind.wrap .u64 ((IntKind.wrap .u64 (y3.2 - 1)) * (v_shl .u64 p2 (IntKind.wrap .u64 ((64:Int) - (((v_ln p2.toNat):Nat):Int)))))))) - (IntKind.wrap .u64 ((IntKind.wrap .u64 (Int.tdiv (IntKind.wrap .u64 ((IntKind.wrap .u64 ((IntKind.wrap .u64 ((v_or .u64 (v_shl .u64 p0 (IntKind.wrap .u64 ((64:Int) - (((v_ln p2.toNat):Nat):Int)))) (v_shr .u64 p1 (IntKind.wrap .u64 ((64:Int) - (IntKind.wrap .u64 ((64:Int) - (((v_ln p2.toNat):Nat):Int))))))) * 4294967296)) + (v_shr .u64 (v_shl .u64 p1 (IntKind.wrap .u64 ((64:Int) - (((v_ln p2.toNat):Nat):Int)))) (32:Int)))) - (IntKind.wrap .u64 ((IntKind.wrap .u64 (y3.2 - 1)) * (v_shl .u64 p2 (IntKind.wrap .u64 ((64:Int) - (((v_ln p2.toNat):Nat):Int)))))))) (v_shr .u64 (v_shl .u64 p2 (IntKind.wrap .u64 ((64:Int) - (((v_ln p2.toNat):Nat):Int)))) (32:Int)))) * (v_shr .u64 (v_shl .u64 p2 (IntKind.wrap .u64 ((64:Int) - (((v_ln p2.toNat):Nat):Int)))) (32:Int)))))),(IntKind.wrap .u64 (Int.tdiv (IntKind.wrap .u64 ((IntKind.wrap .u64 ((IntKind.wrap .u64 ((v_or .u64 (v_shl .u64 p0 (IntKind.wrap .u64 ((64:Int) - (((v_ln p2.toNat):Nat):Int)))) (v_shr .u64 p1 (IntKind.wrap .u64 ((64:Int) - (IntKind.wrap .u64 ((64:Int) - (((v_ln p2.toNat):Nat):Int))))))) * 4294967296)) + (v_shr .u64 (v_shl .u64 p1 (IntKind.wrap .u64 ((64:Int) - (((v_ln p2.toNat):Nat):Int)))) (32:Int)))) - (IntKind.wrap .u64 ((IntKind.wrap .u64 (y3.2 - 1)) * (v_shl .u64 p2 (IntKind.wrap .u64 ((64:Int) - (((v_ln p2.toNat):Nat):Int)))))))) (v_shr .u64 (v_shl .u64 p2 (IntKind.wrap .u64 ((64:Int) - (((v_ln p2.toNat):Nat):Int)))) (32:Int)))))) (Sum.inl ((IntKind.wrap .u64 (y3.1 + (v_shr .u64 (v_shl .u64 p2 (IntKind.wrap .u64 ((64:Int) - (((v_ln p2.toNat):Nat):Int)))) (32:Int)))),(IntKind.wrap .u64 (y3.2 - 1))))) (lpv (Sum.inr (0,0)) (st_Z2_1 p0 p1 p2 y3) ((IntKind.wrap .u64 ((IntKind.wrap .u64 ((IntKind.wrap .u64 ((IntKind.wrap .u64 ((v_or .u64 (v_shl .u64 p0 (IntKind.wrap .u64 ((64:Int) - (((v_ln p2.toNat):Nat):Int)))) (v_shr .u64 p1 (IntKind.wrap .u64 ((64:Int) - (IntKind.wrap .u64 ((64:Int) - (((v_ln p2.toNat):Nat):Int))))))) * 4294967296)) + (v_shr .u64 (v_shl .u64 p1 (IntKind.wrap .u64 ((64:Int) - (((v_ln p2.toNat):Nat):Int)))) (32:Int)))) - (IntKind.wrap .u64 (y3.2 * (v_shl .u64 p2 (IntKind.wrap .u64 ((64:Int) - (((v_ln p2.toNat):Nat):Int)))))))) - (IntKind.wrap .u64 ((IntKind.wrap .u64 (Int.tdiv (IntKind.wrap .u64 ((IntKind.wrap .u64 ((IntKind.wrap .u64 ((v_or .u64 (v_shl .u64 p0 (IntKind.wrap .u64 ((64:Int) - (((v_ln p2.toNat):Nat):Int)))) (v_shr .u64 p1 (IntKind.wrap .u64 ((64:Int) - (IntKind.wrap .u64 ((64:Int) - (((v_ln p2.toNat):Nat):Int))))))) * 4294967296)) + (v_shr .u64 (v_shl .u64 p1 (IntKind.wrap .u64 ((64:Int) - (((v_ln p2.toNat):Nat):Int)))) (32:Int)))) - (IntKind.wrap .u64 (y3.2 * (v_shl .u64 p2 (IntKind.wrap .u64 ((64:Int) - (((v_ln p2.toNat):Nat):Int)))))))) (v_shr .u64 (v_shl .u64 p2 (IntKind.wrap .u64 ((64:Int) - (((v_ln p2.toNat):Nat):Int)))) (32:Int)))) * (v_shr .u64 (v_shl .u64 p2 (IntKind.wrap .u64 ((64:Int) - (((v_ln p2.toNat):Nat):Int)))) (32:Int)))))),(IntKind.wrap .u64 (Int.tdiv (IntKind.wrap .u64 ((IntKind.wrap .u64 ((IntKind.wrap .u64 ((v_or .u64 (v_shl .u64 p0 (IntKind.wrap .u64 ((64:Int) - (((v_ln p2.toNat):Nat):Int)))) (v_shr .u64 p1 (IntKind.wrap .u64 ((64:Int) - (IntKind.wrap .u64 ((64:Int) - (((v_ln p2.toNat):Nat):Int))))))) * 4294967296)) + (v_shr .u64 (v_shl .u64 p1 (IntKind.wrap .u64 ((64:Int) - (((v_ln p2.toNat):Nat):Int)))) (32:Int)))) - (IntKind.wrap .u64 (y3.2 * (v_shl .u64 p2 (IntKind.wrap .u64 ((64:Int) - (((v_ln p2.toNat):Nat):Int)))))))) (v_shr .u64 (v_shl .u64 p2 (IntKind.wrap .u64 ((64:Int) - (((v_ln p2.toNat):Nat):Int)))) (32:Int)))))))
abbrev sp_Z2_2 (p0:Int) (p1:Int) (p2:Int) (y3:gG):List Prop := [(((cond (decide (y3.2 ≥ 4294967296)) true (decide ((IntKind.wrap .u64 (y3.2 * (v_and .u64 (v_shl .u64 p2 (IntKind.wrap .u64 ((64:Int) - (((v_ln p2.toNat):Nat):Int)))) (4294967295:Int)))) > (IntKind.wrap .u64 ((IntKind.wrap .u64 ((4294967296:Int) * y3.1)) + (v_shr .u64 (v_shl .u64 p1 (IntKind.wrap .u64 ((64:Int) - (((v_ln p2.toNat):Nat):Int)))) (32:Int)))))))=true)→(((decide ((IntKind.wrap .u64 (y3.1 + (v_shr .u64 (v_shl .u64 p2 (IntKind.wrap .u64 ((64:Int) - (((v_ln p2.toNat):Nat):Int)))) (32:Int)))) ≥ 4294967296))=true)→((v_shr .u64 (v_shl .u64 p2 (IntKind.wrap .u64 ((64:Int) - (((v_ln p2.toNat):Nat):Int)))) (32:Int)) ≠ (0:Int)))),(((cond (decide (y3.2 ≥ 4294967296)) true (decide ((IntKind.wrap .u64 (y3.2 * (v_and .u64 (v_shl .u64 p2 (IntKind.wrap .u64 ((64:Int) - (((v_ln p2.toNat):Nat):Int)))) (4294967295:Int)))) > (IntKind.wrap .u64 ((IntKind.wrap .u64 ((4294967296:Int) * y3.1)) + (v_shr .u64 (v_shl .u64 p1 (IntKind.wrap .u64 ((64:Int) - (((v_ln p2.toNat):Nat):Int)))) (32:Int)))))))=true)→(((decide ((IntKind.wrap .u64 (y3.1 + (v_shr .u64 (v_shl .u64 p2 (IntKind.wrap .u64 ((64:Int) - (((v_ln p2.toNat):Nat):Int)))) (32:Int)))) ≥ 4294967296))=true)→(OkL (st_Z2_0 p0 p1 p2 y3) (sp_Z2_0 p0 p1 p2 y3) ((IntKind.wrap .u64 ((IntKind.wrap .u64 ((IntKind.wrap .u64 ((IntKind.wrap .u64 ((v_or .u64 (v_shl .u64 p0 (IntKind.wrap .u64 ((64:Int) - (((v_ln p2.toNat):Nat):Int)))) (v_shr .u64 p1 (IntKind.wrap .u64 ((64:Int) - (IntKind.wrap .u64 ((64:Int) - (((v_ln p2.toNat):Nat):Int))))))) * 4294967296)) + (v_shr .u64 (v_shl .u64 p1 (IntKind.wrap .u64 ((64:Int) - (((v_ln p2.toNat):Nat):Int)))) (32:Int)))) - (IntKind.wrap .u64 ((IntKind.wrap .u64 (y3.2 - 1)) * (v_shl .u64 p2 (IntKind.wrap .u64 ((64:Int) - (((v_ln p2.toNat):Nat):Int)))))))) - (IntKind.wrap .u64 ((IntKind.wrap .u64 (Int.tdiv (IntKind.wrap .u64 ((IntKind.wrap .u64 ((IntKind.wrap .u64 ((v_or .u64 (v_shl .u64 p0 (IntKind.wrap .u64 ((64:Int) - (((v_ln p2.toNat):Nat):Int)))) (v_shr .u64 p1 (IntKind.wrap .u64 ((64:Int) - (IntKind.wrap .u64 ((64:Int) - (((v_ln p2.toNat):Nat):Int))))))) * 4294967296)) + (v_shr .u64 (v_shl .u64 p1 (IntKind.wrap .u64 ((64:Int) - (((v_ln p2.toNat):Nat):Int)))) (32:Int)))) - (IntKind.wrap .u64 ((IntKind.wrap .u64 (y3.2 - 1)) * (v_shl .u64 p2 (IntKind.wrap .u64 ((64:Int) - (((v_ln p2.toNat):Nat):Int)))))))) (v_shr .u64 (v_shl .u64 p2 (IntKind.wrap .u64 ((64:Int) - (((v_ln p2.toNat):Nat):Int)))) (32:Int)))) * (v_shr .u64 (v_shl .u64 p2 (IntKind.wrap .u64 ((64:Int) - (((v_ln p2.toNat):Nat):Int)))) (32:Int)))))),(IntKind.wrap .u64 (Int.tdiv (IntKind.wrap .u64 ((IntKind.wrap .u64 ((IntKind.wrap .u64 ((v_or .u64 (v_shl .u64 p0 (IntKind.wrap .u64 ((64:Int) - (((v_ln p2.toNat):Nat):Int)))) (v_shr .u64 p1 (IntKind.wrap .u64 ((64:Int) - (IntKind.wrap .u64 ((64:Int) - (((v_ln p2.toNat):Nat):Int))))))) * 4294967296)) + (v_shr .u64 (v_shl .u64 p1 (IntKind.wrap .u64 ((64:Int) - (((v_ln p2.toNat):Nat):Int)))) (32:Int)))) - (IntKind.wrap .u64 ((IntKind.wrap .u64 (y3.2 - 1)) * (v_shl .u64 p2 (IntKind.wrap .u64 ((64:Int) - (((v_ln p2.toNat):Nat):Int)))))))) (v_shr .u64 (v_shl .u64 p2 (IntKind.wrap .u64 ((64:Int) - (((v_ln p2.toNat):Nat):Int)))) (32:Int)))))))),(((cond (decide (y3.2 ≥ 4294967296)) true (decide ((IntKind.wrap .u64 (y3.2 * (v_and .u64 (v_shl .u64 p2 (IntKind.wrap .u64 ((64:Int) - (((v_ln p2.toNat):Nat):Int)))) (4294967295:Int)))) > (IntKind.wrap .u64 ((IntKind.wrap .u64 ((4294967296:Int) * y3.1)) + (v_shr .u64 (v_shl .u64 p1 (IntKind.wrap .u64 ((64:Int) - (((v_ln p2.toNat):Nat):Int)))) (32:Int)))))))=false)→((v_shr .u64 (v_shl .u64 p2 (IntKind.wrap .u64 ((64:Int) - (((v_ln p2.toNat):Nat):Int)))) (32:Int)) ≠ (0:Int))),(((cond (decide (y3.2 ≥ 4294967296)) true (decide ((IntKind.wrap .u64 (y3.2 * (v_and .u64 (v_shl .u64 p2 (IntKind.wrap .u64 ((64:Int) - (((v_ln p2.toNat):Nat):Int)))) (4294967295:Int)))) > (IntKind.wrap .u64 ((IntKind.wrap .u64 ((4294967296:Int) * y3.1)) + (v_shr .u64 (v_shl .u64 p1 (IntKind.wrap .u64 ((64:Int) - (((v_ln p2.toNat):Nat):Int)))) (32:Int)))))))=false)→(OkL (st_Z2_1 p0 p1 p2 y3) (sp_Z2_1 p0 p1 p2 y3) ((IntKind.wrap .u64 ((IntKind.wrap .u64 ((IntKind.wrap .u64 ((IntKind.wrap .u64 ((v_or .u64 (v_shl .u64 p0 (IntKind.wrap .u64 ((64:Int) - (((v_ln p2.toNat):Nat):Int)))) (v_shr .u64 p1 (IntKind.wrap .u64 ((64:Int) - (IntKind.wrap .u64 ((64:Int) - (((v_ln p2.toNat):Nat):Int))))))) * 4294967296)) + (v_shr .u64 (v_shl .u64 p1 (IntKind.wrap .u64 ((64:Int) - (((v_ln p2.toNat):Nat):Int)))) (32:Int)))) - (IntKind.wrap .u64 (y3.2 * (v_shl .u64 p2 (IntKind.wrap .u64 ((64:Int) - (((v_ln p2.toNat):Nat):Int)))))))) - (IntKind.wrap .u64 ((IntKind.wrap .u64 (Int.tdiv (IntKind.wrap .u64 ((IntKind.wrap .u64 ((IntKind.wrap .u64 ((v_or .u64 (v_shl .u64 p0 (IntKind.wrap .u64 ((64:Int) - (((v_ln p2.toNat):Nat):Int)))) (v_shr .u64 p1 (IntKind.wrap .u64 ((64:Int) - (IntKind.wrap .u64 ((64:Int) - (((v_ln p2.toNat):Nat):Int))))))) * 4294967296)) + (v_shr .u64 (v_shl .u64 p1 (IntKind.wrap .u64 ((64:Int) - (((v_ln p2.toNat):Nat):Int)))) (32:Int)))) - (IntKind.wrap .u64 (y3.2 * (v_shl .u64 p2 (IntKind.wrap .u64 ((64:Int) - (((v_ln p2.toNat):Nat):Int)))))))) (v_shr .u64 (v_shl .u64 p2 (IntKind.wrap .u64 ((64:Int) - (((v_ln p2.toNat):Nat):Int)))) (32:Int)))) * (v_shr .u64 (v_shl .u64 p2 (IntKind.wrap .u64 ((64:Int) - (((v_ln p2.toNat):Nat):Int)))) (32:Int)))))),(IntKind.wrap .u64 (Int.tdiv (IntKind.wrap .u64 ((IntKind.wrap .u64 ((IntKind.wrap .u64 ((v_or .u64 (v_shl .u64 p0 (IntKind.wrap .u64 ((64:Int) - (((v_ln p2.toNat):Nat):Int)))) (v_shr .u64 p1 (IntKind.wrap .u64 ((64:Int) - (IntKind.wrap .u64 ((64:Int) - (((v_ln p2.toNat):Nat):Int))))))) * 4294967296)) + (v_shr .u64 (v_shl .u64 p1 (IntKind.wrap .u64 ((64:Int) - (((v_ln p2.toNat):Nat):Int)))) (32:Int)))) - (IntKind.wrap .u64 (y3.2 * (v_shl .u64 p2 (IntKind.wrap .u64 ((64:Int) - (((v_ln p2.toNat):Nat):Int)))))))) (v_shr .u64 (v_shl .u64 p2 (IntKind.wrap .u64 ((64:Int) - (((v_ln p2.toNat):Nat):Int)))) (32:Int)))))))]
def s_Z2 (p0:Int) (p1:Int) (p2:Int):(Int×Int) := (cond (p2 == 0) (0,0) (cond (decide (p2≤p0)) (0,0) (cond (p0 == 0) ((IntKind.wrap .u64 (Int.tdiv p1 p2)),(Int.tmod p1 p2)) (lpv (0,0) (st_Z2_2 p0 p1 p2) ((IntKind.wrap .u64 ((v_or .u64 (v_shl .u64 p0 (IntKind.wrap .u64 ((64:Int) - (((v_ln p2.toNat):Nat):Int)))) (v_shr .u64 p1 (IntKind.wrap .u64 ((64:Int) - (IntKind.wrap .u64 ((64:Int) - (((v_ln p2.toNat):Nat):Int))))))) - (IntKind.wrap .u64 ((IntKind.wrap .u64 (Int.tdiv (v_or .u64 (v_shl .u64 p0 (IntKind.wrap .u64 ((64:Int) - (((v_ln p2.toNat):Nat):Int)))) (v_shr .u64 p1 (IntKind.wrap .u64 ((64:Int) - (IntKind.wrap .u64 ((64:Int) - (((v_ln p2.toNat):Nat):Int))))))) (v_shr .u64 (v_shl .u64 p2 (IntKind.wrap .u64 ((64:Int) - (((v_ln p2.toNat):Nat):Int)))) (32:Int)))) * (v_shr .u64 (v_shl .u64 p2 (IntKind.wrap .u64 ((64:Int) - (((v_ln p2.toNat):Nat):Int)))) (32:Int)))))),(IntKind.wrap .u64 (Int.tdiv (v_or .u64 (v_shl .u64 p0 (IntKind.wrap .u64 ((64:Int) - (((v_ln p2.toNat):Nat):Int)))) (v_shr .u64 p1 (IntKind.wrap .u64 ((64:Int) - (IntKind.wrap .u64 ((64:Int) - (((v_ln p2.toNat):Nat):Int))))))) (v_shr .u64 (v_shl .u64 p2 (IntKind.wrap .u64 ((64:Int) - (((v_ln p2.toNat):Nat):Int)))) (32:Int)))))))))
abbrev pre_Z2 (p0:Int) (p1:Int) (p2:Int):List Prop := [(((p2 == 0)=true)→False),(((p2 == 0)=false)→(((decide (p2≤p0))=true)→False)),(((p2 == 0)=false)→(((decide (p2≤p0))=false)→(((p0 == 0)=true)→(p2 ≠ (0:Int))))),(((p2 == 0)=false)→(((decide (p2≤p0))=false)→(((p0 == 0)=false)→(((0:Int)≤p2)∧(p2 < 18446744073709551616))))),(((p2 == 0)=false)→(((decide (p2≤p0))=false)→(((p0 == 0)=false)→((0:Int)≤(IntKind.wrap .u64 ((64:Int) - (((v_ln p2.toNat):Nat):Int))))))),(((p2 == 0)=false)→(((decide (p2≤p0))=false)→(((p0 == 0)=false)→((0:Int)≤(IntKind.wrap .u64 ((64:Int) - (IntKind.wrap .u64 ((64:Int) - (((v_ln p2.toNat):Nat):Int))))))))),(((p2 == 0)=false)→(((decide (p2≤p0))=false)→(((p0 == 0)=false)→((v_shr .u64 (v_shl .u64 p2 (IntKind.wrap .u64 ((64:Int) - (((v_ln p2.toNat):Nat):Int)))) (32:Int)) ≠ (0:Int))))),(((p2 == 0)=false)→(((decide (p2≤p0))=false)→(((p0 == 0)=false)→(OkL (st_Z2_2 p0 p1 p2) (sp_Z2_2 p0 p1 p2) ((IntKind.wrap .u64 ((v_or .u64 (v_shl .u64 p0 (IntKind.wrap .u64 ((64:Int) - (((v_ln p2.toNat):Nat):Int)))) (v_shr .u64 p1 (IntKind.wrap .u64 ((64:Int) - (IntKind.wrap .u64 ((64:Int) - (((v_ln p2.toNat):Nat):Int))))))) - (IntKind.wrap .u64 ((IntKind.wrap .u64 (Int.tdiv (v_or .u64 (v_shl .u64 p0 (IntKind.wrap .u64 ((64:Int) - (((v_ln p2.toNat):Nat):Int)))) (v_shr .u64 p1 (IntKind.wrap .u64 ((64:Int) - (IntKind.wrap .u64 ((64:Int) - (((v_ln p2.toNat):Nat):Int))))))) (v_shr .u64 (v_shl .u64 p2 (IntKind.wrap .u64 ((64:Int) - (((v_ln p2.toNat):Nat):Int)))) (32:Int)))) * (v_shr .u64 (v_shl .u64 p2 (IntKind.wrap .u64 ((64:Int) - (((v_ln p2.toNat):Nat):Int)))) (32:Int)))))),(IntKind.wrap .u64 (Int.tdiv (v_or .u64 (v_shl .u64 p0 (IntKind.wrap .u64 ((64:Int) - (((v_ln p2.toNat):Nat):Int)))) (v_shr .u64 p1 (IntKind.wrap .u64 ((64:Int) - (IntKind.wrap .u64 ((64:Int) - (((v_ln p2.toNat):Nat):Int))))))) (v_shr .u64 (v_shl .u64 p2 (IntKind.wrap .u64 ((64:Int) - (((v_ln p2.toNat):Nat):Int)))) (32:Int)))))))))]
theorem d_Z2 (p0:Int) (p1:Int) (p2:Int) (K:(Int×Int)→Prop) (hp:∀ p∈pre_Z2 p0 p1 p2,p) (h:K (s_Z2 p0 p1 p2)):w_Z2 p0 p1 p2 K := by
 unfold w_Z2
 unfold s_Z2 at h
 obtain ⟨hp0,hp1,hp2,hp3,hp4,hp5,hp6,hp7,_⟩ := conj_of hp
 exact (br' h (fun e0 h => (hp0 e0).elim)
  (fun e0 h => (br' h (fun e1 h => (hp1 e0 e1).elim)
  (fun e1 h => (br' h (fun e2 h => ⟨(hp2 e0 e1 e2),(hp2 e0 e1 e2),h⟩)
  (fun e2 h => ⟨(hp3 e0 e1 e2),(hp4 e0 e1 e2),(hp4 e0 e1 e2),(hp5 e0 e1 e2),(hp4 e0 e1 e2),(hp6 e0 e1 e2),(loop_gen (hp7 e0 e1 e2) h (fun y3 k3 hp h => by
 unfold st_Z2_2 at h; obtain ⟨hp0,hp1,hp2,hp3,_⟩ := conj_of hp
 exact ⟨rf,rf,rf,rf,rf,rf,rf,rfl,(br' h (fun e4 h => (br' h (fun e5 h => ⟨(hp0 e4 e5),(loop_gen (hp1 e4 e5) h (fun y6 k6 hp h => by
 unfold st_Z2_0 at h; obtain ⟨hp0,hp1,_⟩ := conj_of hp
 exact ⟨rf,rf,rf,rf,rf,rf,rf,rfl,(br' h (fun e7 h => (br' h (fun e8 h => ⟨(hp0 e7 e8),h⟩)
  (fun e8 h => h)))
  (fun e7 h => ⟨(hp1 e7),h⟩))⟩))⟩)
  (fun e5 h => h)))
  (fun e4 h => ⟨(hp2 e4),(loop_gen (hp3 e4) h (fun y9 k9 hp h => by
 unfold st_Z2_1 at h; obtain ⟨hp0,hp1,_⟩ := conj_of hp
 exact ⟨rf,rf,rf,rf,rf,rf,rf,rfl,(br' h (fun e10 h => (br' h (fun e11 h => ⟨(hp0 e10 e11),h⟩)
  (fun e11 h => h)))
  (fun e10 h => ⟨(hp1 e10),h⟩))⟩))⟩))⟩))⟩))))))
/-- One digit of a quotient,to the base 2^32,out of a guess that is too great by at most two. -/
theorem v_dg_iff {y1 y0 Y u d q r:Nat} (hp:0 < Y) (hY:Y = y1 * 4294967296 + y0) (h:q * y1 + r = u):q * y0≤4294967296 * r + d ↔ q≤(u * 4294967296 + d) / Y := by
 rw [Nat.le_div_iff_mul_le hp]
 have e:q * Y = q * y1 * 4294967296 + q * y0 := by rw [hY,Nat.mul_add,Nat.mul_assoc]
 rw [e]
 generalize q * y1 = a at *
 generalize q * y0 = b at *
 omega
theorem v_dg_lt {Y u d:Nat} (bu:u < Y) (bd:d < 4294967296):(u * 4294967296 + d) / Y < 4294967296 := by
 rw [Nat.div_lt_iff_lt_mul (by omega)]
 have := Nat.mul_le_mul_left 4294967296 (show u + 1≤Y by omega)
 omega
theorem v_dg_init {y1 y0 Y u d:Nat} (hY:Y = y1 * 4294967296 + y0) (b1:2147483648≤y1∧y1 < 4294967296) (b0:y0 < 4294967296) (bu:u < Y) (bd:d < 4294967296):(u * 4294967296 + d) / Y≤u / y1∧u / y1≤4294967297∧u / y1 * y1 + u % y1 = u∧u % y1 < 4294967296 := by
 have hm := Nat.mod_lt u (show 0 < y1 by omega)
 have hd := Nat.div_add_mod u y1
 refine ⟨?_,?_,by rw [Nat.mul_comm]; exact hd,by omega⟩
 ·rw [Nat.le_div_iff_mul_le (by omega)]
  have h1 := Nat.div_mul_le_self (u * 4294967296 + d) Y
  generalize (u * 4294967296 + d) / Y = q at *
  have e:q * Y = q * y1 * 4294967296 + q * y0 := by rw [hY,Nat.mul_add,Nat.mul_assoc]
  generalize q * y1 = a at *
  generalize q * y0 = b at *
  omega
 ·have:u / y1 < 4294967298 := by
   rw [Nat.div_lt_iff_lt_mul (by omega)]
   omega
  omega
/-- What a round asks: whether the guess is still too great. -/
structure v_dgi (y1 y0 Y u d r q:Nat):Prop where
 e:q * y1 + r = u
 r:r < 4294967296
 lo:(u * 4294967296 + d) / Y≤q
 hi:q≤4294967297
structure v_dgy (y1 y0 Y u d:Nat):Prop where
 y:Y = y1 * 4294967296 + y0
 b1:2147483648≤y1∧y1 < 4294967296
 b0:y0 < 4294967296
 u:u < Y
 d:d < 4294967296
theorem v_dg_cond {y1 y0 Y u d r q:Nat} (H:v_dgy y1 y0 Y u d) (I:v_dgi y1 y0 Y u d r q):cond (decide ((q:Int) ≥ 4294967296)) true (decide (IntKind.u64.wrap ((q:Int) * (y0:Int)) > IntKind.u64.wrap (IntKind.u64.wrap (4294967296 * (r:Int)) + (d:Int))))=decide ((u * 4294967296 + d) / Y < q) := by
 have hlt := v_dg_lt H.u H.d
 have hr := I.r
 have hd := H.d
 have hy := H.y
 have hb := H.b1
 cases c:decide ((q:Int) ≥ 4294967296)
 ·have c := of_decide_eq_false c
  have hiff := v_dg_iff (d := d) (show 0 < Y by omega) H.y I.e
  have hm := Nat.mul_lt_mul'' (show q < 4294967296 by omega) H.b0
  rw [cond_false,← Int.natCast_mul,u_wrap (n := ((q * y0:Nat):Int)) (by omega) (by omega),u_wrap (n := 4294967296 * (r:Int)) (by omega) (by omega),u_wrap (n := 4294967296 * (r:Int) + (d:Int)) (by omega) (by omega)]
  generalize q * y0 = a at *
  exact decide_eq_decide.2 (by omega)
 ·have c := of_decide_eq_true c
  rw [cond_true,decide_eq_true (show (u * 4294967296 + d) / Y < q by omega)]
theorem v_dg_next {y1 y0 Y u d r q:Nat} (H:v_dgy y1 y0 Y u d) (I:v_dgi y1 y0 Y u d r q) (h:(u * 4294967296 + d) / Y < q):IntKind.u64.wrap ((r:Int) + (y1:Int))=((r + y1:Nat):Int)∧IntKind.u64.wrap ((q:Int) - 1)=((q - 1:Nat):Int)∧(q - 1) * y1 + (r + y1)=u∧(4294967296≤r + y1→q - 1 = (u * 4294967296 + d) / Y) := by
 have hr := I.r
 have hb := H.b1
 have hy := H.y
 have hq := I.hi
 have hy0 := H.b0
 have hq1:0 < q := Nat.lt_of_le_of_lt (Nat.zero_le _) h
 have e:(q - 1) * y1 + (r + y1)=u := by
  obtain ⟨k,rfl⟩ : ∃ k,q = k + 1 := ⟨q - 1,by omega⟩
  have := I.e
  rw [Nat.add_mul,Nat.one_mul] at this
  rw [Nat.add_sub_cancel]
  omega
 refine ⟨by rw [u_wrap (by omega) (by omega)]; omega,by rw [u_wrap (by omega) (by omega)]; omega,e,fun hg => ?_⟩
 have hiff := v_dg_iff (d := d) (show 0 < Y by omega) H.y e
 have hm := Nat.mul_le_mul (show q - 1≤4294967296 by omega) (show y0≤4294967295 by omega)
 have := hiff.1 (by omega)
 omega
/-- A word's rest. -/
theorem v_dg_rest {Y u d:Nat} (hu:u < Y) (hY:Y < 18446744073709551616) (_hd:d < 4294967296):IntKind.u64.wrap (IntKind.u64.wrap (IntKind.u64.wrap ((u:Int) * 4294967296) + (d:Int)) - IntKind.u64.wrap ((((u * 4294967296 + d) / Y:Nat):Int) * (Y:Int)))=(((u * 4294967296 + d) % Y:Nat):Int) := by
 have h := Nat.div_add_mod (u * 4294967296 + d) Y
 have hm := Nat.mod_lt (u * 4294967296 + d) (show 0 < Y by omega)
 rw [← Int.natCast_mul]
 rw [Nat.mul_comm Y] at h
 generalize (u * 4294967296 + d) / Y * Y = t at *
 generalize (u * 4294967296 + d) % Y = m at *
 rw [u_wrap_mod,u_wrap_mod,u_wrap_mod,u_wrap_mod]
 omega
/-- What a division by 2^64 comes to,digit by digit. -/
structure v_dv (p0 p1 p2:Int) (s y1 y0 Y u d1 d0:Nat):Prop where
 hs:IntKind.u64.wrap (64 - (v_ln p2.toNat:Int))=(s:Int)
 hr:IntKind.u64.wrap (64 - (s:Int))=((64 - s:Nat):Int)
 hY:v_shl .u64 p2 (s:Int)=(Y:Int)
 hy1:v_shr .u64 (Y:Int) 32 = (y1:Int)
 hy0:v_and .u64 (Y:Int) 4294967295 = (y0:Int)
 hu:v_or .u64 (v_shl .u64 p0 (s:Int)) (v_shr .u64 p1 ((64 - s:Nat):Int))=(u:Int)
 hd1:v_shr .u64 (v_shl .u64 p1 (s:Int)) 32 = (d1:Int)
 hd0:v_and .u64 (v_shl .u64 p1 (s:Int)) 4294967295 = (d0:Int)
 sle:s≤63
 Yl:Y < 18446744073709551616
 A:v_dgy y1 y0 Y u d1
 bd0:d0 < 4294967296
 e:(u * 4294967296 + d1) * 4294967296 + d0 = (p0 * 18446744073709551616 + p1).toNat * 2 ^ s
 eY:Y = p2.toNat * 2 ^ s
theorem v_dv.A2 {p0 p1 p2:Int} {s y1 y0 Y u d1 d0:Nat} (D:v_dv p0 p1 p2 s y1 y0 Y u d1 d0):v_dgy y1 y0 Y ((u * 4294967296 + d1) % Y) d0 :=
 ⟨D.A.y,D.A.b1,D.A.b0,Nat.mod_lt _ (by have := D.A.u; omega),D.bd0⟩
theorem u_join {a b n:Nat} (ha:a < 4294967296) (hb:b < 4294967296) (h:n = a * 4294967296 + b):IntKind.u64.wrap (IntKind.u64.wrap ((a:Int) * 4294967296) + (b:Int))=(n:Int) := by
 rw [u_wrap (n := (a:Int) * 4294967296) (by omega) (by omega),u_wrap (by omega) (by omega)]
 omega
theorem v_dv.out {p0 p1 p2:Int} {s y1 y0 Y u d1 d0:Nat} (D:v_dv p0 p1 p2 s y1 y0 Y u d1 d0) (hp:0≤p0∧0≤p1∧0≤p2) :
  (IntKind.u64.wrap (IntKind.u64.wrap ((((u * 4294967296 + d1) / Y:Nat):Int) * 4294967296) + ((((u * 4294967296 + d1) % Y * 4294967296 + d0) / Y:Nat):Int)),
   v_shr .u64 (IntKind.u64.wrap (IntKind.u64.wrap (IntKind.u64.wrap ((((u * 4294967296 + d1) % Y:Nat):Int) * 4294967296) + (d0:Int)) - IntKind.u64.wrap (((((u * 4294967296 + d1) % Y * 4294967296 + d0) / Y:Nat):Int) * (Y:Int)))) (s:Int))=((p0 * 18446744073709551616 + p1) / p2,(p0 * 18446744073709551616 + p1) % p2) := by
 have hYp:0 < Y := by have := D.A.u; omega
 have l1 := v_dg_lt D.A.u D.A.d
 have l2 := v_dg_lt D.A2.u D.bd0
 rw [v_dg_rest D.A2.u D.Yl D.bd0]
 have hp2:0 < p2.toNat := by
  rcases Nat.eq_zero_or_pos p2.toNat with z | z
  ·have := D.eY; rw [z,Nat.zero_mul] at this; omega
  ·exact z
 have key:(u * 4294967296 + d1) * 4294967296 + d0 = Y * ((u * 4294967296 + d1) / Y * 4294967296) + ((u * 4294967296 + d1) % Y * 4294967296 + d0) := by
  have := Nat.div_add_mod (u * 4294967296 + d1) Y
  conv => lhs; rw [← this]
  rw [Nat.add_mul,Nat.mul_assoc,Nat.add_assoc]
 have q:((u * 4294967296 + d1) * 4294967296 + d0) / Y = (u * 4294967296 + d1) / Y * 4294967296 + ((u * 4294967296 + d1) % Y * 4294967296 + d0) / Y := by
  rw [key,Nat.mul_add_div hYp]
 have r:((u * 4294967296 + d1) * 4294967296 + d0) % Y = ((u * 4294967296 + d1) % Y * 4294967296 + d0) % Y := by
  rw [key,Nat.mul_add_mod]
 rw [D.e] at q r
 have q2:(p0 * 18446744073709551616 + p1).toNat * 2 ^ s / Y = (p0 * 18446744073709551616 + p1).toNat / p2.toNat := by
  rw [D.eY,Nat.mul_div_mul_right _ _ (Nat.two_pow_pos s)]
 have r2:(p0 * 18446744073709551616 + p1).toNat * 2 ^ s % Y = (p0 * 18446744073709551616 + p1).toNat % p2.toNat * 2 ^ s := by
  rw [D.eY,Nat.mul_mod_mul_right]
 rw [q2] at q
 rw [r2] at r
 have hN:((p0 * 18446744073709551616 + p1).toNat:Int)=p0 * 18446744073709551616 + p1 := by omega
 have hP:(p2.toNat:Int)=p2 := by omega
 rw [← r,u_shrk _ s (by have := D.sle; omega),Nat.mul_div_cancel _ (Nat.two_pow_pos s)]
 rw [u_join l1 l2 q,Int.natCast_ediv,Int.natCast_emod,hN,hP]
theorem v_dg_start {R y1:Nat} (h:R < 18446744073709551616):IntKind.u64.wrap ((R:Int) - IntKind.u64.wrap (((R / y1:Nat):Int) * (y1:Int)))=((R % y1:Nat):Int)∧IntKind.u64.wrap (Int.tdiv (R:Int) (y1:Int))=((R / y1:Nat):Int) := by
 have a := Nat.div_add_mod R y1
 have b := Nat.div_le_self R y1
 have e:Int.tdiv (R:Int) (y1:Int)=((R / y1:Nat):Int) := (Int.ofNat_tdiv R y1).symm
 have hz:(0:Int)≤((R / y1:Nat):Int) := Int.natCast_nonneg _
 refine ⟨?_,by rw [e,u_wrap hz (by omega)]⟩
 rw [← Int.natCast_mul,Nat.mul_comm]
 generalize y1 * (R / y1)=t at *
 rw [u_wrap (n := ((t:Nat):Int)) (by omega) (by omega),u_wrap (by omega) (by omega)]
 omega
section
variable {p0 p1 p2:Int} {s y1 y0 Y u d1 d0:Nat} (D:v_dv p0 p1 p2 s y1 y0 Y u d1 d0) (hp:0≤p0∧0≤p1∧0≤p2)
include D hp
omit hp in
theorem d64_y1:(y1:Int) ≠ 0 := by have := D.A.b1; omega
omit hp in
theorem d64_in (_k:Int):v_dgi y1 y0 Y ((u * 4294967296 + d1) % Y) d0 ((u * 4294967296 + d1) % Y % y1) ((u * 4294967296 + d1) % Y / y1) := by
 obtain ⟨a,b,c,d⟩ := v_dg_init D.A2.y D.A2.b1 D.A2.b0 D.A2.u D.A2.d
 exact ⟨c,d,a,b⟩
theorem d64_0 (y3:gG) (h3:IntKind.u64.wrap (y3.2 - 1)=(((u * 4294967296 + d1) / Y:Nat):Int)):OkL (st_Z2_0 p0 p1 p2 y3) (sp_Z2_0 p0 p1 p2 y3) ((((u * 4294967296 + d1) % Y % y1:Nat):Int),(((u * 4294967296 + d1) % Y / y1:Nat):Int))∧lpv (.inr (0,0)) (st_Z2_0 p0 p1 p2 y3) ((((u * 4294967296 + d1) % Y % y1:Nat):Int),(((u * 4294967296 + d1) % Y / y1:Nat):Int)) = .inr ((p0 * 18446744073709551616 + p1) / p2,(p0 * 18446744073709551616 + p1) % p2) := by
 have I0 := d64_in D 0
 have out := D.out hp
 have hrest := v_dg_rest D.A.u D.Yl D.A.d
 refine @loop_is (Int×Int) ((Int×Int) ⊕ (Int×Int)) (.inr (0,0)) (st_Z2_0 p0 p1 p2 y3) (sp_Z2_0 p0 p1 p2 y3) (fun (y:gG) => ∃ r q:Nat,y = ((r:Int),(q:Int))∧v_dgi y1 y0 Y ((u * 4294967296 + d1) % Y) d0 r q) (fun (y:gG) => y.2.toNat) (fun _ => .inr ((p0 * 18446744073709551616 + p1) / p2,(p0 * 18446744073709551616 + p1) % p2)) ?_ _ ⟨_,_,rfl,I0⟩ (by have := I0.hi; unfold fuel; simp only [Int.toNat_natCast]; omega)
 rintro ⟨r',q'⟩ ⟨r,q,e,I⟩
 cases e
 simp only [sp_Z2_0,st_Z2_0,fM,D.hs,D.hr,D.hY,D.hy1,D.hy0,D.hu,D.hd1,D.hd0,h3,hrest,v_dg_cond D.A2 I]
 refine ⟨⟨fun _ _ => (by omega),fun _ => (by omega),fun p hp => by cases hp⟩,?_⟩
 cases c:decide (((u * 4294967296 + d1) % Y * 4294967296 + d0) / Y < q)
 ·have c := of_decide_eq_false c
  obtain rfl:q = ((u * 4294967296 + d1) % Y * 4294967296 + d0) / Y := by have := I.lo; omega
  simp only [cond_false]
  rw [out]
 ·have c := of_decide_eq_true c
  have hq1:0 < q := Nat.lt_of_le_of_lt (Nat.zero_le _) c
  obtain ⟨n1,n2,n3,n4⟩ := v_dg_next D.A2 I c
  simp only [cond_true,n1,n2]
  cases d:decide (((r + y1:Nat):Int) ≥ 4294967296)
  ·have d := of_decide_eq_false d
   have hi := I.hi
   simp only [cond_false,and_true]
   exact ⟨⟨_,_,rfl,⟨n3,by omega,by omega,by omega⟩⟩,by simp only [Int.toNat_natCast]; omega⟩
  ·have d := of_decide_eq_true d
   simp only [cond_true]
   rw [n4 (by omega),out]
theorem d64_1 (y3:gG) (h3:y3.2 = (((u * 4294967296 + d1) / Y:Nat):Int)):OkL (st_Z2_1 p0 p1 p2 y3) (sp_Z2_1 p0 p1 p2 y3) ((((u * 4294967296 + d1) % Y % y1:Nat):Int),(((u * 4294967296 + d1) % Y / y1:Nat):Int))∧lpv (.inr (0,0)) (st_Z2_1 p0 p1 p2 y3) ((((u * 4294967296 + d1) % Y % y1:Nat):Int),(((u * 4294967296 + d1) % Y / y1:Nat):Int)) = .inr ((p0 * 18446744073709551616 + p1) / p2,(p0 * 18446744073709551616 + p1) % p2) := by
 have I0 := d64_in D 0
 have out := D.out hp
 have hrest := v_dg_rest D.A.u D.Yl D.A.d
 refine @loop_is (Int×Int) ((Int×Int) ⊕ (Int×Int)) (.inr (0,0)) (st_Z2_1 p0 p1 p2 y3) (sp_Z2_1 p0 p1 p2 y3) (fun (y:gG) => ∃ r q:Nat,y = ((r:Int),(q:Int))∧v_dgi y1 y0 Y ((u * 4294967296 + d1) % Y) d0 r q) (fun (y:gG) => y.2.toNat) (fun _ => .inr ((p0 * 18446744073709551616 + p1) / p2,(p0 * 18446744073709551616 + p1) % p2)) ?_ _ ⟨_,_,rfl,I0⟩ (by have := I0.hi; unfold fuel; simp only [Int.toNat_natCast]; omega)
 rintro ⟨r',q'⟩ ⟨r,q,e,I⟩
 cases e
 simp only [sp_Z2_1,st_Z2_1,fM,D.hs,D.hr,D.hY,D.hy1,D.hy0,D.hu,D.hd1,D.hd0,h3,hrest,v_dg_cond D.A2 I]
 refine ⟨⟨fun _ _ => (by omega),fun _ => (by omega),fun p hp => by cases hp⟩,?_⟩
 cases c:decide (((u * 4294967296 + d1) % Y * 4294967296 + d0) / Y < q)
 ·have c := of_decide_eq_false c
  obtain rfl:q = ((u * 4294967296 + d1) % Y * 4294967296 + d0) / Y := by have := I.lo; omega
  simp only [cond_false]
  rw [out]
 ·have c := of_decide_eq_true c
  have hq1:0 < q := Nat.lt_of_le_of_lt (Nat.zero_le _) c
  obtain ⟨n1,n2,n3,n4⟩ := v_dg_next D.A2 I c
  simp only [cond_true,n1,n2]
  cases d:decide (((r + y1:Nat):Int) ≥ 4294967296)
  ·have d := of_decide_eq_false d
   have hi := I.hi
   simp only [cond_false,and_true]
   exact ⟨⟨_,_,rfl,⟨n3,by omega,by omega,by omega⟩⟩,by simp only [Int.toNat_natCast]; omega⟩
  ·have d := of_decide_eq_true d
   simp only [cond_true]
   rw [n4 (by omega),out]
theorem d64_2a (r:Nat) (I:v_dgi y1 y0 Y u d1 r ((u * 4294967296 + d1) / Y)):(∀ p∈sp_Z2_2 p0 p1 p2 ((r:Int),(((u * 4294967296 + d1) / Y:Nat):Int)),p)∧st_Z2_2 p0 p1 p2 ((r:Int),(((u * 4294967296 + d1) / Y:Nat):Int)) = .inr ((p0 * 18446744073709551616 + p1) / p2,(p0 * 18446744073709551616 + p1) % p2) := by
 have hrest := v_dg_rest D.A.u D.Yl D.A.d
 have hRl:(u * 4294967296 + d1) % Y < 18446744073709551616 := by have := D.A2.u; have := D.Yl; omega
 obtain ⟨t1,t2⟩ := v_dg_start (y1 := y1) hRl
 have c:decide ((u * 4294967296 + d1) / Y < (u * 4294967296 + d1) / Y)=false := decide_eq_false (Nat.lt_irrefl _)
 have cc := v_dg_cond D.A I
 rw [c] at cc
 obtain ⟨l1,l2⟩ := d64_1 D hp ((r:Int),(((u * 4294967296 + d1) / Y:Nat):Int)) rfl
 have hy := d64_y1 D
 simp only [sp_Z2_2,st_Z2_2,fM,D.hs,D.hr,D.hY,D.hy1,D.hy0,D.hu,D.hd1,D.hd0,cc,hrest,t1,t2,l2,cond_false]
 exact ⟨⟨fun e => (by cases e),fun e => (by cases e),fun _ => hy,fun _ => l1,fun p hp => by cases hp⟩,trivial⟩
theorem d64_2b (r q:Nat) (I:v_dgi y1 y0 Y u d1 r q) (c2:(u * 4294967296 + d1) / Y < q) (d2:4294967296≤r + y1):(∀ p∈sp_Z2_2 p0 p1 p2 ((r:Int),(q:Int)),p)∧st_Z2_2 p0 p1 p2 ((r:Int),(q:Int)) = .inr ((p0 * 18446744073709551616 + p1) / p2,(p0 * 18446744073709551616 + p1) % p2) := by
 have hrest := v_dg_rest D.A.u D.Yl D.A.d
 have hRl:(u * 4294967296 + d1) % Y < 18446744073709551616 := by have := D.A2.u; have := D.Yl; omega
 obtain ⟨t1,t2⟩ := v_dg_start (y1 := y1) hRl
 obtain ⟨n1,n2,n3,n4⟩ := v_dg_next D.A I c2
 have cc := v_dg_cond D.A I
 rw [decide_eq_true c2] at cc
 have hq := n4 d2
 have dd:decide (((r + y1:Nat):Int) ≥ 4294967296)=true := decide_eq_true (by omega)
 have n2' : IntKind.u64.wrap ((q:Int) - 1)=(((u * 4294967296 + d1) / Y:Nat):Int) := by rw [n2,hq]
 obtain ⟨l1,l2⟩ := d64_0 D hp ((r:Int),(q:Int)) n2'
 have hy := d64_y1 D
 simp only [sp_Z2_2,st_Z2_2,fM,D.hs,D.hr,D.hY,D.hy1,D.hy0,D.hu,D.hd1,D.hd0,cc,n1,n2',dd,hrest,t1,t2,l2,cond_true]
 exact ⟨⟨fun _ _ => hy,fun _ _ => l1,fun e => (by cases e),fun e => (by cases e),fun p hp => by cases hp⟩,trivial⟩
omit hp in
theorem d64_2c (r q:Nat) (I:v_dgi y1 y0 Y u d1 r q) (c2:(u * 4294967296 + d1) / Y < q) (d2:r + y1 < 4294967296):(∀ p∈sp_Z2_2 p0 p1 p2 ((r:Int),(q:Int)),p)∧st_Z2_2 p0 p1 p2 ((r:Int),(q:Int)) = .inl (((r + y1:Nat):Int),((q - 1:Nat):Int)) := by
 obtain ⟨n1,n2,n3,n4⟩ := v_dg_next D.A I c2
 have cc := v_dg_cond D.A I
 rw [decide_eq_true c2] at cc
 have dd:decide (((r + y1:Nat):Int) ≥ 4294967296)=false := decide_eq_false (by omega)
 simp only [sp_Z2_2,st_Z2_2,fM,D.hs,D.hr,D.hY,D.hy1,D.hy0,D.hu,D.hd1,D.hd0,cc,n1,n2,dd,cond_true,cond_false]
 exact ⟨⟨fun _ e => (by cases e),fun _ e => (by cases e),fun e => (by cases e),fun e => (by cases e),fun p hp => by cases hp⟩,trivial⟩
theorem d64_2:OkL (st_Z2_2 p0 p1 p2) (sp_Z2_2 p0 p1 p2) (((u % y1:Nat):Int),((u / y1:Nat):Int))∧lpv (0,0) (st_Z2_2 p0 p1 p2) (((u % y1:Nat):Int),((u / y1:Nat):Int))=((p0 * 18446744073709551616 + p1) / p2,(p0 * 18446744073709551616 + p1) % p2) := by
 obtain ⟨i1,i2,i3,i4⟩ := v_dg_init D.A.y D.A.b1 D.A.b0 D.A.u D.A.d
 have a2 := d64_2a D hp
 have b2 := d64_2b D hp
 have e2 := d64_2c D
 refine @loop_is (Int×Int) (Int×Int) (0,0) (st_Z2_2 p0 p1 p2) (sp_Z2_2 p0 p1 p2) (fun (y:gG) => ∃ r q:Nat,y = ((r:Int),(q:Int))∧v_dgi y1 y0 Y u d1 r q) (fun (y:gG) => y.2.toNat) (fun _ => ((p0 * 18446744073709551616 + p1) / p2,(p0 * 18446744073709551616 + p1) % p2)) ?_ _ ⟨_,_,rfl,⟨i3,i4,i1,i2⟩⟩ (by unfold fuel; simp only [Int.toNat_natCast]; omega)
 rintro ⟨r',q'⟩ ⟨r,q,e,I⟩
 cases e
 rcases Nat.lt_or_ge ((u * 4294967296 + d1) / Y) q with c | c
 ·have hq1:0 < q := Nat.lt_of_le_of_lt (Nat.zero_le _) c
  obtain ⟨n1,n2,n3,n4⟩ := v_dg_next D.A I c
  rcases Nat.lt_or_ge (r + y1) 4294967296 with d | d
  ·obtain ⟨x1,x2⟩ := e2 r q I c d
   have hi := I.hi
   rw [x2]
   exact ⟨x1,⟨_,_,rfl,⟨n3,d,by omega,by omega⟩⟩,by simp only [Int.toNat_natCast]; omega,rfl⟩
  ·obtain ⟨x1,x2⟩ := b2 r q I c d
   rw [x2]
   exact ⟨x1,rfl⟩
 ·have hq:q = (u * 4294967296 + d1) / Y := Nat.le_antisymm c I.lo
  subst hq
  obtain ⟨x1,x2⟩ := a2 r I
  rw [x2]
  exact ⟨x1,rfl⟩
end
theorem u_or (a b:Nat) (ha:a < 18446744073709551616) (hb:b < 18446744073709551616):v_or .u64 (a:Int) (b:Int)=((a ||| b:Nat):Int) := by
 have e1:BitVec.ofInt 64 (a:Int)=BitVec.ofNat 64 a := BitVec.ofInt_natCast ..
 have e2:BitVec.ofInt 64 (b:Int)=BitVec.ofNat 64 b := BitVec.ofInt_natCast ..
 show IntKind.u64.wrap (((BitVec.ofInt 64 (a:Int) ||| BitVec.ofInt 64 (b:Int)).toNat:Nat):Int)=_
 rw [e1,e2,BitVec.toNat_or,BitVec.toNat_ofNat,BitVec.toNat_ofNat,Nat.mod_eq_of_lt (by simpa using ha),Nat.mod_eq_of_lt (by simpa using hb)]
 have:a ||| b < 2 ^ 64 := Nat.or_lt_two_pow (by simpa using ha) (by simpa using hb)
 rw [u_wrap (by omega) (by omega)]
theorem u_shlk (n k:Nat) (hk:k≤64):v_shl .u64 (n:Int) (k:Int)=((n * 2 ^ k % 18446744073709551616:Nat):Int) := by
 unfold v_shl
 rw [show min (Int.toNat (k:Int)) (IntKind.bits .u64)=k by rw [show IntKind.bits .u64 = 64 from rfl]; omega,u_wrap_mod,Int.natCast_emod,Int.natCast_mul,Int.natCast_pow]; rfl
theorem v_dv_nat {n m y A S T:Nat} (b1:A≤y) (b2:y < 2 * A) (hA:A * S = 9223372036854775808) (hT:T * S = 18446744073709551616) (hS:0 < S) (hT0:0 < T) (h1:n < y) (h2:m < 18446744073709551616):(9223372036854775808≤y * S∧y * S < 18446744073709551616)∧n * S + S≤y * S∧m / T < S∧m * S = m / T * 18446744073709551616 + m * S % 18446744073709551616 := by
 have a1 := Nat.mul_le_mul_right S b1
 have a2 := (Nat.mul_lt_mul_right hS).2 b2
 rw [Nat.mul_assoc] at a2
 have a3 := Nat.mul_le_mul_right S (show n + 1≤y by omega)
 rw [Nat.add_mul,Nat.one_mul] at a3
 have a4:m / T < S := by
  rw [Nat.div_lt_iff_lt_mul hT0,Nat.mul_comm]
  omega
 have a5 := Nat.div_add_mod (m * S) (T * S)
 rw [Nat.mul_div_mul_right _ _ hS,hT] at a5
 exact ⟨by omega,a3,a4,by omega⟩
theorem v_dv_e {ns mt ms l:Nat} (hl:ms = mt * 18446744073709551616 + l) (_h2:l < 18446744073709551616):((ns + mt) * 4294967296 + l / 4294967296) * 4294967296 + l % 4294967296 = ns * 18446744073709551616 + ms := by omega
theorem v_or_add {n r s:Nat} (h:r < 2 ^ s):n * 2 ^ s ||| r = n * 2 ^ s + r := by rw [Nat.mul_comm,Nat.two_pow_add_eq_or_of_lt h]
theorem v_add_mul3 (n m S L:Nat):(n * L + m) * S = n * S * L + m * S := by rw [Nat.add_mul,Nat.mul_right_comm]
theorem v_tn (n m:Nat):((n:Int) * 18446744073709551616 + (m:Int)).toNat = n * 18446744073709551616 + m := by omega
theorem v_dv_of {n m y:Nat} (h1:n < y) (h2:m < 18446744073709551616) (h3:y < 18446744073709551616):∃ s y1 y0 Y u d1 d0:Nat,v_dv (n:Int) (m:Int) (y:Int) s y1 y0 Y u d1 d0 := by
 obtain ⟨k,e,b1,b2⟩ := v_ln_bd (n := y) (by omega)
 have hk:k≤63 := by
  rcases Nat.lt_or_ge 63 k with g | g
  ·have := Nat.pow_le_pow_right (show 0 < 2 by decide) (show 64≤k from g)
   omega
  ·exact g
 obtain ⟨s,hs⟩ : ∃ s,s = 63 - k := ⟨_,rfl⟩
 have hpow:2 ^ k * 2 ^ s = 9223372036854775808 := by
  have:2 ^ k * 2 ^ s = 2 ^ 63 := by rw [← Nat.pow_add]; congr 1; omega
  rw [this]
 have hp3:2 ^ (64 - s) * 2 ^ s = 18446744073709551616 := by
  have:2 ^ (64 - s) * 2 ^ s = 2 ^ 64 := by rw [← Nat.pow_add]; congr 1; omega
  rw [this]
 have hsp := Nat.two_pow_pos s
 obtain ⟨⟨Y1,Y2⟩,N1,M1,hml⟩ := v_dv_nat (n := n) (m := m) (y := y) b1 (by rw [Nat.pow_succ] at b2; omega) hpow hp3 hsp (Nat.two_pow_pos _) h1 h2
 have L1:m * 2 ^ s % 18446744073709551616 < 18446744073709551616 := Nat.mod_lt _ (by decide)
 have hor := v_or_add (n := n) M1
 have eN := v_tn n m
 have ee := v_dv_e (ns := n * 2 ^ s) hml L1
 have eS := v_add_mul3 n m (2 ^ s) 18446744073709551616
 have f1 := u_shlk y s (by omega)
 have f2 := u_shlk n s (by omega)
 have f3 := u_shrk m (64 - s) (by omega)
 have f4 := u_shlk m s (by omega)
 have f5 := u_and _ Y2
 have f6 := u_shr (y * 2 ^ s)
 have f7 := u_and _ L1
 have f8 := u_shr (m * 2 ^ s % 18446744073709551616)
 rw [Nat.mod_eq_of_lt Y2] at f1
 clear hpow hp3 b1 b2
 generalize 2 ^ (64 - s)=T at *
 generalize hSS:2 ^ s = S at *
 have q1:n * S < 18446744073709551616 := by omega
 have q2:m / T < 18446744073709551616 := by omega
 have f9 := u_or (n * S) (m / T) q1 q2
 rw [Nat.mod_eq_of_lt q1] at f2
 refine ⟨s,y * S / 4294967296,y * S % 4294967296,y * S,n * S + m / T,m * S % 18446744073709551616 / 4294967296,m * S % 18446744073709551616 % 4294967296,?_⟩
 exact {
  hs := by rw [Int.toNat_natCast,e,u_wrap (by omega) (by omega)]; omega
  hr := by rw [u_wrap (by omega) (by omega)]; omega
  hY := f1
  hy1 := f6
  hy0 := f5
  hu := by rw [f2,f3,f9,hor]
  hd1 := by rw [f4]; exact f8
  hd0 := by rw [f4]; exact f7
  sle := by omega
  Yl := Y2
  A := ⟨by omega,by omega,by omega,by omega,by omega⟩
  bd0 := by omega
  e := by rw [eN,hSS,eS]; exact ee
  eY := by rw [Int.toNat_natCast,hSS] }
abbrev t_Z2 (p0:Int) (p1:Int) (p2:Int):Int×Int := ((p0 * 18446744073709551616 + p1) / p2,(p0 * 18446744073709551616 + p1) % p2)
abbrev qre_Z2 (p0:Int) (p1:Int) (p2:Int):List Prop := [0≤p0∧p0 < p2,0≤p1∧p1 < 18446744073709551616,p2 < 18446744073709551616]
theorem pp_Z2 (p0:Int) (p1:Int) (p2:Int) (hq:∀ p∈qre_Z2 p0 p1 p2,p):∀ p∈pre_Z2 p0 p1 p2,p := by
 obtain ⟨h1,h2,h3,_⟩ := conj_of hq
 obtain ⟨n,rfl⟩ : ∃ n:Nat,p0 = n := ⟨p0.toNat,by omega⟩
 obtain ⟨m,rfl⟩ : ∃ m:Nat,p1 = m := ⟨p1.toNat,by omega⟩
 obtain ⟨y,rfl⟩ : ∃ y:Nat,p2 = y := ⟨p2.toNat,by omega⟩
 obtain ⟨s,y1,y0,Y,u,d1,d0,D⟩ := v_dv_of (n := n) (m := m) (y := y) (by omega) (by omega) (by omega)
 have hul:u < 18446744073709551616 := by have := D.A.u; have := D.Yl; omega
 obtain ⟨t1,t2⟩ := v_dg_start (y1 := y1) hul
 obtain ⟨l1,l2⟩ := d64_2 D (by omega)
 have hb := D.A.b1
 have z1:((y:Int) == 0)=false := beq_eq_false_iff_ne.2 (by omega)
 have z2:decide ((y:Int)≤(n:Int))=false := decide_eq_false (by omega)
 simp only [pre_Z2,fM,z1,z2,D.hs,D.hr,D.hY,D.hy1,D.hu,t1,t2]
 exact ⟨fun e => (by cases e),fun _ e => (by cases e),fun _ _ _ => (by omega),fun _ _ _ => (by omega),fun _ _ _ => (by omega),fun _ _ _ => (by omega),fun _ _ _ => (by omega),fun _ _ _ => l1,by simp⟩
theorem tt_Z2 (p0:Int) (p1:Int) (p2:Int) (hq:∀ p∈qre_Z2 p0 p1 p2,p):s_Z2 p0 p1 p2 = t_Z2 p0 p1 p2 := by
 obtain ⟨h1,h2,h3,_⟩ := conj_of hq
 obtain ⟨n,rfl⟩ : ∃ n:Nat,p0 = n := ⟨p0.toNat,by omega⟩
 obtain ⟨m,rfl⟩ : ∃ m:Nat,p1 = m := ⟨p1.toNat,by omega⟩
 obtain ⟨y,rfl⟩ : ∃ y:Nat,p2 = y := ⟨p2.toNat,by omega⟩
 obtain ⟨s,y1,y0,Y,u,d1,d0,D⟩ := v_dv_of (n := n) (m := m) (y := y) (by omega) (by omega) (by omega)
 have hul:u < 18446744073709551616 := by have := D.A.u; have := D.Yl; omega
 obtain ⟨t1,t2⟩ := v_dg_start (y1 := y1) hul
 obtain ⟨l1,l2⟩ := d64_2 D (by omega)
 have hb := D.A.b1
 have z1:((y:Int) == 0)=false := beq_eq_false_iff_ne.2 (by omega)
 have z2:decide ((y:Int)≤(n:Int))=false := decide_eq_false (by omega)
 unfold s_Z2 t_Z2
 simp only [z1,z2,D.hs,D.hr,D.hY,D.hy1,D.hu,t1,t2,l2,cond_false]
 rcases int0 (n:Int) with ⟨w1,_,w2⟩ | ⟨w1,_,w2⟩ <;> rw [w2]
 ·obtain rfl:n = 0 := by omega
  have b := Nat.div_le_self m y
  rw [cond_true,← Int.ofNat_tdiv,u_wrap (n := ((m / y:Nat):Int)) (Int.natCast_nonneg _) (by omega),← Int.ofNat_tmod]
  simp
 ·rfl

abbrev con_Z2:Con := ⟨P_Z2,R_Z2,fun x => qre_Z2 x.1 x.2.1 x.2.2,fun x => t_Z2 x.1 x.2.1 x.2.2⟩
theorem ok_Z2:ConOk Try.prog 78 con_Z2 := okG k_Z2 e_Z2 hC_Z2 fun x hx => tf_of (w_Z2_eq x.1 x.2.1 x.2.2 _) (d_Z2 x.1 x.2.1 x.2.2 _ (pp_Z2 x.1 x.2.1 x.2.2 hx) (tt_Z2 x.1 x.2.1 x.2.2 hx))
def C_Zk:Cons := []
theorem hC_Zk:ConsOk Try.prog C_Zk := ConsOk.nil
def w_Zk (p0:gG) (K:(Int×Int)→Prop):Prop := ((zz0≤(v_bnot .u64 p0.2)) ∧((zz0≤1) ∧((zz0≤0) ∧((zz0≤1) ∧(K ((IntKind.wrap .u64 ((v_bnot .u64 p0.1) + ((((v_bnot .u64 p0.2) + 1) + 0) / (18446744073709551616:Int)))),((((v_bnot .u64 p0.2) + 1) + 0) % (18446744073709551616:Int))))))))
theorem w_Zk_eq (p0:gG) (K:(Int×Int)→Prop):tfn F_Zk A_Zk C_Zk P_Zk R_Zk p0 K = w_Zk p0 K := by kernel_rfl
def s_Zk (p0:gG):(Int×Int) := ((IntKind.wrap .u64 ((v_bnot .u64 p0.1) + ((((v_bnot .u64 p0.2) + 1) + 0) / (18446744073709551616:Int)))),((((v_bnot .u64 p0.2) + 1) + 0) % (18446744073709551616:Int)))
abbrev pre_Zk (p0:gG):List Prop := [((0:Int)≤(v_bnot .u64 p0.2))]
theorem d_Zk (p0:gG) (K:(Int×Int)→Prop) (hp:∀ p∈pre_Zk p0,p) (h:K (s_Zk p0)):w_Zk p0 K := by
 unfold w_Zk
 unfold s_Zk at h
 obtain ⟨hp0,_⟩ := conj_of hp
 exact ⟨(hp0),(od rfl),(od rfl),(od rfl),h⟩
/-- Numbers modulo 2^128 as pairs of words. -/
def v_w (n:Int):Int×Int := (n / 18446744073709551616 % 18446744073709551616,n % 18446744073709551616)
def v_wv (p:gG):Int := p.1 * 18446744073709551616 + p.2
structure v_wu (p:gG):Prop where
 h:0≤p.1∧p.1 < 18446744073709551616
 l:0≤p.2∧p.2 < 18446744073709551616
theorem v_w_u (n:Int):v_wu (v_w n) := ⟨by unfold v_w; simp only; omega,by unfold v_w; simp only; omega⟩
theorem v_w_v (n:Int):v_wv (v_w n)=n % 340282366920938463463374607431768211456 := by unfold v_wv v_w; simp only; omega
theorem v_w_eq {m n:Int} (h:m % 340282366920938463463374607431768211456 = n % 340282366920938463463374607431768211456):v_w m = v_w n := by
 unfold v_w
 rw [pJ]
 omega
theorem v_w_of {p:Int×Int} (h:v_wu p):v_w (v_wv p)=p := by
 have a := h.h
 have b := h.l
 unfold v_w v_wv
 exact Prod.ext (by simp only; omega) (by simp only; omega)
theorem u_bnot {a:Int} (h:0≤a∧a < 18446744073709551616):v_bnot .u64 a = 18446744073709551615 - a := by
 obtain ⟨n,rfl⟩ : ∃ n:Nat,a = n := ⟨a.toNat,by omega⟩
 have e1:BitVec.ofInt 64 (n:Int)=BitVec.ofNat 64 n := BitVec.ofInt_natCast ..
 have e2:BitVec.ofInt 64 18446744073709551615 = BitVec.allOnes 64 := by decide
 show IntKind.u64.wrap (((BitVec.ofInt 64 18446744073709551615 ^^^ BitVec.ofInt 64 (n:Int)).toNat:Nat):Int)=_
 have hn:n < 2 ^ 64 := by omega
 rw [e1,e2,BitVec.allOnes_xor,BitVec.toNat_not,BitVec.toNat_ofNat,Nat.mod_eq_of_lt hn]
 rw [u_wrap (by omega) (by omega)]
 omega
abbrev t_Zk (p0:gG):Int×Int := v_w (-(v_wv p0))
abbrev qre_Zk (p0:gG):List Prop := [v_wu p0]
theorem pp_Zk (p0:gG) (hq:∀ p∈qre_Zk p0,p):∀ p∈pre_Zk p0,p := by
 obtain ⟨h1,_⟩ := conj_of hq
 have a := h1.l
 simp only [pre_Zk,fM,u_bnot h1.l]
 exact ⟨by omega,by simp⟩
theorem tt_Zk (p0:gG) (hq:∀ p∈qre_Zk p0,p):s_Zk p0 = t_Zk p0 := by
 obtain ⟨h1,_⟩ := conj_of hq
 have a := h1.l
 have b := h1.h
 unfold s_Zk t_Zk v_w v_wv
 rw [u_bnot h1.l,u_bnot h1.h,u_wrap_mod]
 exact Prod.ext (by simp only; omega) (by simp only; omega)

abbrev con_Zk:Con := ⟨P_Zk,R_Zk,fun x => qre_Zk x,fun x => t_Zk x⟩
theorem ok_Zk:ConOk Try.prog 115 con_Zk := okG k_Zk e_Zk hC_Zk fun x hx => tf_of (w_Zk_eq x _) (d_Zk x _ (pp_Zk x hx) (tt_Zk x hx))
def C_Zq:Cons := [(78,[],con_Z2)]
theorem hC_Zq:ConsOk Try.prog C_Zq := cC ok_Z2 <| ConsOk.nil
def w_Zq (p0:gG) (p1:Int) (K:(Int×Bool)→Prop):Prop := ((((decide (p0.1 ≥ p1))=true) →(K (zz0,false))) ∧(((decide (p0.1 ≥ p1))=false) →(((zz0≤p0.1) ∧(p0.1 < p1)) ∧(((zz0≤p0.2) ∧(p0.2 < 18446744073709551616)) ∧((p1 < 18446744073709551616) ∧(K ((((p0.1 * 18446744073709551616) + p0.2) / p1),(decide ((((p0.1 * 18446744073709551616) + p0.2) / p1)≤1000000000)))))))))
theorem w_Zq_eq (p0:gG) (p1:Int) (K:(Int×Bool)→Prop):tfn F_Zq A_Zq C_Zq P_Zq R_Zq (p0,p1) K = w_Zq p0 p1 K := by kernel_rfl
def s_Zq (p0:gG) (p1:Int):(Int×Bool) := (cond (decide (p0.1 ≥ p1)) ((0:Int),false) ((((p0.1 * 18446744073709551616) + p0.2) / p1),(decide ((((p0.1 * 18446744073709551616) + p0.2) / p1)≤1000000000))))
abbrev pre_Zq (p0:gG) (p1:Int):List Prop := [(((decide (p0.1 ≥ p1))=false)→(((0:Int)≤p0.1)∧(p0.1 < p1))),(((decide (p0.1 ≥ p1))=false)→(((0:Int)≤p0.2)∧(p0.2 < 18446744073709551616))),(((decide (p0.1 ≥ p1))=false)→(p1 < 18446744073709551616))]
theorem d_Zq (p0:gG) (p1:Int) (K:(Int×Bool)→Prop) (hp:∀ p∈pre_Zq p0 p1,p) (h:K (s_Zq p0 p1)):w_Zq p0 p1 K := by
 unfold w_Zq
 unfold s_Zq at h
 obtain ⟨hp0,hp1,hp2,_⟩ := conj_of hp
 exact (br' h (fun e0 h => h)
  (fun e0 h => ⟨(hp0 e0),(hp1 e0),(hp2 e0),h⟩))
/-- The quotient of a wide number,and whether it is small. -/
def v_over (p:gG) (g:Int):Int×Bool := cond (decide (p.1 ≥ g)) (0,false) (v_wv p / g,decide (v_wv p / g≤1000000000))
theorem v_over_of {n g:Int} (h1:0≤n) (h2:n < 340282366920938463463374607431768211456) (hg:0 < g):(v_over (v_w n) g).2 = decide (n / g≤1000000000)∧(n / g≤1000000000→(v_over (v_w n) g).1 = n / g) := by
 have e:v_wv (v_w n)=n := by rw [v_w_v]; omega
 unfold v_over
 rw [e]
 by_cases c:(v_w n).1 ≥ g
 ·have hb:¬ n / g≤1000000000 := by
   intro h
   have a:n < (1000000000 + 1) * g := Int.lt_mul_of_ediv_lt hg (by omega)
   unfold v_w at c
   simp only at c
   omega
  rw [decide_eq_true c,decide_eq_false hb]
  exact ⟨rfl,fun h => absurd h hb⟩
 ·rw [decide_eq_false c]
  exact ⟨rfl,fun _ => rfl⟩
abbrev t_Zq (p0:gG) (p1:Int):Int×Bool := v_over p0 p1
abbrev qre_Zq (p0:gG) (p1:Int):List Prop := [v_wu p0,0 < p1∧p1 < 18446744073709551616]
theorem pp_Zq (p0:gG) (p1:Int) (hq:∀ p∈qre_Zq p0 p1,p):∀ p∈pre_Zq p0 p1,p := by
 obtain ⟨h1,h2,_⟩ := conj_of hq
 have a := h1.h
 have b := h1.l
 simp only [pre_Zq,fM]
 and_intros
 all_goals first
  | (intro p hp; cases hp; done)
  | (intro e; have := of_decide_eq_false e; omega)
  | (intros; omega)
theorem tt_Zq (p0:gG) (p1:Int) (_hq:∀ p∈qre_Zq p0 p1,p):s_Zq p0 p1 = t_Zq p0 p1 := by
 unfold s_Zq t_Zq v_over v_wv
 rfl

abbrev con_Zq:Con := ⟨P_Zq,R_Zq,fun x => qre_Zq x.1 x.2,fun x => t_Zq x.1 x.2⟩
theorem ok_Zq:ConOk Try.prog 80 con_Zq := okG k_Zq e_Zq hC_Zq fun x hx => tf_of (w_Zq_eq x.1 x.2 _) (d_Zq x.1 x.2 _ (pp_Zq x.1 x.2 hx) (tt_Zq x.1 x.2 hx))
def C_Zp:Cons := [(115,[],con_Zk)]
theorem hC_Zp:ConsOk Try.prog C_Zp := cC ok_Zk <| ConsOk.nil
def w_Zp (p0:gG) (K:(Bool×(Int×Int))→Prop):Prop := (((((v_shr .u64 p0.1 (63:Int)) == 1)=true) →((v_wu p0) ∧(K (true,(v_w (-(v_wv p0))))))) ∧((((v_shr .u64 p0.1 (63:Int)) == 1)=false) →(K (false,p0))))
theorem w_Zp_eq (p0:gG) (K:(Bool×(Int×Int))→Prop):tfn F_Zp A_Zp C_Zp P_Zp R_Zp p0 K = w_Zp p0 K := by kernel_rfl
def s_Zp (p0:gG):(Bool×(Int×Int)) := (cond ((v_shr .u64 p0.1 (63:Int)) == 1) (true,(v_w (-(v_wv p0)))) (false,p0))
abbrev pre_Zp (p0:gG):List Prop := [((((v_shr .u64 p0.1 (63:Int)) == 1)=true)→(v_wu p0))]
theorem d_Zp (p0:gG) (K:(Bool×(Int×Int))→Prop) (hp:∀ p∈pre_Zp p0,p) (h:K (s_Zp p0)):w_Zp p0 K := by
 unfold w_Zp
 unfold s_Zp at h
 obtain ⟨hp0,_⟩ := conj_of hp
 exact (br' h (fun e0 h => ⟨(hp0 e0),h⟩)
  (fun e0 h => h))
/-- The sign and the size of a wide number. -/
def v_split (p:gG):Bool×(Int×Int) := cond (decide (9223372036854775808≤p.1)) (true,v_w (-(v_wv p))) (false,p)
theorem v_split_of {n:Int} (h1 : -170141183460469231731687303715884105728 < n) (h2:n < 170141183460469231731687303715884105728):v_split (v_w n)=(decide (n < 0),v_w (max n (-n))) := by
 unfold v_split
 by_cases c:n < 0
 ·have e:decide (9223372036854775808≤(v_w n).1)=true := decide_eq_true (by unfold v_w; simp only; omega)
  rw [e,decide_eq_true c,cond_true,v_w_v,show max n (-n) = -n by omega]
  rw [v_w_eq (m := -(n % 340282366920938463463374607431768211456)) (n := -n) (by omega)]
 ·have e:decide (9223372036854775808≤(v_w n).1)=false := decide_eq_false (by unfold v_w; simp only; omega)
  rw [e,decide_eq_false c,cond_false,show max n (-n)=n by omega]
theorem v_split_u {p:Int×Int} (h:v_wu p):v_wu (v_split p).2 := by
 unfold v_split
 cases decide (9223372036854775808≤p.1)
 ·exact h
 ·exact v_w_u _
abbrev t_Zp (p0:gG):Bool×(Int×Int) := v_split p0
abbrev qre_Zp (p0:gG):List Prop := [v_wu p0]
theorem pp_Zp (p0:gG) (hq:∀ p∈qre_Zp p0,p):∀ p∈pre_Zp p0,p := by
 obtain ⟨h1,_⟩ := conj_of hq
 simp only [pre_Zp,fM]
 exact ⟨fun _ => h1,by simp⟩
theorem tt_Zp (p0:gG) (hq:∀ p∈qre_Zp p0,p):s_Zp p0 = t_Zp p0 := by
 obtain ⟨h1,_⟩ := conj_of hq
 have a := h1.h
 obtain ⟨n,hn⟩ : ∃ n:Nat,p0.1 = n := ⟨p0.1.toNat,by omega⟩
 have e := u_shrk n 63 (by decide)
 rw [show ((63:Nat):Int)=63 from rfl] at e
 unfold s_Zp t_Zp v_split
 rw [hn,e]
 have:(((n / 2 ^ 63:Nat):Int) == 1)=decide (9223372036854775808≤(n:Int)) := by
  rw [Bool.eq_iff_iff,beq_iff_eq,decide_eq_true_eq]; omega
 rw [this]

abbrev con_Zp:Con := ⟨P_Zp,R_Zp,fun x => qre_Zp x,fun x => t_Zp x⟩
theorem ok_Zp:ConOk Try.prog 77 con_Zp := okG k_Zp e_Zp hC_Zp fun x hx => tf_of (w_Zp_eq x _) (d_Zp x _ (pp_Zp x hx) (tt_Zp x hx))
def C_Zm:Cons := []
theorem hC_Zm:ConsOk Try.prog C_Zm := ConsOk.nil
def w_Zm (p0:gG) (p1:gG) (K:(Int×Int)→Prop):Prop := ((zz0≤p0.2) ∧((zz0≤p1.2) ∧((zz0≤0) ∧((zz0≤1) ∧((zz0≤p0.1) ∧((zz0≤p1.1) ∧((zz0≤(((p0.2 + p1.2) + 0) / (18446744073709551616:Int))) ∧(((((p0.2 + p1.2) + 0) / (18446744073709551616:Int))≤1) ∧(K ((((p0.1 + p1.1) + (((p0.2 + p1.2) + 0) / (18446744073709551616:Int))) % (18446744073709551616:Int)),(((p0.2 + p1.2) + 0) % (18446744073709551616:Int))))))))))))
theorem w_Zm_eq (p0:gG) (p1:gG) (K:(Int×Int)→Prop):tfn F_Zm A_Zm C_Zm P_Zm R_Zm (p0,p1) K = w_Zm p0 p1 K := by kernel_rfl
def s_Zm (p0:gG) (p1:gG):(Int×Int) := ((((p0.1 + p1.1) + (((p0.2 + p1.2) + 0) / (18446744073709551616:Int))) % (18446744073709551616:Int)),(((p0.2 + p1.2) + 0) % (18446744073709551616:Int)))
abbrev pre_Zm (p0:gG) (p1:gG):List Prop := [((0:Int)≤p0.2),((0:Int)≤p1.2),((0:Int)≤p0.1),((0:Int)≤p1.1),((0:Int)≤(((p0.2 + p1.2) + 0) / (18446744073709551616:Int))),((((p0.2 + p1.2) + 0) / (18446744073709551616:Int))≤1)]
theorem d_Zm (p0:gG) (p1:gG) (K:(Int×Int)→Prop) (hp:∀ p∈pre_Zm p0 p1,p) (h:K (s_Zm p0 p1)):w_Zm p0 p1 K := by
 unfold w_Zm
 unfold s_Zm at h
 obtain ⟨hp0,hp1,hp2,hp3,hp4,hp5,_⟩ := conj_of hp
 exact ⟨(hp0),(hp1),(od rfl),(od rfl),(hp2),(hp3),(hp4),(hp5),h⟩
abbrev t_Zm (p0:gG) (p1:gG):Int×Int := v_w (v_wv p0 + v_wv p1)
abbrev qre_Zm (p0:gG) (p1:gG):List Prop := [v_wu p0,v_wu p1]
theorem pp_Zm (p0:gG) (p1:gG) (hq:∀ p∈qre_Zm p0 p1,p):∀ p∈pre_Zm p0 p1,p := by
 obtain ⟨h1,h2,_⟩ := conj_of hq
 have a := h1.l
 have b := h1.h
 have c := h2.l
 have d := h2.h
 simp only [pre_Zm,fM]
 exact ⟨by omega,by omega,by omega,by omega,by omega,by omega,by simp⟩
theorem tt_Zm (p0:gG) (p1:gG) (hq:∀ p∈qre_Zm p0 p1,p):s_Zm p0 p1 = t_Zm p0 p1 := by
 obtain ⟨h1,h2,_⟩ := conj_of hq
 have a := h1.l
 have b := h1.h
 have c := h2.l
 have d := h2.h
 unfold s_Zm t_Zm v_w v_wv
 exact Prod.ext (by simp only; omega) (by simp only; omega)

abbrev con_Zm:Con := ⟨P_Zm,R_Zm,fun x => qre_Zm x.1 x.2,fun x => t_Zm x.1 x.2⟩
theorem ok_Zm:ConOk Try.prog 113 con_Zm := okG k_Zm e_Zm hC_Zm fun x hx => tf_of (w_Zm_eq x.1 x.2 _) (d_Zm x.1 x.2 _ (pp_Zm x.1 x.2 hx) (tt_Zm x.1 x.2 hx))
def C_Zn:Cons := []
theorem hC_Zn:ConsOk Try.prog C_Zn := ConsOk.nil
def w_Zn (p0:Int) (K:Int→Prop):Prop := (K (IntKind.wrap .u64 (max p0 (IntKind.i64.wrap (zz0 - p0)))))
theorem w_Zn_eq (p0:Int) (K:Int→Prop):tfn F_Zn A_Zn C_Zn P_Zn R_Zn p0 K = w_Zn p0 K := by kernel_rfl
def s_Zn (p0:Int):Int := (IntKind.wrap .u64 (max p0 (IntKind.i64.wrap ((0:Int) - p0))))
abbrev pre_Zn (_p0:Int):List Prop := []
theorem d_Zn (p0:Int) (K:Int→Prop) (_hp:∀ p∈pre_Zn p0,p) (h:K (s_Zn p0)):w_Zn p0 K := by
 unfold w_Zn
 unfold s_Zn at h
 exact h
abbrev t_Zn (p0:Int):Int := max p0 (-p0)
abbrev qre_Zn (p0:Int):List Prop := [-9223372036854775808 < p0∧p0≤9223372036854775807]
theorem pp_Zn (p0:Int) (_hq:∀ p∈qre_Zn p0,p):∀ p∈pre_Zn p0,p := by
 intro p hp; simp at hp
theorem tt_Zn (p0:Int) (hq:∀ p∈qre_Zn p0,p):s_Zn p0 = t_Zn p0 := by
 obtain ⟨h1,_⟩ := conj_of hq
 unfold s_Zn t_Zn
 rw [wrap_id (n := 0 - p0) (by omega) (by omega),u_wrap (by omega) (by omega)]
 omega

abbrev con_Zn:Con := ⟨P_Zn,R_Zn,fun x => qre_Zn x,fun x => t_Zn x⟩
theorem ok_Zn:ConOk Try.prog 130 con_Zn := okG k_Zn e_Zn hC_Zn fun x hx => tf_of (w_Zn_eq x _) (d_Zn x _ (pp_Zn x hx) (tt_Zn x hx))
def C_Zt:Cons := []
theorem hC_Zt:ConsOk Try.prog C_Zt := ConsOk.nil
def w_Zt (p0:Int) (p1:Int) (K:(Int×Int)→Prop):Prop := (K ((IntKind.wrap .u64 ((IntKind.wrap .u64 ((IntKind.wrap .u64 ((v_shr .u64 p0 (32:Int)) * (v_shr .u64 p1 (32:Int)))) + (v_shr .u64 (IntKind.wrap .u64 ((IntKind.wrap .u64 ((v_shr .u64 p0 (32:Int)) * (v_and .u64 p1 (4294967295:Int)))) + (v_shr .u64 (IntKind.wrap .u64 ((v_and .u64 p0 (4294967295:Int)) * (v_and .u64 p1 (4294967295:Int)))) (32:Int)))) (32:Int)))) + (v_shr .u64 (IntKind.wrap .u64 ((v_and .u64 (IntKind.wrap .u64 ((IntKind.wrap .u64 ((v_shr .u64 p0 (32:Int)) * (v_and .u64 p1 (4294967295:Int)))) + (v_shr .u64 (IntKind.wrap .u64 ((v_and .u64 p0 (4294967295:Int)) * (v_and .u64 p1 (4294967295:Int)))) (32:Int)))) (4294967295:Int)) + (IntKind.wrap .u64 ((v_and .u64 p0 (4294967295:Int)) * (v_shr .u64 p1 (32:Int)))))) (32:Int)))),(IntKind.wrap .u64 (p0 * p1))))
theorem w_Zt_eq (p0:Int) (p1:Int) (K:(Int×Int)→Prop):tfn F_Zt A_Zt C_Zt P_Zt R_Zt (p0,p1) K = w_Zt p0 p1 K := by kernel_rfl
def s_Zt (p0:Int) (p1:Int):(Int×Int) := ((IntKind.wrap .u64 ((IntKind.wrap .u64 ((IntKind.wrap .u64 ((v_shr .u64 p0 (32:Int)) * (v_shr .u64 p1 (32:Int)))) + (v_shr .u64 (IntKind.wrap .u64 ((IntKind.wrap .u64 ((v_shr .u64 p0 (32:Int)) * (v_and .u64 p1 (4294967295:Int)))) + (v_shr .u64 (IntKind.wrap .u64 ((v_and .u64 p0 (4294967295:Int)) * (v_and .u64 p1 (4294967295:Int)))) (32:Int)))) (32:Int)))) + (v_shr .u64 (IntKind.wrap .u64 ((v_and .u64 (IntKind.wrap .u64 ((IntKind.wrap .u64 ((v_shr .u64 p0 (32:Int)) * (v_and .u64 p1 (4294967295:Int)))) + (v_shr .u64 (IntKind.wrap .u64 ((v_and .u64 p0 (4294967295:Int)) * (v_and .u64 p1 (4294967295:Int)))) (32:Int)))) (4294967295:Int)) + (IntKind.wrap .u64 ((v_and .u64 p0 (4294967295:Int)) * (v_shr .u64 p1 (32:Int)))))) (32:Int)))),(IntKind.wrap .u64 (p0 * p1)))
abbrev pre_Zt (_p0:Int) (_p1:Int):List Prop := []
theorem d_Zt (p0:Int) (p1:Int) (K:(Int×Int)→Prop) (_hp:∀ p∈pre_Zt p0 p1,p) (h:K (s_Zt p0 p1)):w_Zt p0 p1 K := by
 unfold w_Zt
 unfold s_Zt at h
 exact h
abbrev t_Zt (p0 p1:Int):Int×Int := (p0 * p1 / 18446744073709551616,p0 * p1 % 18446744073709551616)
abbrev qre_Zt (p0 p1:Int):List Prop := [0≤p0∧p0 < 18446744073709551616,0≤p1∧p1 < 18446744073709551616]
theorem pp_Zt (p0 p1:Int) (_hq:∀ p∈qre_Zt p0 p1,p):∀ p∈pre_Zt p0 p1,p := by
 intro p hp; simp at hp
theorem tt_Zt (p0 p1:Int) (hq:∀ p∈qre_Zt p0 p1,p):s_Zt p0 p1 = t_Zt p0 p1 := by
 obtain ⟨h0,h1,_⟩ := conj_of hq
 obtain ⟨x,rfl⟩ : ∃ x:Nat,p0 = x := ⟨p0.toNat,by omega⟩
 obtain ⟨y,rfl⟩ : ∃ y:Nat,p1 = y := ⟨p1.toNat,by omega⟩
 obtain ⟨e1,e2⟩ := u_mul64 x y (by omega) (by omega)
 exact Prod.ext e1 e2

abbrev con_Zt:Con := ⟨P_Zt,R_Zt,fun x => qre_Zt x.1 x.2,fun x => t_Zt x.1 x.2⟩
theorem ok_Zt:ConOk Try.prog 129 con_Zt := okG k_Zt e_Zt hC_Zt fun x hx => tf_of (w_Zt_eq x.1 x.2 _) (d_Zt x.1 x.2 _ (pp_Zt x.1 x.2 hx) (tt_Zt x.1 x.2 hx))
def C_Zl:Cons := [(130,[],con_Zn),(129,[],con_Zt),(115,[],con_Zk)]
theorem hC_Zl:ConsOk Try.prog C_Zl := cC ok_Zn <| cC ok_Zt <| cC ok_Zk <| ConsOk.nil
def w_Zl (p0:Int) (p1:Int) (K:(Int×Int)→Prop):Prop := ((((-9223372036854775808:Int) < p0) ∧(p0≤9223372036854775807)) ∧((((-9223372036854775808:Int) < p1) ∧(p1≤9223372036854775807)) ∧(((zz0≤(max p0 (-p0))) ∧((max p0 (-p0)) < 18446744073709551616)) ∧(((zz0≤(max p1 (-p1))) ∧((max p1 (-p1)) < 18446744073709551616)) ∧((((!((decide (p0 < 0)) == (decide (p1 < 0))))=true) →((v_wu ((((max p0 (-p0)) * (max p1 (-p1))) / (18446744073709551616:Int)),(((max p0 (-p0)) * (max p1 (-p1))) % (18446744073709551616:Int)))) ∧(K (v_w (-(v_wv ((((max p0 (-p0)) * (max p1 (-p1))) / (18446744073709551616:Int)),(((max p0 (-p0)) * (max p1 (-p1))) % (18446744073709551616:Int))))))))) ∧(((!((decide (p0 < 0)) == (decide (p1 < 0))))=false) →(K ((((max p0 (-p0)) * (max p1 (-p1))) / (18446744073709551616:Int)),(((max p0 (-p0)) * (max p1 (-p1))) % (18446744073709551616:Int))))))))))
theorem w_Zl_eq (p0:Int) (p1:Int) (K:(Int×Int)→Prop):tfn F_Zl A_Zl C_Zl P_Zl R_Zl (p0,p1) K = w_Zl p0 p1 K := by kernel_rfl
def s_Zl (p0:Int) (p1:Int):(Int×Int) := (cond (!((decide (p0 < 0)) == (decide (p1 < 0)))) (v_w (-(v_wv ((((max p0 (-p0)) * (max p1 (-p1))) / (18446744073709551616:Int)),(((max p0 (-p0)) * (max p1 (-p1))) % (18446744073709551616:Int)))))) ((((max p0 (-p0)) * (max p1 (-p1))) / (18446744073709551616:Int)),(((max p0 (-p0)) * (max p1 (-p1))) % (18446744073709551616:Int))))
abbrev pre_Zl (p0:Int) (p1:Int):List Prop := [(((-9223372036854775808:Int) < p0)∧(p0≤9223372036854775807)),(((-9223372036854775808:Int) < p1)∧(p1≤9223372036854775807)),(((0:Int)≤(max p0 (-p0)))∧((max p0 (-p0)) < 18446744073709551616)),(((0:Int)≤(max p1 (-p1)))∧((max p1 (-p1)) < 18446744073709551616)),(((!((decide (p0 < 0)) == (decide (p1 < 0))))=true)→(v_wu ((((max p0 (-p0)) * (max p1 (-p1))) / (18446744073709551616:Int)),(((max p0 (-p0)) * (max p1 (-p1))) % (18446744073709551616:Int)))))]
theorem d_Zl (p0:Int) (p1:Int) (K:(Int×Int)→Prop) (hp:∀ p∈pre_Zl p0 p1,p) (h:K (s_Zl p0 p1)):w_Zl p0 p1 K := by
 unfold w_Zl
 unfold s_Zl at h
 obtain ⟨hp0,hp1,hp2,hp3,hp4,_⟩ := conj_of hp
 exact ⟨(hp0),(hp1),(hp2),(hp3),(br' h (fun e0 h => ⟨(hp4 e0),h⟩)
  (fun e0 h => h))⟩
theorem v_tm {a b:Int} (h1 : -9223372036854775808 < a∧a≤9223372036854775807) (h2 : -9223372036854775808 < b∧b≤9223372036854775807):v_wu (max a (-a) * max b (-b) / 18446744073709551616,max a (-a) * max b (-b) % 18446744073709551616)∧0≤max a (-a) * max b (-b)∧max a (-a) * max b (-b) < 340282366920938463463374607431768211456 := by
 have m := mul_in (x := max a (-a)) (a := 9223372036854775807) (y := max b (-b)) (b := 9223372036854775807) (by omega) (by omega) (by omega) (by omega)
 generalize max a (-a) * max b (-b)=t at *
 exact ⟨⟨by simp only; omega,by simp only; omega⟩,by omega,by omega⟩
abbrev t_Zl (p0:Int) (p1:Int):Int×Int := v_w (p0 * p1)
abbrev qre_Zl (p0:Int) (p1:Int):List Prop := [-9223372036854775808 < p0∧p0≤9223372036854775807,-9223372036854775808 < p1∧p1≤9223372036854775807]
theorem pp_Zl (p0:Int) (p1:Int) (hq:∀ p∈qre_Zl p0 p1,p):∀ p∈pre_Zl p0 p1,p := by
 obtain ⟨h1,h2,_⟩ := conj_of hq
 have g := v_tm h1 h2
 simp only [pre_Zl,fM]
 and_intros
 all_goals first
  | (intro p hp; cases hp; done)
  | exact h1
  | exact h2
  | (intros; exact h1)
  | (intros; exact h2)
  | omega
  | (intros; omega)
  | (intros; exact g.1)
theorem tt_Zl (p0:Int) (p1:Int) (hq:∀ p∈qre_Zl p0 p1,p):s_Zl p0 p1 = t_Zl p0 p1 := by
 obtain ⟨h1,h2,_⟩ := conj_of hq
 obtain ⟨g1,g2⟩ := v_tm h1 h2
 unfold s_Zl t_Zl
 have e0:(max p0 (-p0) * max p1 (-p1) / 18446744073709551616,max p0 (-p0) * max p1 (-p1) % 18446744073709551616)=v_w (max p0 (-p0) * max p1 (-p1)) := by
  unfold v_w
  exact Prod.ext (by simp only; omega) rfl
 rw [e0]
 rcases Int.lt_or_le p0 0 with a | a <;> rcases Int.lt_or_le p1 0 with b | b
 ·rw [decide_eq_true a,decide_eq_true b,show max p0 (-p0) = -p0 by omega,show max p1 (-p1) = -p1 by omega,Int.neg_mul_neg]; rfl
 ·rw [decide_eq_true a,decide_eq_false (show ¬ p1 < 0 by omega),show max p0 (-p0) = -p0 by omega,show max p1 (-p1)=p1 by omega]
  show v_w (-(v_wv (v_w (-p0 * p1))))=_
  rw [v_w_v,Int.neg_mul]
  exact v_w_eq (by omega)
 ·rw [decide_eq_false (show ¬ p0 < 0 by omega),decide_eq_true b,show max p0 (-p0)=p0 by omega,show max p1 (-p1) = -p1 by omega]
  show v_w (-(v_wv (v_w (p0 * -p1))))=_
  rw [v_w_v,Int.mul_neg]
  exact v_w_eq (by omega)
 ·rw [decide_eq_false (show ¬ p0 < 0 by omega),decide_eq_false (show ¬ p1 < 0 by omega),show max p0 (-p0)=p0 by omega,show max p1 (-p1)=p1 by omega]; rfl

abbrev con_Zl:Con := ⟨P_Zl,R_Zl,fun x => qre_Zl x.1 x.2,fun x => t_Zl x.1 x.2⟩
theorem ok_Zl:ConOk Try.prog 114 con_Zl := okG k_Zl e_Zl hC_Zl fun x hx => tf_of (w_Zl_eq x.1 x.2 _) (d_Zl x.1 x.2 _ (pp_Zl x.1 x.2 hx) (tt_Zl x.1 x.2 hx))
/-- All orders of four columns,with their signs. -/
def v_ords:List ((Int×Int×Int×Int)×Int) := [((0,1,2,3),1),((0,1,3,2),-1),((0,2,1,3),-1),((0,2,3,1),1),((0,3,2,1),-1),((0,3,1,2),1),((1,0,2,3),-1),((1,0,3,2),1),((1,2,0,3),1),((1,2,3,0),-1),((1,3,2,0),1),((1,3,0,2),-1),((2,1,0,3),-1),((2,1,3,0),1),((2,0,1,3),1),((2,0,3,1),-1),((2,3,0,1),1),((2,3,1,0),-1),((3,1,2,0),-1),((3,1,0,2),1),((3,2,1,0),1),((3,2,0,1),-1),((3,0,2,1),1),((3,0,1,2),-1)]
theorem v_ords_eq:ordVs = v_ords.map (valPs [.agg (.pr (.int .i64) (.pr (.int .i64) (.pr (.int .i64) (.int .i64)))),.one (.int .i64)]) := by kernel_rfl
abbrev con_Z1j:Con := ⟨.fn 112 [] :: .agg (.pr (.int .i64) (.pr (.int .i64) (.pr (.int .i64) (.int .i64)))) :: [.one (.int .i64)],[.one (.sl (tyPs (.agg (.pr (.int .i64) (.pr (.int .i64) (.pr (.int .i64) (.int .i64)))) :: [.one (.int .i64)])))],fun _ => [],fun _ => v_ords⟩
theorem ok_Z1j:ConIOk Try.prog 112 con_Z1j := by
 refine ⟨rfl,k_Z1j,rfl,fun x _ => ?_⟩
 show Iter Try.prog 112 [] (v_ords.map (valPs [.agg (.pr (.int .i64) (.pr (.int .i64) (.pr (.int .i64) (.int .i64)))),.one (.int .i64)]))
 rw [← v_ords_eq]
 exact ord_iter
def C_Z8:Cons := [(112,itMark,con_Z1j),(114,[],con_Zl),(113,[],con_Zm)]
theorem hC_Z8:ConsOk Try.prog C_Z8 := ConsOk.consI ok_Z1j <| cC ok_Zl <| cC ok_Zm <| ConsOk.nil
abbrev q0_Z8 (p0:((Int×(Int×(Int×Int)))×((Int×(Int×(Int×Int)))×((Int×(Int×(Int×Int)))×(Int×(Int×(Int×Int))))))) (z1:((Int×(Int×(Int×Int)))×Int)) := ((List.getD (p0.2.2.1.1 :: (p0.2.2.1.2.1 :: (p0.2.2.1.2.2.1 :: (p0.2.2.1.2.2.2 :: ([]:List Int))))) z1.1.2.2.1.toNat zz0) * (List.getD (p0.2.2.2.1 :: (p0.2.2.2.2.1 :: (p0.2.2.2.2.2.1 :: (p0.2.2.2.2.2.2 :: ([]:List Int))))) z1.1.2.2.2.toNat zz0))
abbrev q1_Z8 (p0:((Int×(Int×(Int×Int)))×((Int×(Int×(Int×Int)))×((Int×(Int×(Int×Int)))×(Int×(Int×(Int×Int))))))) (z1:((Int×(Int×(Int×Int)))×Int)) := ((List.getD (p0.1.1 :: (p0.1.2.1 :: (p0.1.2.2.1 :: (p0.1.2.2.2 :: ([]:List Int))))) z1.1.1.toNat zz0) * (List.getD (p0.2.1.1 :: (p0.2.1.2.1 :: (p0.2.1.2.2.1 :: (p0.2.1.2.2.2 :: ([]:List Int))))) z1.1.2.1.toNat zz0))
def w_Z8 (p0:((Int×(Int×(Int×Int)))×((Int×(Int×(Int×Int)))×((Int×(Int×(Int×Int)))×(Int×(Int×(Int×Int))))))) (K:(Int×Int)→Prop):Prop := (RngP (fun (y0:gG) (z1:((Int×(Int×(Int×Int)))×Int)) k2 => ((zz0≤z1.1.1) ∧((z1.1.1 < 4) ∧((zz0≤z1.1.2.1) ∧((z1.1.2.1 < 4) ∧((zz0≤z1.1.2.2.1) ∧((z1.1.2.2.1 < 4) ∧((zz0≤z1.1.2.2.2) ∧((z1.1.2.2.2 < 4) ∧((((-9223372036854775808:Int) < (wi (z1.2 * (wi (q1_Z8 p0 z1))))) ∧((wi (z1.2 * (wi (q1_Z8 p0 z1))))≤9223372036854775807)) ∧((((-9223372036854775808:Int) < (wi (q0_Z8 p0 z1))) ∧((wi (q0_Z8 p0 z1))≤9223372036854775807)) ∧((v_wu y0) ∧((v_wu (v_w ((wi (z1.2 * (wi (q1_Z8 p0 z1)))) * (wi (q0_Z8 p0 z1))))) ∧(k2 (v_w ((v_wv y0) + (v_wv (v_w ((wi (z1.2 * (wi (q1_Z8 p0 z1)))) * (wi (q0_Z8 p0 z1))))))))))))))))))))) (fun (s3:gG) => (K s3)) (v_ords) (zz0,zz0))
theorem w_Z8_eq (p0:((Int×(Int×(Int×Int)))×((Int×(Int×(Int×Int)))×((Int×(Int×(Int×Int)))×(Int×(Int×(Int×Int))))))) (K:(Int×Int)→Prop):tfn F_Z8 A_Z8 C_Z8 P_Z8 R_Z8 p0 K = w_Z8 p0 K := by kernel_rfl
def st_Z8_0 (p0:((Int×(Int×(Int×Int)))×((Int×(Int×(Int×Int)))×((Int×(Int×(Int×Int)))×(Int×(Int×(Int×Int))))))) (y0:gG) (z0:((Int×(Int×(Int×Int)))×Int)):(Int×Int) ⊕ (Int×Int) := (Sum.inl (v_w ((v_wv y0) + (v_wv (v_w ((IntKind.i64.wrap (z0.2 * (IntKind.i64.wrap ((List.getD (p0.1.1 :: (p0.1.2.1 :: (p0.1.2.2.1 :: (p0.1.2.2.2 :: ([]:List Int))))) z0.1.1.toNat (0:Int)) * (List.getD (p0.2.1.1 :: (p0.2.1.2.1 :: (p0.2.1.2.2.1 :: (p0.2.1.2.2.2 :: ([]:List Int))))) z0.1.2.1.toNat (0:Int)))))) * (IntKind.i64.wrap ((List.getD (p0.2.2.1.1 :: (p0.2.2.1.2.1 :: (p0.2.2.1.2.2.1 :: (p0.2.2.1.2.2.2 :: ([]:List Int))))) z0.1.2.2.1.toNat (0:Int)) * (List.getD (p0.2.2.2.1 :: (p0.2.2.2.2.1 :: (p0.2.2.2.2.2.1 :: (p0.2.2.2.2.2.2 :: ([]:List Int))))) z0.1.2.2.2.toNat (0:Int))))))))))
abbrev sp_Z8_0 (p0:((Int×(Int×(Int×Int)))×((Int×(Int×(Int×Int)))×((Int×(Int×(Int×Int)))×(Int×(Int×(Int×Int))))))) (y0:gG) (z0:((Int×(Int×(Int×Int)))×Int)):List Prop := [((0:Int)≤z0.1.1),(z0.1.1 < 4),((0:Int)≤z0.1.2.1),(z0.1.2.1 < 4),((0:Int)≤z0.1.2.2.1),(z0.1.2.2.1 < 4),((0:Int)≤z0.1.2.2.2),(z0.1.2.2.2 < 4),(((-9223372036854775808:Int) < (IntKind.i64.wrap (z0.2 * (IntKind.i64.wrap ((List.getD (p0.1.1 :: (p0.1.2.1 :: (p0.1.2.2.1 :: (p0.1.2.2.2 :: ([]:List Int))))) z0.1.1.toNat (0:Int)) * (List.getD (p0.2.1.1 :: (p0.2.1.2.1 :: (p0.2.1.2.2.1 :: (p0.2.1.2.2.2 :: ([]:List Int))))) z0.1.2.1.toNat (0:Int)))))))∧((IntKind.i64.wrap (z0.2 * (IntKind.i64.wrap ((List.getD (p0.1.1 :: (p0.1.2.1 :: (p0.1.2.2.1 :: (p0.1.2.2.2 :: ([]:List Int))))) z0.1.1.toNat (0:Int)) * (List.getD (p0.2.1.1 :: (p0.2.1.2.1 :: (p0.2.1.2.2.1 :: (p0.2.1.2.2.2 :: ([]:List Int))))) z0.1.2.1.toNat (0:Int))))))≤9223372036854775807)),(((-9223372036854775808:Int) < (IntKind.i64.wrap ((List.getD (p0.2.2.1.1 :: (p0.2.2.1.2.1 :: (p0.2.2.1.2.2.1 :: (p0.2.2.1.2.2.2 :: ([]:List Int))))) z0.1.2.2.1.toNat (0:Int)) * (List.getD (p0.2.2.2.1 :: (p0.2.2.2.2.1 :: (p0.2.2.2.2.2.1 :: (p0.2.2.2.2.2.2 :: ([]:List Int))))) z0.1.2.2.2.toNat (0:Int)))))∧((IntKind.i64.wrap ((List.getD (p0.2.2.1.1 :: (p0.2.2.1.2.1 :: (p0.2.2.1.2.2.1 :: (p0.2.2.1.2.2.2 :: ([]:List Int))))) z0.1.2.2.1.toNat (0:Int)) * (List.getD (p0.2.2.2.1 :: (p0.2.2.2.2.1 :: (p0.2.2.2.2.2.1 :: (p0.2.2.2.2.2.2 :: ([]:List Int))))) z0.1.2.2.2.toNat (0:Int))))≤9223372036854775807)),(v_wu y0),(v_wu (v_w ((IntKind.i64.wrap (z0.2 * (IntKind.i64.wrap ((List.getD (p0.1.1 :: (p0.1.2.1 :: (p0.1.2.2.1 :: (p0.1.2.2.2 :: ([]:List Int))))) z0.1.1.toNat (0:Int)) * (List.getD (p0.2.1.1 :: (p0.2.1.2.1 :: (p0.2.1.2.2.1 :: (p0.2.1.2.2.2 :: ([]:List Int))))) z0.1.2.1.toNat (0:Int)))))) * (IntKind.i64.wrap ((List.getD (p0.2.2.1.1 :: (p0.2.2.1.2.1 :: (p0.2.2.1.2.2.1 :: (p0.2.2.1.2.2.2 :: ([]:List Int))))) z0.1.2.2.1.toNat (0:Int)) * (List.getD (p0.2.2.2.1 :: (p0.2.2.2.2.1 :: (p0.2.2.2.2.2.1 :: (p0.2.2.2.2.2.2 :: ([]:List Int))))) z0.1.2.2.2.toNat (0:Int)))))))]
def sf_Z8_0 (_p0:((Int×(Int×(Int×Int)))×((Int×(Int×(Int×Int)))×((Int×(Int×(Int×Int)))×(Int×(Int×(Int×Int))))))) (s0:gG):(Int×Int) := s0
abbrev sq_Z8_0 (_p0:((Int×(Int×(Int×Int)))×((Int×(Int×(Int×Int)))×((Int×(Int×(Int×Int)))×(Int×(Int×(Int×Int))))))) (_s0:gG):List Prop := []
def s_Z8 (p0:((Int×(Int×(Int×Int)))×((Int×(Int×(Int×Int)))×((Int×(Int×(Int×Int)))×(Int×(Int×(Int×Int))))))):(Int×Int) := (rngV (st_Z8_0 p0) (sf_Z8_0 p0) (v_ords) (0,0))
abbrev pre_Z8 (p0:((Int×(Int×(Int×Int)))×((Int×(Int×(Int×Int)))×((Int×(Int×(Int×Int)))×(Int×(Int×(Int×Int))))))):List Prop := [(OkR (st_Z8_0 p0) (sp_Z8_0 p0) (sq_Z8_0 p0) (v_ords) (0,0))]
theorem d_Z8 (p0:((Int×(Int×(Int×Int)))×((Int×(Int×(Int×Int)))×((Int×(Int×(Int×Int)))×(Int×(Int×(Int×Int))))))) (K:(Int×Int)→Prop) (hp:∀ p∈pre_Z8 p0,p) (h:K (s_Z8 p0)):w_Z8 p0 K := by
 unfold w_Z8
 unfold s_Z8 at h
 obtain ⟨hp0,_⟩ := conj_of hp
 exact (rng_gen (hp0) h (fun y0 z0 k0 hp h => by
 unfold st_Z8_0 at h; obtain ⟨hp0,hp1,hp2,hp3,hp4,hp5,hp6,hp7,hp8,hp9,hp10,hp11,_⟩ := conj_of hp
 exact ⟨(hp0),(hp1),(hp2),(hp3),(hp4),(hp5),(hp6),(hp7),(hp8),(hp9),(hp10),(hp11),h⟩) (fun s0 hp h => by
 unfold sf_Z8_0 at h
 exact h))
/-- A row's entry; the determinant as a sum over all orders. -/
def v_r4 (r:Int×Int×Int×Int) (i:Int):Int := (r.1 :: (r.2.1 :: (r.2.2.1 :: (r.2.2.2 :: ([]:List Int))))).getD i.toNat 0
def v_dt (m:(Int×Int×Int×Int)×(Int×Int×Int×Int)×(Int×Int×Int×Int)×(Int×Int×Int×Int)) (z:(Int×Int×Int×Int)×Int):Int := z.2 * (v_r4 m.1 z.1.1 * v_r4 m.2.1 z.1.2.1) * (v_r4 m.2.2.1 z.1.2.2.1 * v_r4 m.2.2.2 z.1.2.2.2)
def v_det (m:(Int×Int×Int×Int)×(Int×Int×Int×Int)×(Int×Int×Int×Int)×(Int×Int×Int×Int)):Int := (v_ords.map (v_dt m)).sum
/-- Rows whose products fit. -/
def v_rb4 (r:Int×Int×Int×Int):Prop := ∀ i,-2000000000≤v_r4 r i∧v_r4 r i≤2000000000
structure v_mb (m:(Int×Int×Int×Int)×(Int×Int×Int×Int)×(Int×Int×Int×Int)×(Int×Int×Int×Int)):Prop where
 a:v_rb4 m.1
 b:v_rb4 m.2.1
 c:v_rb4 m.2.2.1
 d:v_rb4 m.2.2.2
def v_oz (z:(Int×Int×Int×Int)×Int):Prop := (0≤z.1.1∧z.1.1 < 4)∧(0≤z.1.2.1∧z.1.2.1 < 4)∧(0≤z.1.2.2.1∧z.1.2.2.1 < 4)∧(0≤z.1.2.2.2∧z.1.2.2.2 < 4)∧(z.2 = 1 ∨ z.2 = -1)
theorem v_ords_ok:∀ z∈v_ords,v_oz z := by unfold v_oz v_ords; decide
theorem l_Z8_0 (p0:(Int×Int×Int×Int)×(Int×Int×Int×Int)×(Int×Int×Int×Int)×(Int×Int×Int×Int)) (h:v_mb p0):OkR (st_Z8_0 p0) (sp_Z8_0 p0) (sq_Z8_0 p0) v_ords (0,0)∧rngV (st_Z8_0 p0) (sf_Z8_0 p0) v_ords (0,0)=v_w (v_det p0) := by
 have main := rng_is (st := st_Z8_0 p0) (sp := sp_Z8_0 p0) (fin := sf_Z8_0 p0) (fp := sq_Z8_0 p0) (fun r s => (∀ z∈r,v_oz z)∧v_wu s) (fun r s => v_w (v_wv s + (r.map (v_dt p0)).sum)) ?_ ?_ v_ords (0,0) ⟨v_ords_ok,⟨by decide,by decide⟩⟩
 ·refine ⟨main.1,main.2.trans ?_⟩
  unfold v_det
  rw [show v_wv (0,0)=0 from rfl,Int.zero_add]
 ·rintro s ⟨_,hs⟩
  refine ⟨fun p hp => (by cases hp),?_⟩
  show s = v_w (v_wv s + 0)
  rw [Int.add_zero,v_w_of hs]
 ·rintro z r s ⟨hz,hs⟩
  obtain ⟨z1,z2,z3,z4,z5⟩ := hz z List.mem_cons_self
  have a := h.a z.1.1
  have b := h.b z.1.2.1
  have c := h.c z.1.2.2.1
  have d := h.d z.1.2.2.2
  have m1 := mul_abs (x := v_r4 p0.1 z.1.1) (y := v_r4 p0.2.1 z.1.2.1) (a := 2000000000) (b := 2000000000) a.1 a.2 b.1 b.2
  have m2 := mul_abs (x := v_r4 p0.2.2.1 z.1.2.2.1) (y := v_r4 p0.2.2.2 z.1.2.2.2) (a := 2000000000) (b := 2000000000) c.1 c.2 d.1 d.2
  have m3 : -4000000000000000000≤z.2 * (v_r4 p0.1 z.1.1 * v_r4 p0.2.1 z.1.2.1)∧z.2 * (v_r4 p0.1 z.1.1 * v_r4 p0.2.1 z.1.2.1)≤4000000000000000000 := by
   rcases z5 with e | e <;> rw [e] <;> omega
  have w1:IntKind.i64.wrap (v_r4 p0.1 z.1.1 * v_r4 p0.2.1 z.1.2.1)=v_r4 p0.1 z.1.1 * v_r4 p0.2.1 z.1.2.1 := wrap_id (by omega) (by omega)
  have w2:IntKind.i64.wrap (v_r4 p0.2.2.1 z.1.2.2.1 * v_r4 p0.2.2.2 z.1.2.2.2)=v_r4 p0.2.2.1 z.1.2.2.1 * v_r4 p0.2.2.2 z.1.2.2.2 := wrap_id (by omega) (by omega)
  have w3:IntKind.i64.wrap (z.2 * (v_r4 p0.1 z.1.1 * v_r4 p0.2.1 z.1.2.1))=z.2 * (v_r4 p0.1 z.1.1 * v_r4 p0.2.1 z.1.2.1) := wrap_id (by omega) (by omega)
  have hf:st_Z8_0 p0 s z = .inl (v_w (v_wv s + v_wv (v_w (v_dt p0 z)))) := by
   show Sum.inl (v_w (v_wv s + v_wv (v_w (IntKind.i64.wrap (z.2 * IntKind.i64.wrap (v_r4 p0.1 z.1.1 * v_r4 p0.2.1 z.1.2.1)) * IntKind.i64.wrap (v_r4 p0.2.2.1 z.1.2.2.1 * v_r4 p0.2.2.2 z.1.2.2.2)))))=_
   rw [w1,w2,w3]; rfl
  refine ⟨?_,?_⟩
  ·show ∀ p∈[0≤z.1.1,z.1.1 < 4,0≤z.1.2.1,z.1.2.1 < 4,0≤z.1.2.2.1,z.1.2.2.1 < 4,0≤z.1.2.2.2,z.1.2.2.2 < 4,-9223372036854775808 < IntKind.i64.wrap (z.2 * IntKind.i64.wrap (v_r4 p0.1 z.1.1 * v_r4 p0.2.1 z.1.2.1))∧IntKind.i64.wrap (z.2 * IntKind.i64.wrap (v_r4 p0.1 z.1.1 * v_r4 p0.2.1 z.1.2.1))≤9223372036854775807,-9223372036854775808 < IntKind.i64.wrap (v_r4 p0.2.2.1 z.1.2.2.1 * v_r4 p0.2.2.2 z.1.2.2.2)∧IntKind.i64.wrap (v_r4 p0.2.2.1 z.1.2.2.1 * v_r4 p0.2.2.2 z.1.2.2.2)≤9223372036854775807,v_wu s,v_wu (v_w (IntKind.i64.wrap (z.2 * IntKind.i64.wrap (v_r4 p0.1 z.1.1 * v_r4 p0.2.1 z.1.2.1)) * IntKind.i64.wrap (v_r4 p0.2.2.1 z.1.2.2.1 * v_r4 p0.2.2.2 z.1.2.2.2)))],p
   rw [w1,w2,w3]
   simp only [fM]
   exact ⟨z1.1,z1.2,z2.1,z2.2,z3.1,z3.2,z4.1,z4.2,by omega,by omega,hs,v_w_u _,by simp⟩
  ·rw [hf]
   refine ⟨⟨fun y hy => hz y (List.mem_cons_of_mem _ hy),v_w_u _⟩,?_⟩
   rw [v_w_v,v_w_v,List.map_cons,List.sum_cons]
   exact v_w_eq (by omega)
abbrev t_Z8 (p0:(Int×Int×Int×Int)×(Int×Int×Int×Int)×(Int×Int×Int×Int)×(Int×Int×Int×Int)):Int×Int := v_w (v_det p0)
abbrev qre_Z8 (p0:(Int×Int×Int×Int)×(Int×Int×Int×Int)×(Int×Int×Int×Int)×(Int×Int×Int×Int)):List Prop := [v_mb p0]
theorem pp_Z8 (p0:(Int×Int×Int×Int)×(Int×Int×Int×Int)×(Int×Int×Int×Int)×(Int×Int×Int×Int)) (hq:∀ p∈qre_Z8 p0,p):∀ p∈pre_Z8 p0,p := by
 obtain ⟨h1,_⟩ := conj_of hq
 simp only [pre_Z8,fM]
 exact ⟨(l_Z8_0 p0 h1).1,by simp⟩
theorem tt_Z8 (p0:(Int×Int×Int×Int)×(Int×Int×Int×Int)×(Int×Int×Int×Int)×(Int×Int×Int×Int)) (hq:∀ p∈qre_Z8 p0,p):s_Z8 p0 = t_Z8 p0 := by
 obtain ⟨h1,_⟩ := conj_of hq
 exact (l_Z8_0 p0 h1).2

abbrev con_Z8:Con := ⟨P_Z8,R_Z8,fun x => qre_Z8 x,fun x => t_Z8 x⟩
theorem ok_Z8:ConOk Try.prog 76 con_Z8 := okG k_Z8 e_Z8 hC_Z8 fun x hx => tf_of (w_Z8_eq x _) (d_Z8 x _ (pp_Z8 x hx) (tt_Z8 x hx))
def C_Z12:Cons := [(32,[],con_Z5)]
theorem hC_Z12:ConsOk Try.prog C_Z12 := cC ok_Z5 <| ConsOk.nil
def w_Z12 (p0:(List (Int×(Int×(Int×(Int×Int)))))) (K:Int→Prop):Prop := (K (v_cs p0).2)
theorem w_Z12_eq (p0:(List (Int×(Int×(Int×(Int×Int)))))) (K:Int→Prop):tfn F_Z12 A_Z12 C_Z12 P_Z12 R_Z12 p0 K = w_Z12 p0 K := by kernel_rfl
def s_Z12 (p0:(List (Int×(Int×(Int×(Int×Int)))))):Int := (v_cs p0).2
abbrev pre_Z12 (_p0:(List (Int×(Int×(Int×(Int×Int)))))):List Prop := []
theorem d_Z12 (p0:(List (Int×(Int×(Int×(Int×Int)))))) (K:Int→Prop) (_hp:∀ p∈pre_Z12 p0,p) (h:K (s_Z12 p0)):w_Z12 p0 K := by
 unfold w_Z12
 unfold s_Z12 at h
 exact h
abbrev con_Z12:Con := ⟨P_Z12,R_Z12,fun x => pre_Z12 x,fun x => s_Z12 x⟩
theorem ok_Z12:ConOk Try.prog 72 con_Z12 := okG k_Z12 e_Z12 hC_Z12 fun x hx => tf_of (w_Z12_eq x _) (d_Z12 x _ hx rfl)
def C_Z1:Cons := [(72,[],con_Z12),(73,[],con_Zw),(71,[],con_Za),(74,[],con_Zb),(75,[],con_Z4),(76,[],con_Z8),(77,[],con_Zp),(78,[],con_Z2),(79,[],con_Zi),(80,[],con_Zq)]
theorem hC_Z1:ConsOk Try.prog C_Z1 := cC ok_Z12 <| cC ok_Zw <| cC ok_Za <| cC ok_Zb <| cC ok_Z4 <| cC ok_Z8 <| cC ok_Zp <| cC ok_Z2 <| cC ok_Zi <| cC ok_Zq <| ConsOk.nil
abbrev q3_Z1 (y4:(Int×(Int×(Int×(Int×(Int×(Int×(Int×(Int×(Int×(Int×(Int×(Int×(Int×(Int×(Int×(Int×Int))))))))))))))))) := ((y4.2.1,(y4.2.2.1,(y4.2.2.2.1,y4.2.2.2.2.1))),((y4.2.2.2.2.2.1,(y4.2.2.2.2.2.2.1,(y4.2.2.2.2.2.2.2.1,y4.2.2.2.2.2.2.2.2.1))),((y4.2.2.2.2.2.2.2.2.2.1,(y4.2.2.2.2.2.2.2.2.2.2.1,(y4.2.2.2.2.2.2.2.2.2.2.2.1,y4.2.2.2.2.2.2.2.2.2.2.2.2.1))),y4.2.2.2.2.2.2.2.2.2.2.2.2.2)))
abbrev q0_Z1 (y1:(Int×(Int×(Int×(Int×(Int×(Int×(Int×(Int×(Int×Int)))))))))) (y4:(Int×(Int×(Int×(Int×(Int×(Int×(Int×(Int×(Int×(Int×(Int×(Int×(Int×(Int×(Int×(Int×Int))))))))))))))))) := ((List.getD ((cond (decide (y1.1 = zz0)) (v_w (v_det (q3_Z1 y4))).1 y1.2.2.1) :: ((cond (decide (y1.1 = zz1)) (v_w (v_det (q3_Z1 y4))).1 y1.2.2.2.2.1) :: ((cond (decide (y1.1 = zz2)) (v_w (v_det (q3_Z1 y4))).1 y1.2.2.2.2.2.2.1) :: ((cond (decide (y1.1 = zz3)) (v_w (v_det (q3_Z1 y4))).1 y1.2.2.2.2.2.2.2.2.1) :: ([]:List Int))))) y1.1.toNat zz0),(List.getD ((cond (decide (y1.1 = zz0)) (v_w (v_det (q3_Z1 y4))).2 y1.2.2.2.1) :: ((cond (decide (y1.1 = zz1)) (v_w (v_det (q3_Z1 y4))).2 y1.2.2.2.2.2.1) :: ((cond (decide (y1.1 = zz2)) (v_w (v_det (q3_Z1 y4))).2 y1.2.2.2.2.2.2.2.1) :: ((cond (decide (y1.1 = zz3)) (v_w (v_det (q3_Z1 y4))).2 y1.2.2.2.2.2.2.2.2.2) :: ([]:List Int))))) y1.1.toNat zz0))
abbrev q1_Z1 (y1:(Int×(Int×(Int×(Int×(Int×(Int×(Int×(Int×(Int×Int)))))))))) (y7:(Int×(Bool×(Int×(Int×(Int×(Int×(Int×(Int×(Int×(Int×Int))))))))))) := (v_split ((List.getD (y1.2.2.1 :: (y1.2.2.2.2.1 :: (y1.2.2.2.2.2.2.1 :: (y1.2.2.2.2.2.2.2.2.1 :: ([]:List Int))))) y7.1.toNat zz0),(List.getD (y1.2.2.2.1 :: (y1.2.2.2.2.2.1 :: (y1.2.2.2.2.2.2.2.1 :: (y1.2.2.2.2.2.2.2.2.2 :: ([]:List Int))))) y7.1.toNat zz0)))
abbrev q2_Z1 (p0:(List (Int×(Int×(Int×(Int×Int)))))) (p1:Int) (y4:(Int×(Int×(Int×(Int×(Int×(Int×(Int×(Int×(Int×(Int×(Int×(Int×(Int×(Int×(Int×(Int×Int))))))))))))))))) := (List.getD ((v_tu4 (v_gri p0 (v_cho p1 8) (List.length (v_cho p1 8)))).1 :: ((v_tu4 (v_gri p0 (v_cho p1 8) (List.length (v_cho p1 8)))).2.1 :: ((v_tu4 (v_gri p0 (v_cho p1 8) (List.length (v_cho p1 8)))).2.2.1 :: ((v_tu4 (v_gri p0 (v_cho p1 8) (List.length (v_cho p1 8)))).2.2.2 :: ([]:List Int))))) y4.1.toNat zz0)
abbrev q7_Z1 (p0:(List (Int×(Int×(Int×(Int×Int)))))) (p1:Int) := (v_mat (v_gmi p0 (v_cho p1 8) (List.length (v_cho p1 8))))
abbrev q4_Z1 (p0:(List (Int×(Int×(Int×(Int×Int)))))) (p1:Int) := (v_split (v_w (v_det (q7_Z1 p0 p1))))
abbrev q5_Z1 (p1:Int) (y7:(Int×(Bool×(Int×(Int×(Int×(Int×(Int×(Int×(Int×(Int×Int))))))))))) := (List.getD (v_cho p1 8) y7.1.toNat zz0)
abbrev q6_Z1 (p0:(List (Int×(Int×(Int×(Int×Int)))))) (p1:Int) (y1:(Int×(Int×(Int×(Int×(Int×(Int×(Int×(Int×(Int×Int)))))))))) (y4:(Int×(Int×(Int×(Int×(Int×(Int×(Int×(Int×(Int×(Int×(Int×(Int×(Int×(Int×(Int×(Int×Int))))))))))))))))) := ((((Int.tmod (v_split (q0_Z1 y1 y4)).2.1 (q4_Z1 p0 p1).2.2) * 18446744073709551616) + (v_split (q0_Z1 y1 y4)).2.2) % (q4_Z1 p0 p1).2.2)
abbrev q8_Z1 := (zz0,(zz0,(zz0,(zz0,(zz0,(zz0,(zz0,zz0)))))))
def w_Z1 (p0:(List (Int×(Int×(Int×(Int×Int)))))) (p1:Int) (K:((Int×(Int×(Int×(Int×(Int×(Int×(Int×(Int×Int))))))))×Int)→Prop):Prop := ((lenOk ((v_cs p0).2 :: ((v_terr p1) :: ([]:List Int)))) ∧(((((v_first ((v_cs p0).2 :: ((v_terr p1) :: ([]:List Int)))) != zz0)=true) →(K ((zz0,(q8_Z1)),(v_first ((v_cs p0).2 :: ((v_terr p1) :: ([]:List Int))))))) ∧((((v_first ((v_cs p0).2 :: ((v_terr p1) :: ([]:List Int)))) != zz0)=false) →((v_smp p0) ∧(((List.length (v_cho p1 8))≤4) ∧((v_c8 (v_cho p1 8)) ∧((v_mb (q7_Z1 p0 p1)) ∧((v_wu (v_w (v_det (q7_Z1 p0 p1)))) ∧((((((q4_Z1 p0 p1).2.1 == zz0) && (((q4_Z1 p0 p1).2.2 == zz0) && true))=true) →(K ((zz0,(q8_Z1)),(12:Int)))) ∧(((((q4_Z1 p0 p1).2.1 == zz0) && (((q4_Z1 p0 p1).2.2 == zz0) && true))=false) →(∃ n0,(loopP (fun (y1:(Int×(Int×(Int×(Int×(Int×(Int×(Int×(Int×(Int×Int)))))))))) k2 => ((((decide (y1.1 < (((v_cho p1 8).length:Nat):Int)))=true) →(∃ n3,(loopP (fun (y4:(Int×(Int×(Int×(Int×(Int×(Int×(Int×(Int×(Int×(Int×(Int×(Int×(Int×(Int×(Int×(Int×Int))))))))))))))))) k5 => ((((decide (y4.1 < (((v_cho p1 8).length:Nat):Int)))=true) →((zz0≤y4.1) ∧((y4.1 < 4) ∧((zz0≤y4.1) ∧((y4.1 < 4) ∧((zz0≤y1.1) ∧((y1.1 < 4) ∧(k5 ((wi (y4.1 + zz1)),((cond ((decide (y1.1 = zz0)) && (decide (y4.1 = zz0))) (q2_Z1 p0 p1 y4) y4.2.1),((cond ((decide (y1.1 = zz1)) && (decide (y4.1 = zz0))) (q2_Z1 p0 p1 y4) y4.2.2.1),((cond ((decide (y1.1 = zz2)) && (decide (y4.1 = zz0))) (q2_Z1 p0 p1 y4) y4.2.2.2.1),((cond ((decide (y1.1 = zz3)) && (decide (y4.1 = zz0))) (q2_Z1 p0 p1 y4) y4.2.2.2.2.1),((cond ((decide (y1.1 = zz0)) && (decide (y4.1 = zz1))) (q2_Z1 p0 p1 y4) y4.2.2.2.2.2.1),((cond ((decide (y1.1 = zz1)) && (decide (y4.1 = zz1))) (q2_Z1 p0 p1 y4) y4.2.2.2.2.2.2.1),((cond ((decide (y1.1 = zz2)) && (decide (y4.1 = zz1))) (q2_Z1 p0 p1 y4) y4.2.2.2.2.2.2.2.1),((cond ((decide (y1.1 = zz3)) && (decide (y4.1 = zz1))) (q2_Z1 p0 p1 y4) y4.2.2.2.2.2.2.2.2.1),((cond ((decide (y1.1 = zz0)) && (decide (y4.1 = zz2))) (q2_Z1 p0 p1 y4) y4.2.2.2.2.2.2.2.2.2.1),((cond ((decide (y1.1 = zz1)) && (decide (y4.1 = zz2))) (q2_Z1 p0 p1 y4) y4.2.2.2.2.2.2.2.2.2.2.1),((cond ((decide (y1.1 = zz2)) && (decide (y4.1 = zz2))) (q2_Z1 p0 p1 y4) y4.2.2.2.2.2.2.2.2.2.2.2.1),((cond ((decide (y1.1 = zz3)) && (decide (y4.1 = zz2))) (q2_Z1 p0 p1 y4) y4.2.2.2.2.2.2.2.2.2.2.2.2.1),((cond ((decide (y1.1 = zz0)) && (decide (y4.1 = zz3))) (q2_Z1 p0 p1 y4) y4.2.2.2.2.2.2.2.2.2.2.2.2.2.1),((cond ((decide (y1.1 = zz1)) && (decide (y4.1 = zz3))) (q2_Z1 p0 p1 y4) y4.2.2.2.2.2.2.2.2.2.2.2.2.2.2.1),((cond ((decide (y1.1 = zz2)) && (decide (y4.1 = zz3))) (q2_Z1 p0 p1 y4) y4.2.2.2.2.2.2.2.2.2.2.2.2.2.2.2.1),(cond ((decide (y1.1 = zz3)) && (decide (y4.1 = zz3))) (q2_Z1 p0 p1 y4) y4.2.2.2.2.2.2.2.2.2.2.2.2.2.2.2.2))))))))))))))))))))))))) ∧(((decide (y4.1 < (((v_cho p1 8).length:Nat):Int)))=false) →((v_mb (q3_Z1 y4)) ∧((zz0≤y1.1) ∧((y1.1 < 4) ∧((zz0≤y1.1) ∧((y1.1 < 4) ∧((v_wu (q0_Z1 y1 y4)) ∧(((q4_Z1 p0 p1).2.2 ≠ zz0) ∧(((zz0≤(Int.tmod (v_split (q0_Z1 y1 y4)).2.1 (q4_Z1 p0 p1).2.2)) ∧((Int.tmod (v_split (q0_Z1 y1 y4)).2.1 (q4_Z1 p0 p1).2.2) < (q4_Z1 p0 p1).2.2)) ∧(((zz0≤(v_split (q0_Z1 y1 y4)).2.2) ∧((v_split (q0_Z1 y1 y4)).2.2 < 18446744073709551616)) ∧(((q4_Z1 p0 p1).2.2 < 18446744073709551616) ∧(((zz0≤y1.2.1) ∧(y1.2.1 < 18446744073709551616)) ∧(((zz0≤(q6_Z1 p0 p1 y1 y4)) ∧((q6_Z1 p0 p1 y1 y4) < 18446744073709551616)) ∧(k2 ((wi (y1.1 + zz1)),((v_gcd y1.2.1 (q6_Z1 p0 p1 y1 y4)),((cond (decide (y1.1 = zz0)) (v_w (v_det (q3_Z1 y4))).1 y1.2.2.1),((cond (decide (y1.1 = zz0)) (v_w (v_det (q3_Z1 y4))).2 y1.2.2.2.1),((cond (decide (y1.1 = zz1)) (v_w (v_det (q3_Z1 y4))).1 y1.2.2.2.2.1),((cond (decide (y1.1 = zz1)) (v_w (v_det (q3_Z1 y4))).2 y1.2.2.2.2.2.1),((cond (decide (y1.1 = zz2)) (v_w (v_det (q3_Z1 y4))).1 y1.2.2.2.2.2.2.1),((cond (decide (y1.1 = zz2)) (v_w (v_det (q3_Z1 y4))).2 y1.2.2.2.2.2.2.2.1),((cond (decide (y1.1 = zz3)) (v_w (v_det (q3_Z1 y4))).1 y1.2.2.2.2.2.2.2.2.1),(cond (decide (y1.1 = zz3)) (v_w (v_det (q3_Z1 y4))).2 y1.2.2.2.2.2.2.2.2.2)))))))))))))))))))))))))) n3 (zz0,((q7_Z1 p0 p1).1.1,((q7_Z1 p0 p1).1.2.1,((q7_Z1 p0 p1).1.2.2.1,((q7_Z1 p0 p1).1.2.2.2,((q7_Z1 p0 p1).2.1.1,((q7_Z1 p0 p1).2.1.2.1,((q7_Z1 p0 p1).2.1.2.2.1,((q7_Z1 p0 p1).2.1.2.2.2,((q7_Z1 p0 p1).2.2.1.1,((q7_Z1 p0 p1).2.2.1.2.1,((q7_Z1 p0 p1).2.2.1.2.2.1,((q7_Z1 p0 p1).2.2.1.2.2.2,(q7_Z1 p0 p1).2.2.2)))))))))))))))) ∧(((decide (y1.1 < (((v_cho p1 8).length:Nat):Int)))=false) →((v_wu (q4_Z1 p0 p1).2) ∧(((zz0 < y1.2.1) ∧(y1.2.1 < 18446744073709551616)) ∧(∃ n6,(loopP (fun (y7:(Int×(Bool×(Int×(Int×(Int×(Int×(Int×(Int×(Int×(Int×Int))))))))))) k8 => ((((decide (y7.1 < (((v_cho p1 8).length:Nat):Int)))=true) →((zz0≤y7.1) ∧((y7.1 < (((v_cho p1 8).length:Nat):Int)) ∧((zz0≤y7.1) ∧((y7.1 < 4) ∧((v_wu ((List.getD (y1.2.2.1 :: (y1.2.2.2.2.1 :: (y1.2.2.2.2.2.2.1 :: (y1.2.2.2.2.2.2.2.2.1 :: ([]:List Int))))) y7.1.toNat zz0),(List.getD (y1.2.2.2.1 :: (y1.2.2.2.2.2.1 :: (y1.2.2.2.2.2.2.2.1 :: (y1.2.2.2.2.2.2.2.2.2 :: ([]:List Int))))) y7.1.toNat zz0))) ∧((v_wu (q1_Z1 y1 y7).2) ∧(((zz0 < y1.2.1) ∧(y1.2.1 < 18446744073709551616)) ∧((y7.2.1 = y7.2.1) ∧((zz0≤(q5_Z1 p1 y7)) ∧(((q5_Z1 p1 y7) < 8) ∧((((q1_Z1 y1 y7).1 = true) →((zz0≤(q5_Z1 p1 y7)) ∧(((q5_Z1 p1 y7) < 8) ∧(k8 ((wi (y7.1 + zz1)),((cond y7.2.1 (v_over (q1_Z1 y1 y7).2 y1.2.1).2 false),(y7.2.2.1,((cond (decide ((q5_Z1 p1 y7)=zz0)) (wi (zz0 - (wi (v_over (q1_Z1 y1 y7).2 y1.2.1).1))) (cond (decide ((q5_Z1 p1 y7)=zz0)) (wi (v_over (q1_Z1 y1 y7).2 y1.2.1).1) y7.2.2.2.1)),((cond (decide ((q5_Z1 p1 y7)=zz1)) (wi (zz0 - (wi (v_over (q1_Z1 y1 y7).2 y1.2.1).1))) (cond (decide ((q5_Z1 p1 y7)=zz1)) (wi (v_over (q1_Z1 y1 y7).2 y1.2.1).1) y7.2.2.2.2.1)),((cond (decide ((q5_Z1 p1 y7)=zz2)) (wi (zz0 - (wi (v_over (q1_Z1 y1 y7).2 y1.2.1).1))) (cond (decide ((q5_Z1 p1 y7)=zz2)) (wi (v_over (q1_Z1 y1 y7).2 y1.2.1).1) y7.2.2.2.2.2.1)),((cond (decide ((q5_Z1 p1 y7)=zz3)) (wi (zz0 - (wi (v_over (q1_Z1 y1 y7).2 y1.2.1).1))) (cond (decide ((q5_Z1 p1 y7)=zz3)) (wi (v_over (q1_Z1 y1 y7).2 y1.2.1).1) y7.2.2.2.2.2.2.1)),((cond (decide ((q5_Z1 p1 y7)=(4:Int))) (wi (zz0 - (wi (v_over (q1_Z1 y1 y7).2 y1.2.1).1))) (cond (decide ((q5_Z1 p1 y7)=(4:Int))) (wi (v_over (q1_Z1 y1 y7).2 y1.2.1).1) y7.2.2.2.2.2.2.2.1)),((cond (decide ((q5_Z1 p1 y7)=(5:Int))) (wi (zz0 - (wi (v_over (q1_Z1 y1 y7).2 y1.2.1).1))) (cond (decide ((q5_Z1 p1 y7)=(5:Int))) (wi (v_over (q1_Z1 y1 y7).2 y1.2.1).1) y7.2.2.2.2.2.2.2.2.1)),((cond (decide ((q5_Z1 p1 y7)=(6:Int))) (wi (zz0 - (wi (v_over (q1_Z1 y1 y7).2 y1.2.1).1))) (cond (decide ((q5_Z1 p1 y7)=(6:Int))) (wi (v_over (q1_Z1 y1 y7).2 y1.2.1).1) y7.2.2.2.2.2.2.2.2.2.1)),(cond (decide ((q5_Z1 p1 y7)=(7:Int))) (wi (zz0 - (wi (v_over (q1_Z1 y1 y7).2 y1.2.1).1))) (cond (decide ((q5_Z1 p1 y7)=(7:Int))) (wi (v_over (q1_Z1 y1 y7).2 y1.2.1).1) y7.2.2.2.2.2.2.2.2.2.2)))))))))))))))) ∧(((q1_Z1 y1 y7).1 = false) →(k8 ((wi (y7.1 + zz1)),((cond y7.2.1 (v_over (q1_Z1 y1 y7).2 y1.2.1).2 false),(y7.2.2.1,((cond (decide ((q5_Z1 p1 y7)=zz0)) (wi (v_over (q1_Z1 y1 y7).2 y1.2.1).1) y7.2.2.2.1),((cond (decide ((q5_Z1 p1 y7)=zz1)) (wi (v_over (q1_Z1 y1 y7).2 y1.2.1).1) y7.2.2.2.2.1),((cond (decide ((q5_Z1 p1 y7)=zz2)) (wi (v_over (q1_Z1 y1 y7).2 y1.2.1).1) y7.2.2.2.2.2.1),((cond (decide ((q5_Z1 p1 y7)=zz3)) (wi (v_over (q1_Z1 y1 y7).2 y1.2.1).1) y7.2.2.2.2.2.2.1),((cond (decide ((q5_Z1 p1 y7)=(4:Int))) (wi (v_over (q1_Z1 y1 y7).2 y1.2.1).1) y7.2.2.2.2.2.2.2.1),((cond (decide ((q5_Z1 p1 y7)=(5:Int))) (wi (v_over (q1_Z1 y1 y7).2 y1.2.1).1) y7.2.2.2.2.2.2.2.2.1),((cond (decide ((q5_Z1 p1 y7)=(6:Int))) (wi (v_over (q1_Z1 y1 y7).2 y1.2.1).1) y7.2.2.2.2.2.2.2.2.2.1),(cond (decide ((q5_Z1 p1 y7)=(7:Int))) (wi (v_over (q1_Z1 y1 y7).2 y1.2.1).1) y7.2.2.2.2.2.2.2.2.2.2))))))))))))))))))))))))) ∧(((decide (y7.1 < (((v_cho p1 8).length:Nat):Int)))=false) →((((!y7.2.1)=true) →(K ((zz0,(q8_Z1)),(8:Int)))) ∧(((!y7.2.1)=false) →(K (y7.2.2,zz0))))))) n6 (zz0,((v_over (q4_Z1 p0 p1).2 y1.2.1).2,((wi (v_over (q4_Z1 p0 p1).2 y1.2.1).1),(q8_Z1))))))))))) n0 (zz0,((q4_Z1 p0 p1).2.2,(q8_Z1)))))))))))))))
theorem w_Z1_eq (p0:(List (Int×(Int×(Int×(Int×Int)))))) (p1:Int) (K:((Int×(Int×(Int×(Int×(Int×(Int×(Int×(Int×Int))))))))×Int)→Prop):tfn F_Z1 A_Z1 C_Z1 P_Z1 R_Z1 (p0,p1) K = w_Z1 p0 p1 K := by kernel_rfl
abbrev qx0_st_Z1_0 (y4:(Int×(Int×(Int×(Int×(Int×(Int×(Int×(Int×(Int×(Int×(Int×(Int×(Int×(Int×(Int×(Int×Int))))))))))))))))) := (v_w (v_det ((y4.2.1,(y4.2.2.1,(y4.2.2.2.1,y4.2.2.2.2.1))),((y4.2.2.2.2.2.1,(y4.2.2.2.2.2.2.1,(y4.2.2.2.2.2.2.2.1,y4.2.2.2.2.2.2.2.2.1))),((y4.2.2.2.2.2.2.2.2.2.1,(y4.2.2.2.2.2.2.2.2.2.2.1,(y4.2.2.2.2.2.2.2.2.2.2.2.1,y4.2.2.2.2.2.2.2.2.2.2.2.2.1))),y4.2.2.2.2.2.2.2.2.2.2.2.2.2)))))
abbrev qx1_st_Z1_0 (p0:(List (Int×(Int×(Int×(Int×Int)))))) (p1:Int) (y4:(Int×(Int×(Int×(Int×(Int×(Int×(Int×(Int×(Int×(Int×(Int×(Int×(Int×(Int×(Int×(Int×Int))))))))))))))))) := (List.getD ((v_tu4 (v_gri p0 (v_cho p1 8) (List.length (v_cho p1 8)))).1 :: ((v_tu4 (v_gri p0 (v_cho p1 8) (List.length (v_cho p1 8)))).2.1 :: ((v_tu4 (v_gri p0 (v_cho p1 8) (List.length (v_cho p1 8)))).2.2.1 :: ((v_tu4 (v_gri p0 (v_cho p1 8) (List.length (v_cho p1 8)))).2.2.2 :: ([]:List Int))))) y4.1.toNat (0:Int))
abbrev qx2_st_Z1_0 (y2:(Int×(Int×(Int×(Int×(Int×(Int×(Int×(Int×(Int×Int)))))))))) (y4:(Int×(Int×(Int×(Int×(Int×(Int×(Int×(Int×(Int×(Int×(Int×(Int×(Int×(Int×(Int×(Int×Int))))))))))))))))) := (v_split ((List.getD ((cond (decide (y2.1 = (0:Int))) (qx0_st_Z1_0 y4).1 y2.2.2.1) :: ((cond (decide (y2.1 = (1:Int))) (qx0_st_Z1_0 y4).1 y2.2.2.2.2.1) :: ((cond (decide (y2.1 = (2:Int))) (qx0_st_Z1_0 y4).1 y2.2.2.2.2.2.2.1) :: ((cond (decide (y2.1 = (3:Int))) (qx0_st_Z1_0 y4).1 y2.2.2.2.2.2.2.2.2.1) :: ([]:List Int))))) y2.1.toNat (0:Int)),(List.getD ((cond (decide (y2.1 = (0:Int))) (qx0_st_Z1_0 y4).2 y2.2.2.2.1) :: ((cond (decide (y2.1 = (1:Int))) (qx0_st_Z1_0 y4).2 y2.2.2.2.2.2.1) :: ((cond (decide (y2.1 = (2:Int))) (qx0_st_Z1_0 y4).2 y2.2.2.2.2.2.2.2.1) :: ((cond (decide (y2.1 = (3:Int))) (qx0_st_Z1_0 y4).2 y2.2.2.2.2.2.2.2.2.2) :: ([]:List Int))))) y2.1.toNat (0:Int))))
def st_Z1_0 (p0:(List (Int×(Int×(Int×(Int×Int)))))) (p1:Int) (y2:(Int×(Int×(Int×(Int×(Int×(Int×(Int×(Int×(Int×Int)))))))))) (y4:(Int×(Int×(Int×(Int×(Int×(Int×(Int×(Int×(Int×(Int×(Int×(Int×(Int×(Int×(Int×(Int×Int))))))))))))))))):(Int×(Int×(Int×(Int×(Int×(Int×(Int×(Int×(Int×(Int×(Int×(Int×(Int×(Int×(Int×(Int×Int)))))))))))))))) ⊕ ((Int×(Int×(Int×(Int×(Int×(Int×(Int×(Int×(Int×Int))))))))) ⊕ ((Int×(Int×(Int×(Int×(Int×(Int×(Int×(Int×Int))))))))×Int)) := (cond (decide (y4.1 < (((v_cho p1 8).length:Nat):Int))) (Sum.inl ((IntKind.i64.wrap (y4.1 + 1)),((cond ((decide (y2.1 = (0:Int))) && (decide (y4.1 = (0:Int)))) (qx1_st_Z1_0 p0 p1 y4) y4.2.1),((cond ((decide (y2.1 = (1:Int))) && (decide (y4.1 = (0:Int)))) (qx1_st_Z1_0 p0 p1 y4) y4.2.2.1),((cond ((decide (y2.1 = (2:Int))) && (decide (y4.1 = (0:Int)))) (qx1_st_Z1_0 p0 p1 y4) y4.2.2.2.1),((cond ((decide (y2.1 = (3:Int))) && (decide (y4.1 = (0:Int)))) (qx1_st_Z1_0 p0 p1 y4) y4.2.2.2.2.1),((cond ((decide (y2.1 = (0:Int))) && (decide (y4.1 = (1:Int)))) (qx1_st_Z1_0 p0 p1 y4) y4.2.2.2.2.2.1),((cond ((decide (y2.1 = (1:Int))) && (decide (y4.1 = (1:Int)))) (qx1_st_Z1_0 p0 p1 y4) y4.2.2.2.2.2.2.1),((cond ((decide (y2.1 = (2:Int))) && (decide (y4.1 = (1:Int)))) (qx1_st_Z1_0 p0 p1 y4) y4.2.2.2.2.2.2.2.1),((cond ((decide (y2.1 = (3:Int))) && (decide (y4.1 = (1:Int)))) (qx1_st_Z1_0 p0 p1 y4) y4.2.2.2.2.2.2.2.2.1),((cond ((decide (y2.1 = (0:Int))) && (decide (y4.1 = (2:Int)))) (qx1_st_Z1_0 p0 p1 y4) y4.2.2.2.2.2.2.2.2.2.1),((cond ((decide (y2.1 = (1:Int))) && (decide (y4.1 = (2:Int)))) (qx1_st_Z1_0 p0 p1 y4) y4.2.2.2.2.2.2.2.2.2.2.1),((cond ((decide (y2.1 = (2:Int))) && (decide (y4.1 = (2:Int)))) (qx1_st_Z1_0 p0 p1 y4) y4.2.2.2.2.2.2.2.2.2.2.2.1),((cond ((decide (y2.1 = (3:Int))) && (decide (y4.1 = (2:Int)))) (qx1_st_Z1_0 p0 p1 y4) y4.2.2.2.2.2.2.2.2.2.2.2.2.1),((cond ((decide (y2.1 = (0:Int))) && (decide (y4.1 = (3:Int)))) (qx1_st_Z1_0 p0 p1 y4) y4.2.2.2.2.2.2.2.2.2.2.2.2.2.1),((cond ((decide (y2.1 = (1:Int))) && (decide (y4.1 = (3:Int)))) (qx1_st_Z1_0 p0 p1 y4) y4.2.2.2.2.2.2.2.2.2.2.2.2.2.2.1),((cond ((decide (y2.1 = (2:Int))) && (decide (y4.1 = (3:Int)))) (qx1_st_Z1_0 p0 p1 y4) y4.2.2.2.2.2.2.2.2.2.2.2.2.2.2.2.1),(cond ((decide (y2.1 = (3:Int))) && (decide (y4.1 = (3:Int)))) (qx1_st_Z1_0 p0 p1 y4) y4.2.2.2.2.2.2.2.2.2.2.2.2.2.2.2.2)))))))))))))))))) (Sum.inr (Sum.inl ((IntKind.i64.wrap (y2.1 + 1)),((v_gcd y2.2.1 ((((Int.tmod (qx2_st_Z1_0 y2 y4).2.1 (v_split (v_w (v_det (v_mat (v_gmi p0 (v_cho p1 8) (List.length (v_cho p1 8))))))).2.2) * 18446744073709551616) + (qx2_st_Z1_0 y2 y4).2.2) % (v_split (v_w (v_det (v_mat (v_gmi p0 (v_cho p1 8) (List.length (v_cho p1 8))))))).2.2)),((cond (decide (y2.1 = (0:Int))) (qx0_st_Z1_0 y4).1 y2.2.2.1),((cond (decide (y2.1 = (0:Int))) (qx0_st_Z1_0 y4).2 y2.2.2.2.1),((cond (decide (y2.1 = (1:Int))) (qx0_st_Z1_0 y4).1 y2.2.2.2.2.1),((cond (decide (y2.1 = (1:Int))) (qx0_st_Z1_0 y4).2 y2.2.2.2.2.2.1),((cond (decide (y2.1 = (2:Int))) (qx0_st_Z1_0 y4).1 y2.2.2.2.2.2.2.1),((cond (decide (y2.1 = (2:Int))) (qx0_st_Z1_0 y4).2 y2.2.2.2.2.2.2.2.1),((cond (decide (y2.1 = (3:Int))) (qx0_st_Z1_0 y4).1 y2.2.2.2.2.2.2.2.2.1),(cond (decide (y2.1 = (3:Int))) (qx0_st_Z1_0 y4).2 y2.2.2.2.2.2.2.2.2.2)))))))))))))
abbrev qx0_sp_Z1_0 (y2:(Int×(Int×(Int×(Int×(Int×(Int×(Int×(Int×(Int×Int)))))))))) (y4:(Int×(Int×(Int×(Int×(Int×(Int×(Int×(Int×(Int×(Int×(Int×(Int×(Int×(Int×(Int×(Int×Int))))))))))))))))) := ((List.getD ((cond (decide (y2.1 = (0:Int))) (v_w (v_det ((y4.2.1,(y4.2.2.1,(y4.2.2.2.1,y4.2.2.2.2.1))),((y4.2.2.2.2.2.1,(y4.2.2.2.2.2.2.1,(y4.2.2.2.2.2.2.2.1,y4.2.2.2.2.2.2.2.2.1))),((y4.2.2.2.2.2.2.2.2.2.1,(y4.2.2.2.2.2.2.2.2.2.2.1,(y4.2.2.2.2.2.2.2.2.2.2.2.1,y4.2.2.2.2.2.2.2.2.2.2.2.2.1))),y4.2.2.2.2.2.2.2.2.2.2.2.2.2))))).1 y2.2.2.1) :: ((cond (decide (y2.1 = (1:Int))) (v_w (v_det ((y4.2.1,(y4.2.2.1,(y4.2.2.2.1,y4.2.2.2.2.1))),((y4.2.2.2.2.2.1,(y4.2.2.2.2.2.2.1,(y4.2.2.2.2.2.2.2.1,y4.2.2.2.2.2.2.2.2.1))),((y4.2.2.2.2.2.2.2.2.2.1,(y4.2.2.2.2.2.2.2.2.2.2.1,(y4.2.2.2.2.2.2.2.2.2.2.2.1,y4.2.2.2.2.2.2.2.2.2.2.2.2.1))),y4.2.2.2.2.2.2.2.2.2.2.2.2.2))))).1 y2.2.2.2.2.1) :: ((cond (decide (y2.1 = (2:Int))) (v_w (v_det ((y4.2.1,(y4.2.2.1,(y4.2.2.2.1,y4.2.2.2.2.1))),((y4.2.2.2.2.2.1,(y4.2.2.2.2.2.2.1,(y4.2.2.2.2.2.2.2.1,y4.2.2.2.2.2.2.2.2.1))),((y4.2.2.2.2.2.2.2.2.2.1,(y4.2.2.2.2.2.2.2.2.2.2.1,(y4.2.2.2.2.2.2.2.2.2.2.2.1,y4.2.2.2.2.2.2.2.2.2.2.2.2.1))),y4.2.2.2.2.2.2.2.2.2.2.2.2.2))))).1 y2.2.2.2.2.2.2.1) :: ((cond (decide (y2.1 = (3:Int))) (v_w (v_det ((y4.2.1,(y4.2.2.1,(y4.2.2.2.1,y4.2.2.2.2.1))),((y4.2.2.2.2.2.1,(y4.2.2.2.2.2.2.1,(y4.2.2.2.2.2.2.2.1,y4.2.2.2.2.2.2.2.2.1))),((y4.2.2.2.2.2.2.2.2.2.1,(y4.2.2.2.2.2.2.2.2.2.2.1,(y4.2.2.2.2.2.2.2.2.2.2.2.1,y4.2.2.2.2.2.2.2.2.2.2.2.2.1))),y4.2.2.2.2.2.2.2.2.2.2.2.2.2))))).1 y2.2.2.2.2.2.2.2.2.1) :: ([]:List Int))))) y2.1.toNat (0:Int)),(List.getD ((cond (decide (y2.1 = (0:Int))) (v_w (v_det ((y4.2.1,(y4.2.2.1,(y4.2.2.2.1,y4.2.2.2.2.1))),((y4.2.2.2.2.2.1,(y4.2.2.2.2.2.2.1,(y4.2.2.2.2.2.2.2.1,y4.2.2.2.2.2.2.2.2.1))),((y4.2.2.2.2.2.2.2.2.2.1,(y4.2.2.2.2.2.2.2.2.2.2.1,(y4.2.2.2.2.2.2.2.2.2.2.2.1,y4.2.2.2.2.2.2.2.2.2.2.2.2.1))),y4.2.2.2.2.2.2.2.2.2.2.2.2.2))))).2 y2.2.2.2.1) :: ((cond (decide (y2.1 = (1:Int))) (v_w (v_det ((y4.2.1,(y4.2.2.1,(y4.2.2.2.1,y4.2.2.2.2.1))),((y4.2.2.2.2.2.1,(y4.2.2.2.2.2.2.1,(y4.2.2.2.2.2.2.2.1,y4.2.2.2.2.2.2.2.2.1))),((y4.2.2.2.2.2.2.2.2.2.1,(y4.2.2.2.2.2.2.2.2.2.2.1,(y4.2.2.2.2.2.2.2.2.2.2.2.1,y4.2.2.2.2.2.2.2.2.2.2.2.2.1))),y4.2.2.2.2.2.2.2.2.2.2.2.2.2))))).2 y2.2.2.2.2.2.1) :: ((cond (decide (y2.1 = (2:Int))) (v_w (v_det ((y4.2.1,(y4.2.2.1,(y4.2.2.2.1,y4.2.2.2.2.1))),((y4.2.2.2.2.2.1,(y4.2.2.2.2.2.2.1,(y4.2.2.2.2.2.2.2.1,y4.2.2.2.2.2.2.2.2.1))),((y4.2.2.2.2.2.2.2.2.2.1,(y4.2.2.2.2.2.2.2.2.2.2.1,(y4.2.2.2.2.2.2.2.2.2.2.2.1,y4.2.2.2.2.2.2.2.2.2.2.2.2.1))),y4.2.2.2.2.2.2.2.2.2.2.2.2.2))))).2 y2.2.2.2.2.2.2.2.1) :: ((cond (decide (y2.1 = (3:Int))) (v_w (v_det ((y4.2.1,(y4.2.2.1,(y4.2.2.2.1,y4.2.2.2.2.1))),((y4.2.2.2.2.2.1,(y4.2.2.2.2.2.2.1,(y4.2.2.2.2.2.2.2.1,y4.2.2.2.2.2.2.2.2.1))),((y4.2.2.2.2.2.2.2.2.2.1,(y4.2.2.2.2.2.2.2.2.2.2.1,(y4.2.2.2.2.2.2.2.2.2.2.2.1,y4.2.2.2.2.2.2.2.2.2.2.2.2.1))),y4.2.2.2.2.2.2.2.2.2.2.2.2.2))))).2 y2.2.2.2.2.2.2.2.2.2) :: ([]:List Int))))) y2.1.toNat (0:Int)))
abbrev qx1_sp_Z1_0 (p0:(List (Int×(Int×(Int×(Int×Int)))))) (p1:Int) := (v_split (v_w (v_det (v_mat (v_gmi p0 (v_cho p1 8) (List.length (v_cho p1 8)))))))
abbrev sp_Z1_0 (p0:(List (Int×(Int×(Int×(Int×Int)))))) (p1:Int) (y2:(Int×(Int×(Int×(Int×(Int×(Int×(Int×(Int×(Int×Int)))))))))) (y4:(Int×(Int×(Int×(Int×(Int×(Int×(Int×(Int×(Int×(Int×(Int×(Int×(Int×(Int×(Int×(Int×Int))))))))))))))))):List Prop := [(((decide (y4.1 < (((v_cho p1 8).length:Nat):Int)))=true)→((0:Int)≤y4.1)),(((decide (y4.1 < (((v_cho p1 8).length:Nat):Int)))=true)→(y4.1 < 4)),(((decide (y4.1 < (((v_cho p1 8).length:Nat):Int)))=true)→((0:Int)≤y2.1)),(((decide (y4.1 < (((v_cho p1 8).length:Nat):Int)))=true)→(y2.1 < 4)),(((decide (y4.1 < (((v_cho p1 8).length:Nat):Int)))=false)→(v_mb ((y4.2.1,(y4.2.2.1,(y4.2.2.2.1,y4.2.2.2.2.1))),((y4.2.2.2.2.2.1,(y4.2.2.2.2.2.2.1,(y4.2.2.2.2.2.2.2.1,y4.2.2.2.2.2.2.2.2.1))),((y4.2.2.2.2.2.2.2.2.2.1,(y4.2.2.2.2.2.2.2.2.2.2.1,(y4.2.2.2.2.2.2.2.2.2.2.2.1,y4.2.2.2.2.2.2.2.2.2.2.2.2.1))),y4.2.2.2.2.2.2.2.2.2.2.2.2.2))))),(((decide (y4.1 < (((v_cho p1 8).length:Nat):Int)))=false)→((0:Int)≤y2.1)),(((decide (y4.1 < (((v_cho p1 8).length:Nat):Int)))=false)→(y2.1 < 4)),(((decide (y4.1 < (((v_cho p1 8).length:Nat):Int)))=false)→(v_wu (qx0_sp_Z1_0 y2 y4))),(((decide (y4.1 < (((v_cho p1 8).length:Nat):Int)))=false)→((qx1_sp_Z1_0 p0 p1).2.2 ≠ (0:Int))),(((decide (y4.1 < (((v_cho p1 8).length:Nat):Int)))=false)→(((0:Int)≤(Int.tmod (v_split (qx0_sp_Z1_0 y2 y4)).2.1 (qx1_sp_Z1_0 p0 p1).2.2))∧((Int.tmod (v_split (qx0_sp_Z1_0 y2 y4)).2.1 (qx1_sp_Z1_0 p0 p1).2.2) < (qx1_sp_Z1_0 p0 p1).2.2))),(((decide (y4.1 < (((v_cho p1 8).length:Nat):Int)))=false)→(((0:Int)≤(v_split (qx0_sp_Z1_0 y2 y4)).2.2)∧((v_split (qx0_sp_Z1_0 y2 y4)).2.2 < 18446744073709551616))),(((decide (y4.1 < (((v_cho p1 8).length:Nat):Int)))=false)→((qx1_sp_Z1_0 p0 p1).2.2 < 18446744073709551616)),(((decide (y4.1 < (((v_cho p1 8).length:Nat):Int)))=false)→(((0:Int)≤y2.2.1)∧(y2.2.1 < 18446744073709551616))),(((decide (y4.1 < (((v_cho p1 8).length:Nat):Int)))=false)→(((0:Int)≤((((Int.tmod (v_split (qx0_sp_Z1_0 y2 y4)).2.1 (qx1_sp_Z1_0 p0 p1).2.2) * 18446744073709551616) + (v_split (qx0_sp_Z1_0 y2 y4)).2.2) % (qx1_sp_Z1_0 p0 p1).2.2))∧(((((Int.tmod (v_split (qx0_sp_Z1_0 y2 y4)).2.1 (qx1_sp_Z1_0 p0 p1).2.2) * 18446744073709551616) + (v_split (qx0_sp_Z1_0 y2 y4)).2.2) % (qx1_sp_Z1_0 p0 p1).2.2) < 18446744073709551616)))]
abbrev qx0_st_Z1_1 (y2:(Int×(Int×(Int×(Int×(Int×(Int×(Int×(Int×(Int×Int)))))))))) (y6:(Int×(Bool×(Int×(Int×(Int×(Int×(Int×(Int×(Int×(Int×Int))))))))))) := (v_over (v_split ((List.getD (y2.2.2.1 :: (y2.2.2.2.2.1 :: (y2.2.2.2.2.2.2.1 :: (y2.2.2.2.2.2.2.2.2.1 :: ([]:List Int))))) y6.1.toNat (0:Int)),(List.getD (y2.2.2.2.1 :: (y2.2.2.2.2.2.1 :: (y2.2.2.2.2.2.2.2.1 :: (y2.2.2.2.2.2.2.2.2.2 :: ([]:List Int))))) y6.1.toNat (0:Int)))).2 y2.2.1)
def st_Z1_1 (_p0:(List (Int×(Int×(Int×(Int×Int)))))) (p1:Int) (y2:(Int×(Int×(Int×(Int×(Int×(Int×(Int×(Int×(Int×Int)))))))))) (y6:(Int×(Bool×(Int×(Int×(Int×(Int×(Int×(Int×(Int×(Int×Int))))))))))):(Int×(Bool×(Int×(Int×(Int×(Int×(Int×(Int×(Int×(Int×Int)))))))))) ⊕ ((Int×(Int×(Int×(Int×(Int×(Int×(Int×(Int×(Int×Int))))))))) ⊕ ((Int×(Int×(Int×(Int×(Int×(Int×(Int×(Int×Int))))))))×Int)) := (cond (decide (y6.1 < (((v_cho p1 8).length:Nat):Int))) (cond (v_split ((List.getD (y2.2.2.1 :: (y2.2.2.2.2.1 :: (y2.2.2.2.2.2.2.1 :: (y2.2.2.2.2.2.2.2.2.1 :: ([]:List Int))))) y6.1.toNat (0:Int)),(List.getD (y2.2.2.2.1 :: (y2.2.2.2.2.2.1 :: (y2.2.2.2.2.2.2.2.1 :: (y2.2.2.2.2.2.2.2.2.2 :: ([]:List Int))))) y6.1.toNat (0:Int)))).1 (Sum.inl ((IntKind.i64.wrap (y6.1 + 1)),((cond y6.2.1 (qx0_st_Z1_1 y2 y6).2 false),(y6.2.2.1,((cond (decide ((List.getD (v_cho p1 8) y6.1.toNat (0:Int))=(0:Int))) (IntKind.i64.wrap ((0:Int) - (IntKind.i64.wrap (qx0_st_Z1_1 y2 y6).1))) (cond (decide ((List.getD (v_cho p1 8) y6.1.toNat (0:Int))=(0:Int))) (IntKind.i64.wrap (qx0_st_Z1_1 y2 y6).1) y6.2.2.2.1)),((cond (decide ((List.getD (v_cho p1 8) y6.1.toNat (0:Int))=(1:Int))) (IntKind.i64.wrap ((0:Int) - (IntKind.i64.wrap (qx0_st_Z1_1 y2 y6).1))) (cond (decide ((List.getD (v_cho p1 8) y6.1.toNat (0:Int))=(1:Int))) (IntKind.i64.wrap (qx0_st_Z1_1 y2 y6).1) y6.2.2.2.2.1)),((cond (decide ((List.getD (v_cho p1 8) y6.1.toNat (0:Int))=(2:Int))) (IntKind.i64.wrap ((0:Int) - (IntKind.i64.wrap (qx0_st_Z1_1 y2 y6).1))) (cond (decide ((List.getD (v_cho p1 8) y6.1.toNat (0:Int))=(2:Int))) (IntKind.i64.wrap (qx0_st_Z1_1 y2 y6).1) y6.2.2.2.2.2.1)),((cond (decide ((List.getD (v_cho p1 8) y6.1.toNat (0:Int))=(3:Int))) (IntKind.i64.wrap ((0:Int) - (IntKind.i64.wrap (qx0_st_Z1_1 y2 y6).1))) (cond (decide ((List.getD (v_cho p1 8) y6.1.toNat (0:Int))=(3:Int))) (IntKind.i64.wrap (qx0_st_Z1_1 y2 y6).1) y6.2.2.2.2.2.2.1)),((cond (decide ((List.getD (v_cho p1 8) y6.1.toNat (0:Int))=(4:Int))) (IntKind.i64.wrap ((0:Int) - (IntKind.i64.wrap (qx0_st_Z1_1 y2 y6).1))) (cond (decide ((List.getD (v_cho p1 8) y6.1.toNat (0:Int))=(4:Int))) (IntKind.i64.wrap (qx0_st_Z1_1 y2 y6).1) y6.2.2.2.2.2.2.2.1)),((cond (decide ((List.getD (v_cho p1 8) y6.1.toNat (0:Int))=(5:Int))) (IntKind.i64.wrap ((0:Int) - (IntKind.i64.wrap (qx0_st_Z1_1 y2 y6).1))) (cond (decide ((List.getD (v_cho p1 8) y6.1.toNat (0:Int))=(5:Int))) (IntKind.i64.wrap (qx0_st_Z1_1 y2 y6).1) y6.2.2.2.2.2.2.2.2.1)),((cond (decide ((List.getD (v_cho p1 8) y6.1.toNat (0:Int))=(6:Int))) (IntKind.i64.wrap ((0:Int) - (IntKind.i64.wrap (qx0_st_Z1_1 y2 y6).1))) (cond (decide ((List.getD (v_cho p1 8) y6.1.toNat (0:Int))=(6:Int))) (IntKind.i64.wrap (qx0_st_Z1_1 y2 y6).1) y6.2.2.2.2.2.2.2.2.2.1)),(cond (decide ((List.getD (v_cho p1 8) y6.1.toNat (0:Int))=(7:Int))) (IntKind.i64.wrap ((0:Int) - (IntKind.i64.wrap (qx0_st_Z1_1 y2 y6).1))) (cond (decide ((List.getD (v_cho p1 8) y6.1.toNat (0:Int))=(7:Int))) (IntKind.i64.wrap (qx0_st_Z1_1 y2 y6).1) y6.2.2.2.2.2.2.2.2.2.2))))))))))))) (Sum.inl ((IntKind.i64.wrap (y6.1 + 1)),((cond y6.2.1 (qx0_st_Z1_1 y2 y6).2 false),(y6.2.2.1,((cond (decide ((List.getD (v_cho p1 8) y6.1.toNat (0:Int))=(0:Int))) (IntKind.i64.wrap (qx0_st_Z1_1 y2 y6).1) y6.2.2.2.1),((cond (decide ((List.getD (v_cho p1 8) y6.1.toNat (0:Int))=(1:Int))) (IntKind.i64.wrap (qx0_st_Z1_1 y2 y6).1) y6.2.2.2.2.1),((cond (decide ((List.getD (v_cho p1 8) y6.1.toNat (0:Int))=(2:Int))) (IntKind.i64.wrap (qx0_st_Z1_1 y2 y6).1) y6.2.2.2.2.2.1),((cond (decide ((List.getD (v_cho p1 8) y6.1.toNat (0:Int))=(3:Int))) (IntKind.i64.wrap (qx0_st_Z1_1 y2 y6).1) y6.2.2.2.2.2.2.1),((cond (decide ((List.getD (v_cho p1 8) y6.1.toNat (0:Int))=(4:Int))) (IntKind.i64.wrap (qx0_st_Z1_1 y2 y6).1) y6.2.2.2.2.2.2.2.1),((cond (decide ((List.getD (v_cho p1 8) y6.1.toNat (0:Int))=(5:Int))) (IntKind.i64.wrap (qx0_st_Z1_1 y2 y6).1) y6.2.2.2.2.2.2.2.2.1),((cond (decide ((List.getD (v_cho p1 8) y6.1.toNat (0:Int))=(6:Int))) (IntKind.i64.wrap (qx0_st_Z1_1 y2 y6).1) y6.2.2.2.2.2.2.2.2.2.1),(cond (decide ((List.getD (v_cho p1 8) y6.1.toNat (0:Int))=(7:Int))) (IntKind.i64.wrap (qx0_st_Z1_1 y2 y6).1) y6.2.2.2.2.2.2.2.2.2.2))))))))))))) (cond (!y6.2.1) (Sum.inr (Sum.inr (((0:Int),((0:Int),((0:Int),((0:Int),((0:Int),((0:Int),((0:Int),(0,0)))))))),(8:Int)))) (Sum.inr (Sum.inr (y6.2.2,(0:Int))))))
abbrev sp_Z1_1 (_p0:(List (Int×(Int×(Int×(Int×Int)))))) (p1:Int) (y2:(Int×(Int×(Int×(Int×(Int×(Int×(Int×(Int×(Int×Int)))))))))) (y6:(Int×(Bool×(Int×(Int×(Int×(Int×(Int×(Int×(Int×(Int×Int))))))))))):List Prop := [(((decide (y6.1 < (((v_cho p1 8).length:Nat):Int)))=true)→((0:Int)≤y6.1)),(((decide (y6.1 < (((v_cho p1 8).length:Nat):Int)))=true)→(y6.1 < (((v_cho p1 8).length:Nat):Int))),(((decide (y6.1 < (((v_cho p1 8).length:Nat):Int)))=true)→(y6.1 < 4)),(((decide (y6.1 < (((v_cho p1 8).length:Nat):Int)))=true)→(v_wu ((List.getD (y2.2.2.1 :: (y2.2.2.2.2.1 :: (y2.2.2.2.2.2.2.1 :: (y2.2.2.2.2.2.2.2.2.1 :: ([]:List Int))))) y6.1.toNat (0:Int)),(List.getD (y2.2.2.2.1 :: (y2.2.2.2.2.2.1 :: (y2.2.2.2.2.2.2.2.1 :: (y2.2.2.2.2.2.2.2.2.2 :: ([]:List Int))))) y6.1.toNat (0:Int))))),(((decide (y6.1 < (((v_cho p1 8).length:Nat):Int)))=true)→(v_wu (v_split ((List.getD (y2.2.2.1 :: (y2.2.2.2.2.1 :: (y2.2.2.2.2.2.2.1 :: (y2.2.2.2.2.2.2.2.2.1 :: ([]:List Int))))) y6.1.toNat (0:Int)),(List.getD (y2.2.2.2.1 :: (y2.2.2.2.2.2.1 :: (y2.2.2.2.2.2.2.2.1 :: (y2.2.2.2.2.2.2.2.2.2 :: ([]:List Int))))) y6.1.toNat (0:Int)))).2)),(((decide (y6.1 < (((v_cho p1 8).length:Nat):Int)))=true)→(((0:Int) < y2.2.1)∧(y2.2.1 < 18446744073709551616))),(((decide (y6.1 < (((v_cho p1 8).length:Nat):Int)))=true)→((0:Int)≤(List.getD (v_cho p1 8) y6.1.toNat (0:Int)))),(((decide (y6.1 < (((v_cho p1 8).length:Nat):Int)))=true)→((List.getD (v_cho p1 8) y6.1.toNat (0:Int)) < 8)),(((decide (y6.1 < (((v_cho p1 8).length:Nat):Int)))=true)→(((v_split ((List.getD (y2.2.2.1 :: (y2.2.2.2.2.1 :: (y2.2.2.2.2.2.2.1 :: (y2.2.2.2.2.2.2.2.2.1 :: ([]:List Int))))) y6.1.toNat (0:Int)),(List.getD (y2.2.2.2.1 :: (y2.2.2.2.2.2.1 :: (y2.2.2.2.2.2.2.2.1 :: (y2.2.2.2.2.2.2.2.2.2 :: ([]:List Int))))) y6.1.toNat (0:Int)))).1 = true)→((0:Int)≤(List.getD (v_cho p1 8) y6.1.toNat (0:Int))))),(((decide (y6.1 < (((v_cho p1 8).length:Nat):Int)))=true)→(((v_split ((List.getD (y2.2.2.1 :: (y2.2.2.2.2.1 :: (y2.2.2.2.2.2.2.1 :: (y2.2.2.2.2.2.2.2.2.1 :: ([]:List Int))))) y6.1.toNat (0:Int)),(List.getD (y2.2.2.2.1 :: (y2.2.2.2.2.2.1 :: (y2.2.2.2.2.2.2.2.1 :: (y2.2.2.2.2.2.2.2.2.2 :: ([]:List Int))))) y6.1.toNat (0:Int)))).1 = true)→((List.getD (v_cho p1 8) y6.1.toNat (0:Int)) < 8)))]
def st_Z1_2 (p0:(List (Int×(Int×(Int×(Int×Int)))))) (p1:Int) (y2:(Int×(Int×(Int×(Int×(Int×(Int×(Int×(Int×(Int×Int)))))))))):(Int×(Int×(Int×(Int×(Int×(Int×(Int×(Int×(Int×Int))))))))) ⊕ ((Int×(Int×(Int×(Int×(Int×(Int×(Int×(Int×Int))))))))×Int) := (cond (decide (y2.1 < (((v_cho p1 8).length:Nat):Int))) (lpv (Sum.inr (((0:Int),((0:Int),((0:Int),((0:Int),((0:Int),((0:Int),((0:Int),(0,0)))))))),(0:Int))) (st_Z1_0 p0 p1 y2) ((0:Int),((v_mat (v_gmi p0 (v_cho p1 8) (List.length (v_cho p1 8)))).1.1,((v_mat (v_gmi p0 (v_cho p1 8) (List.length (v_cho p1 8)))).1.2.1,((v_mat (v_gmi p0 (v_cho p1 8) (List.length (v_cho p1 8)))).1.2.2.1,((v_mat (v_gmi p0 (v_cho p1 8) (List.length (v_cho p1 8)))).1.2.2.2,((v_mat (v_gmi p0 (v_cho p1 8) (List.length (v_cho p1 8)))).2.1.1,((v_mat (v_gmi p0 (v_cho p1 8) (List.length (v_cho p1 8)))).2.1.2.1,((v_mat (v_gmi p0 (v_cho p1 8) (List.length (v_cho p1 8)))).2.1.2.2.1,((v_mat (v_gmi p0 (v_cho p1 8) (List.length (v_cho p1 8)))).2.1.2.2.2,((v_mat (v_gmi p0 (v_cho p1 8) (List.length (v_cho p1 8)))).2.2.1.1,((v_mat (v_gmi p0 (v_cho p1 8) (List.length (v_cho p1 8)))).2.2.1.2.1,((v_mat (v_gmi p0 (v_cho p1 8) (List.length (v_cho p1 8)))).2.2.1.2.2.1,((v_mat (v_gmi p0 (v_cho p1 8) (List.length (v_cho p1 8)))).2.2.1.2.2.2,(v_mat (v_gmi p0 (v_cho p1 8) (List.length (v_cho p1 8)))).2.2.2)))))))))))))) (lpv (Sum.inr (((0:Int),((0:Int),((0:Int),((0:Int),((0:Int),((0:Int),((0:Int),(0,0)))))))),(0:Int))) (st_Z1_1 p0 p1 y2) ((0:Int),((v_over (v_split (v_w (v_det (v_mat (v_gmi p0 (v_cho p1 8) (List.length (v_cho p1 8))))))).2 y2.2.1).2,((IntKind.i64.wrap (v_over (v_split (v_w (v_det (v_mat (v_gmi p0 (v_cho p1 8) (List.length (v_cho p1 8))))))).2 y2.2.1).1),((0:Int),((0:Int),((0:Int),((0:Int),((0:Int),((0:Int),(0,0))))))))))))
abbrev sp_Z1_2 (p0:(List (Int×(Int×(Int×(Int×Int)))))) (p1:Int) (y2:(Int×(Int×(Int×(Int×(Int×(Int×(Int×(Int×(Int×Int)))))))))):List Prop := [(((decide (y2.1 < (((v_cho p1 8).length:Nat):Int)))=true)→(OkL (st_Z1_0 p0 p1 y2) (sp_Z1_0 p0 p1 y2) ((0:Int),((v_mat (v_gmi p0 (v_cho p1 8) (List.length (v_cho p1 8)))).1.1,((v_mat (v_gmi p0 (v_cho p1 8) (List.length (v_cho p1 8)))).1.2.1,((v_mat (v_gmi p0 (v_cho p1 8) (List.length (v_cho p1 8)))).1.2.2.1,((v_mat (v_gmi p0 (v_cho p1 8) (List.length (v_cho p1 8)))).1.2.2.2,((v_mat (v_gmi p0 (v_cho p1 8) (List.length (v_cho p1 8)))).2.1.1,((v_mat (v_gmi p0 (v_cho p1 8) (List.length (v_cho p1 8)))).2.1.2.1,((v_mat (v_gmi p0 (v_cho p1 8) (List.length (v_cho p1 8)))).2.1.2.2.1,((v_mat (v_gmi p0 (v_cho p1 8) (List.length (v_cho p1 8)))).2.1.2.2.2,((v_mat (v_gmi p0 (v_cho p1 8) (List.length (v_cho p1 8)))).2.2.1.1,((v_mat (v_gmi p0 (v_cho p1 8) (List.length (v_cho p1 8)))).2.2.1.2.1,((v_mat (v_gmi p0 (v_cho p1 8) (List.length (v_cho p1 8)))).2.2.1.2.2.1,((v_mat (v_gmi p0 (v_cho p1 8) (List.length (v_cho p1 8)))).2.2.1.2.2.2,(v_mat (v_gmi p0 (v_cho p1 8) (List.length (v_cho p1 8)))).2.2.2))))))))))))))),(((decide (y2.1 < (((v_cho p1 8).length:Nat):Int)))=false)→(v_wu (v_split (v_w (v_det (v_mat (v_gmi p0 (v_cho p1 8) (List.length (v_cho p1 8))))))).2)),(((decide (y2.1 < (((v_cho p1 8).length:Nat):Int)))=false)→(((0:Int) < y2.2.1)∧(y2.2.1 < 18446744073709551616))),(((decide (y2.1 < (((v_cho p1 8).length:Nat):Int)))=false)→(OkL (st_Z1_1 p0 p1 y2) (sp_Z1_1 p0 p1 y2) ((0:Int),((v_over (v_split (v_w (v_det (v_mat (v_gmi p0 (v_cho p1 8) (List.length (v_cho p1 8))))))).2 y2.2.1).2,((IntKind.i64.wrap (v_over (v_split (v_w (v_det (v_mat (v_gmi p0 (v_cho p1 8) (List.length (v_cho p1 8))))))).2 y2.2.1).1),((0:Int),((0:Int),((0:Int),((0:Int),((0:Int),((0:Int),(0,0))))))))))))]
def s_Z1 (p0:(List (Int×(Int×(Int×(Int×Int)))))) (p1:Int):((Int×(Int×(Int×(Int×(Int×(Int×(Int×(Int×Int))))))))×Int) := (cond ((v_first ((v_cs p0).2 :: ((v_terr p1) :: ([]:List Int)))) != 0) (((0:Int),((0:Int),((0:Int),((0:Int),((0:Int),((0:Int),((0:Int),(0,0)))))))),(v_first ((v_cs p0).2 :: ((v_terr p1) :: ([]:List Int))))) (cond (((v_split (v_w (v_det (v_mat (v_gmi p0 (v_cho p1 8) (List.length (v_cho p1 8))))))).2.1 == 0) && (((v_split (v_w (v_det (v_mat (v_gmi p0 (v_cho p1 8) (List.length (v_cho p1 8))))))).2.2 == 0) && true)) (((0:Int),((0:Int),((0:Int),((0:Int),((0:Int),((0:Int),((0:Int),(0,0)))))))),(12:Int)) (lpv (((0:Int),((0:Int),((0:Int),((0:Int),((0:Int),((0:Int),((0:Int),(0,0)))))))),(0:Int)) (st_Z1_2 p0 p1) ((0:Int),((v_split (v_w (v_det (v_mat (v_gmi p0 (v_cho p1 8) (List.length (v_cho p1 8))))))).2.2,((0:Int),((0:Int),((0:Int),((0:Int),((0:Int),((0:Int),(0,0))))))))))))
abbrev pre_Z1 (p0:(List (Int×(Int×(Int×(Int×Int)))))) (p1:Int):List Prop := [((((v_first ((v_cs p0).2 :: ((v_terr p1) :: ([]:List Int)))) != 0)=false)→(v_smp p0)),((((v_first ((v_cs p0).2 :: ((v_terr p1) :: ([]:List Int)))) != 0)=false)→((List.length (v_cho p1 8))≤4)),((((v_first ((v_cs p0).2 :: ((v_terr p1) :: ([]:List Int)))) != 0)=false)→(v_c8 (v_cho p1 8))),((((v_first ((v_cs p0).2 :: ((v_terr p1) :: ([]:List Int)))) != 0)=false)→(v_mb (v_mat (v_gmi p0 (v_cho p1 8) (List.length (v_cho p1 8)))))),((((v_first ((v_cs p0).2 :: ((v_terr p1) :: ([]:List Int)))) != 0)=false)→(v_wu (v_w (v_det (v_mat (v_gmi p0 (v_cho p1 8) (List.length (v_cho p1 8)))))))),((((v_first ((v_cs p0).2 :: ((v_terr p1) :: ([]:List Int)))) != 0)=false)→(((((v_split (v_w (v_det (v_mat (v_gmi p0 (v_cho p1 8) (List.length (v_cho p1 8))))))).2.1 == 0) && (((v_split (v_w (v_det (v_mat (v_gmi p0 (v_cho p1 8) (List.length (v_cho p1 8))))))).2.2 == 0) && true))=false)→(OkL (st_Z1_2 p0 p1) (sp_Z1_2 p0 p1) ((0:Int),((v_split (v_w (v_det (v_mat (v_gmi p0 (v_cho p1 8) (List.length (v_cho p1 8))))))).2.2,((0:Int),((0:Int),((0:Int),((0:Int),((0:Int),((0:Int),(0,0))))))))))))]
theorem d_Z1 (p0:(List (Int×(Int×(Int×(Int×Int)))))) (p1:Int) (K:((Int×(Int×(Int×(Int×(Int×(Int×(Int×(Int×Int))))))))×Int)→Prop) (hp:∀ p∈pre_Z1 p0 p1,p) (h:K (s_Z1 p0 p1)):w_Z1 p0 p1 K := by
 unfold w_Z1
 unfold s_Z1 at h
 obtain ⟨hp0,hp1,hp2,hp3,hp4,hp5,_⟩ := conj_of hp
 exact ⟨(lenOk_of 2 rfl (by decide)),(br' h (fun e0 h => h)
  (fun e0 h => ⟨(hp0 e0),(hp1 e0),(hp2 e0),(hp3 e0),(hp4 e0),(br' h (fun e1 h => h)
  (fun e1 h => (loop_gen (hp5 e0 e1) h (fun y2 k2 hp h => by
 unfold st_Z1_2 at h; obtain ⟨hp0,hp1,hp2,hp3,_⟩ := conj_of hp
 exact (br' h (fun e3 h => (loop_gen (hp0 e3) h (fun y4 k4 hp h => by
 unfold st_Z1_0 at h; obtain ⟨hp0,hp1,hp2,hp3,hp4,hp5,hp6,hp7,hp8,hp9,hp10,hp11,hp12,hp13,_⟩ := conj_of hp
 exact (br' h (fun e5 h => ⟨(hp0 e5),(hp1 e5),(hp0 e5),(hp1 e5),(hp2 e5),(hp3 e5),h⟩)
  (fun e5 h => ⟨(hp4 e5),(hp5 e5),(hp6 e5),(hp5 e5),(hp6 e5),(hp7 e5),(hp8 e5),(hp9 e5),(hp10 e5),(hp11 e5),(hp12 e5),(hp13 e5),h⟩)))))
  (fun e3 h => ⟨(hp1 e3),(hp2 e3),(loop_gen (hp3 e3) h (fun y6 k6 hp h => by
 unfold st_Z1_1 at h; obtain ⟨hp0,hp1,hp2,hp3,hp4,hp5,hp6,hp7,hp8,hp9,_⟩ := conj_of hp
 exact (br' h (fun e7 h => ⟨(hp0 e7),(hp1 e7),(hp0 e7),(hp2 e7),(hp3 e7),(hp4 e7),(hp5 e7),rfl,(hp6 e7),(hp7 e7),(br' h (fun e8 h => ⟨(hp8 e7 e8),(hp9 e7 e8),h⟩)
  (fun e8 h => h))⟩)
  (fun e7 h => (br' h (fun e9 h => h)
  (fun e9 h => h))))))⟩))))))⟩))⟩
theorem v_ps_lin {a b:Int} (h:∀ t:Int,0≤2 * t * a + b):a = 0 := by
 have h1 := h (b + 1)
 have h2 := h (-(b + 1))
 have hb:0≤b := by have := h 0; simpa using this
 rcases Int.lt_trichotomy a 0 with c | c | c
 ·have h3:(b + 1) * (-a) ≥ (b + 1) * 1 := Int.mul_le_mul_of_nonneg_left (by omega) (by omega)
  have e:2 * (b + 1) * a = -(2 * ((b + 1) * -a)) := by grind
  rw [e] at h1; omega
 ·exact c
 ·have h3:(b + 1) * a ≥ (b + 1) * 1 := Int.mul_le_mul_of_nonneg_left (by omega) (by omega)
  have e:2 * -(b + 1) * a = -(2 * ((b + 1) * a)) := by grind
  rw [e] at h2; omega
def v_qdr (a b c d e f g h i j w x y z:Int):Int := a * w * w + e * x * x + h * y * y + j * z * z + 2 * (b * w * x + c * w * y + d * w * z + f * x * y + g * x * z + i * y * z)
/-- A symmetric matrix whose form is nowhere below 0. -/
def v_psd (a b c d e f g h i j:Int):Prop := ∀ w x y z:Int,0≤v_qdr a b c d e f g h i j w x y z
def v_d2 (a b e:Int):Int := a * e - b * b
def v_d3 (a b c e f h:Int):Int := a * (e * h - f * f) - b * (b * h - c * f) + c * (b * f - c * e)
/-- Cofactors of the last row. -/
def v_k1 (b c d e f g h i:Int):Int := -(b * (f * i - g * h) - c * (e * i - f * g) + d * (e * h - f * f))
def v_k2 (a b c d f g h i:Int):Int := a * (f * i - g * h) - c * (b * i - c * g) + d * (b * h - c * f)
def v_k3 (a b c d e f g i:Int):Int := -(a * (e * i - f * g) - b * (b * i - c * g) + d * (b * f - c * e))
def v_d4 (a b c d e f g h i j:Int):Int := d * v_k1 b c d e f g h i + g * v_k2 a b c d f g h i + i * v_k3 a b c d e f g i + j * v_d3 a b c e f h
section
variable {a b c d e f g h i j:Int}
/-- Where the form is 0 the matrix makes 0. -/
theorem v_psd_null (hp:v_psd a b c d e f g h i j) {w x y z:Int} (h0:v_qdr a b c d e f g h i j w x y z = 0) :
  a * w + b * x + c * y + d * z = 0∧b * w + e * x + f * y + g * z = 0∧c * w + f * x + h * y + i * z = 0∧d * w + g * x + i * y + j * z = 0 := by
 refine ⟨?_,?_,?_,?_⟩
 ·refine v_ps_lin (b := a) fun t => ?_
  have := hp (t * w + 1) (t * x) (t * y) (t * z)
  have e:v_qdr a b c d e f g h i j (t * w + 1) (t * x) (t * y) (t * z)=t * t * v_qdr a b c d e f g h i j w x y z + (2 * t * (a * w + b * x + c * y + d * z) + a) := by unfold v_qdr; grind
  rw [e,h0,Int.mul_zero,Int.zero_add] at this; exact this
 ·refine v_ps_lin (b := e) fun t => ?_
  have := hp (t * w) (t * x + 1) (t * y) (t * z)
  have e:v_qdr a b c d e f g h i j (t * w) (t * x + 1) (t * y) (t * z)=t * t * v_qdr a b c d e f g h i j w x y z + (2 * t * (b * w + e * x + f * y + g * z) + e) := by unfold v_qdr; grind
  rw [e,h0,Int.mul_zero,Int.zero_add] at this; exact this
 ·refine v_ps_lin (b := h) fun t => ?_
  have := hp (t * w) (t * x) (t * y + 1) (t * z)
  have e:v_qdr a b c d e f g h i j (t * w) (t * x) (t * y + 1) (t * z)=t * t * v_qdr a b c d e f g h i j w x y z + (2 * t * (c * w + f * x + h * y + i * z) + h) := by unfold v_qdr; grind
  rw [e,h0,Int.mul_zero,Int.zero_add] at this; exact this
 ·refine v_ps_lin (b := j) fun t => ?_
  have := hp (t * w) (t * x) (t * y) (t * z + 1)
  have e:v_qdr a b c d e f g h i j (t * w) (t * x) (t * y) (t * z + 1)=t * t * v_qdr a b c d e f g h i j w x y z + (2 * t * (d * w + g * x + i * y + j * z) + j) := by unfold v_qdr; grind
  rw [e,h0,Int.mul_zero,Int.zero_add] at this; exact this
theorem v_pos_of {x y:Int} (h:0≤x * y) (hx:0 < x):0≤y := by
 rcases Int.lt_or_le y 0 with c | c
 ·exact absurd (Int.mul_neg_of_pos_of_neg hx c) (by omega)
 ·exact c
theorem v_psd_1 (hp:v_psd a b c d e f g h i j):0≤a := by
 have := hp 1 0 0 0
 unfold v_qdr at this
 simpa using this
theorem v_psd_2 (hp:v_psd a b c d e f g h i j) (h1:0 < a):0≤v_d2 a b e := by
 have := hp (-b) a 0 0
 refine v_pos_of (x := a) ?_ h1
 have e:v_qdr a b c d e f g h i j (-b) a 0 0 = a * v_d2 a b e := by unfold v_qdr v_d2; grind
 rw [e] at this; exact this
theorem v_psd_3 (hp:v_psd a b c d e f g h i j) (h2:0 < v_d2 a b e):0≤v_d3 a b c e f h := by
 have := hp (b * f - c * e) (b * c - a * f) (v_d2 a b e) 0
 refine v_pos_of (x := v_d2 a b e) ?_ h2
 have e:v_qdr a b c d e f g h i j (b * f - c * e) (b * c - a * f) (v_d2 a b e) 0 = v_d2 a b e * v_d3 a b c e f h := by unfold v_qdr v_d2 v_d3; grind
 rw [e] at this; exact this
theorem v_psd_4e:v_qdr a b c d e f g h i j (v_k1 b c d e f g h i) (v_k2 a b c d f g h i) (v_k3 a b c d e f g i) (v_d3 a b c e f h)=v_d3 a b c e f h * v_d4 a b c d e f g h i j := by
 unfold v_qdr v_d4 v_d3 v_k1 v_k2 v_k3; grind
theorem v_psd_4 (hp:v_psd a b c d e f g h i j) (h3:0 < v_d3 a b c e f h):0≤v_d4 a b c d e f g h i j := by
 have := hp (v_k1 b c d e f g h i) (v_k2 a b c d f g h i) (v_k3 a b c d e f g i) (v_d3 a b c e f h)
 refine v_pos_of (x := v_d3 a b c e f h) ?_ h3
 rw [v_psd_4e] at this; exact this
theorem v_mul0 {x y:Int} (h:x * y = 0) (hx:0 < x):y = 0 := by
 rcases Int.mul_eq_zero.1 h with c | c
 ·omega
 ·exact c
/-- A first number that is 0 makes all later ones 0. -/
theorem v_psd_z1 (hp:v_psd a b c d e f g h i j) (h1:a = 0):v_d2 a b e = 0∧v_d3 a b c e f h = 0∧v_d4 a b c d e f g h i j = 0 := by
 obtain ⟨r1,r2,r3,r4⟩ := v_psd_null hp (w := 1) (x := 0) (y := 0) (z := 0) (by unfold v_qdr; rw [h1]; simp)
 have r2:b = 0 := by omega
 have r3:c = 0 := by omega
 have r4:d = 0 := by omega
 subst h1 r2 r3 r4
 unfold v_d4 v_d3 v_d2 v_k1 v_k2 v_k3
 simp
theorem v_psd_z2 (hp:v_psd a b c d e f g h i j) (h1:0 < a) (h2:v_d2 a b e = 0):v_d3 a b c e f h = 0∧v_d4 a b c d e f g h i j = 0 := by
 have q:v_qdr a b c d e f g h i j (-b) a 0 0 = a * v_d2 a b e := by unfold v_qdr v_d2; grind
 obtain ⟨r1,r2,r3,r4⟩ := v_psd_null hp (q.trans (by rw [h2,Int.mul_zero]))
 refine ⟨v_mul0 (x := a) ?_ h1,v_mul0 (x := a) ?_ h1⟩
 ·unfold v_d3 v_d2 at *; grind
 ·unfold v_d4 v_d3 v_d2 v_k1 v_k2 v_k3 at *; grind
theorem v_psd_z3 (hp:v_psd a b c d e f g h i j) (h2:0 < v_d2 a b e) (h3:v_d3 a b c e f h = 0):v_d4 a b c d e f g h i j = 0 := by
 have q:v_qdr a b c d e f g h i j (b * f - c * e) (b * c - a * f) (v_d2 a b e) 0 = v_d2 a b e * v_d3 a b c e f h := by unfold v_qdr v_d2 v_d3; grind
 obtain ⟨r1,r2,r3,r4⟩ := v_psd_null hp (q.trans (by rw [h3,Int.mul_zero]))
 refine v_mul0 (x := v_d2 a b e) ?_ h2
 unfold v_d4 v_d3 v_d2 v_k1 v_k2 v_k3 at *; grind
theorem v_psd_dg (hp:v_psd a b c d e f g h i j):0≤a∧0≤e∧0≤h∧0≤j := by
 have h1 := hp 1 0 0 0
 have h2 := hp 0 1 0 0
 have h3 := hp 0 0 1 0
 have h4 := hp 0 0 0 1
 unfold v_qdr at h1 h2 h3 h4
 simp at h1 h2 h3 h4
 exact ⟨h1,h2,h3,h4⟩
/-- All leading numbers are from 0 on. -/
theorem v_psd_n2 (hp:v_psd a b c d e f g h i j):0≤v_d2 a b e := by
 rcases Int.lt_or_eq_of_le (v_psd_1 hp) with p | p
 ·exact v_psd_2 hp p
 ·rw [(v_psd_z1 hp p.symm).1]; decide
theorem v_psd_n3 (hp:v_psd a b c d e f g h i j):0≤v_d3 a b c e f h := by
 rcases Int.lt_or_eq_of_le (v_psd_1 hp) with p | p
 ·rcases Int.lt_or_eq_of_le (v_psd_n2 hp) with q | q
  ·exact v_psd_3 hp q
  ·rw [(v_psd_z2 hp p q.symm).1]; decide
 ·rw [(v_psd_z1 hp p.symm).2.1]; decide
theorem v_psd_n4 (hp:v_psd a b c d e f g h i j):0≤v_d4 a b c d e f g h i j := by
 rcases Int.lt_or_eq_of_le (v_psd_1 hp) with p | p
 ·rcases Int.lt_or_eq_of_le (v_psd_n2 hp) with q | q
  ·rcases Int.lt_or_eq_of_le (v_psd_n3 hp) with r | r
   ·exact v_psd_4 hp r
   ·rw [v_psd_z3 hp q r.symm]; decide
  ·rw [(v_psd_z2 hp p q.symm).2]; decide
 ·rw [(v_psd_z1 hp p.symm).2.2]; decide
theorem v_psd_o3 (hp:v_psd a b c d e f g h i j) (h2:v_d2 a b e = 0):v_d3 a b c e f h = 0 := by
 rcases Int.lt_or_eq_of_le (v_psd_1 hp) with p | p
 ·exact (v_psd_z2 hp p h2).1
 ·exact (v_psd_z1 hp p.symm).2.1
theorem v_psd_o4 (hp:v_psd a b c d e f g h i j) (h3:v_d3 a b c e f h = 0):v_d4 a b c d e f g h i j = 0 := by
 rcases Int.lt_or_eq_of_le (v_psd_1 hp) with p | p
 ·rcases Int.lt_or_eq_of_le (v_psd_n2 hp) with q | q
  ·exact v_psd_z3 hp q h3
  ·exact (v_psd_z2 hp p q.symm).2
 ·exact (v_psd_z1 hp p.symm).2.2
/-- Each number is at most the one ahead of it times the entry. -/
theorem v_psd_f2:v_d2 a b e≤a * e := by
 have:0≤b * b := by rcases Int.le_total 0 b with q | q <;> first | exact Int.mul_nonneg q q | exact Int.mul_nonneg_of_nonpos_of_nonpos q q
 unfold v_d2; omega
theorem v_psd_f3 (hp:v_psd a b c d e f g h i j):v_d3 a b c e f h≤v_d2 a b e * h := by
 rcases Int.lt_or_eq_of_le (v_psd_n2 hp) with q | q
 ·have := hp (e * c - b * f) (a * f - b * c) 0 0
  have e1:v_qdr a b c d e f g h i j (e * c - b * f) (a * f - b * c) 0 0 = v_d2 a b e * (v_d2 a b e * h - v_d3 a b c e f h) := by unfold v_qdr v_d2 v_d3; grind
  rw [e1] at this
  have := v_pos_of this q
  omega
 ·rw [v_psd_o3 hp q.symm,← q,Int.zero_mul]; decide
theorem v_psd_f4 (hp:v_psd a b c d e f g h i j):v_d4 a b c d e f g h i j≤v_d3 a b c e f h * j := by
 rcases Int.lt_or_eq_of_le (v_psd_n3 hp) with q | q
 ·have := hp (v_k1 b c d e f g h i) (v_k2 a b c d f g h i) (v_k3 a b c d e f g i) 0
  have e1:v_qdr a b c d e f g h i j (v_k1 b c d e f g h i) (v_k2 a b c d f g h i) (v_k3 a b c d e f g i) 0 = v_d3 a b c e f h * (v_d3 a b c e f h * j - v_d4 a b c d e f g h i j) := by unfold v_qdr v_d4 v_d3 v_k1 v_k2 v_k3; grind
  rw [e1] at this
  have := v_pos_of this q
  omega
 ·rw [v_psd_o4 hp q.symm,← q,Int.zero_mul]; decide
end
/-- A determinant,by cofactors of its first row. -/
def v_e3 (a b c d e f g h i:Int):Int := a * (e * i - f * h) - b * (d * i - f * g) + c * (d * h - e * g)
def v_e4 (f:Nat→Nat→Int):Int :=
 f 0 0 * v_e3 (f 1 1) (f 1 2) (f 1 3) (f 2 1) (f 2 2) (f 2 3) (f 3 1) (f 3 2) (f 3 3)
 - f 0 1 * v_e3 (f 1 0) (f 1 2) (f 1 3) (f 2 0) (f 2 2) (f 2 3) (f 3 0) (f 3 2) (f 3 3)
 + f 0 2 * v_e3 (f 1 0) (f 1 1) (f 1 3) (f 2 0) (f 2 1) (f 2 3) (f 3 0) (f 3 1) (f 3 3)
 - f 0 3 * v_e3 (f 1 0) (f 1 1) (f 1 2) (f 2 0) (f 2 1) (f 2 2) (f 3 0) (f 3 1) (f 3 2)
theorem v_det_e4 (f:Nat→Nat→Int):v_det (v_mat f)=v_e4 f := by
 unfold v_det v_ords v_mat v_e4 v_e3
 simp only [List.map_cons,List.map_nil,List.sum_cons,List.sum_nil,v_dt]
 show 1 * (f 0 0 * f 1 1) * (f 2 2 * f 3 3) + (-1 * (f 0 0 * f 1 1) * (f 2 3 * f 3 2) + (-1 * (f 0 0 * f 1 2) * (f 2 1 * f 3 3) + (1 * (f 0 0 * f 1 2) * (f 2 3 * f 3 1) + (-1 * (f 0 0 * f 1 3) * (f 2 2 * f 3 1) + (1 * (f 0 0 * f 1 3) * (f 2 1 * f 3 2) + (-1 * (f 0 1 * f 1 0) * (f 2 2 * f 3 3) + (1 * (f 0 1 * f 1 0) * (f 2 3 * f 3 2) + (1 * (f 0 1 * f 1 2) * (f 2 0 * f 3 3) + (-1 * (f 0 1 * f 1 2) * (f 2 3 * f 3 0) + (1 * (f 0 1 * f 1 3) * (f 2 2 * f 3 0) + (-1 * (f 0 1 * f 1 3) * (f 2 0 * f 3 2) + (-1 * (f 0 2 * f 1 1) * (f 2 0 * f 3 3) + (1 * (f 0 2 * f 1 1) * (f 2 3 * f 3 0) + (1 * (f 0 2 * f 1 0) * (f 2 1 * f 3 3) + (-1 * (f 0 2 * f 1 0) * (f 2 3 * f 3 1) + (1 * (f 0 2 * f 1 3) * (f 2 0 * f 3 1) + (-1 * (f 0 2 * f 1 3) * (f 2 1 * f 3 0) + (-1 * (f 0 3 * f 1 1) * (f 2 2 * f 3 0) + (1 * (f 0 3 * f 1 1) * (f 2 0 * f 3 2) + (1 * (f 0 3 * f 1 2) * (f 2 1 * f 3 0) + (-1 * (f 0 3 * f 1 2) * (f 2 0 * f 3 1) + (1 * (f 0 3 * f 1 0) * (f 2 2 * f 3 1) + (-1 * (f 0 3 * f 1 0) * (f 2 1 * f 3 2) + 0)))))))))))))))))))))))=_
 grind
/-- A column replaced. -/
def v_col (f:Nat→Nat→Int) (k:Nat) (R:Nat→Int):Nat→Nat→Int := fun r c => if c = k then R r else f r c
def v_up4s (f:Nat→Nat→Int) (u:Nat→Int) (r:Nat):Int := f r 0 * u 0 + f r 1 * u 1 + f r 2 * u 2 + f r 3 * u 3
/-- What a column grows by a sum of columns. -/
theorem v_crap (f:Nat→Nat→Int) (R u:Nat→Int) {k:Nat} (hk:k < 4):v_e4 (v_col f k fun r => R r + v_up4s f u r)=v_e4 (v_col f k R) + v_e4 f * u k := by
 match k,hk with
 | 0,_ => simp [v_up4s,v_e4,v_col,v_e3]; grind
 | 1,_ => simp [v_up4s,v_e4,v_col,v_e3]; grind
 | 2,_ => simp [v_up4s,v_e4,v_col,v_e3]; grind
 | 3,_ => simp [v_up4s,v_e4,v_col,v_e3]; grind
theorem v_gs_last (p0:List (Int×Int×Int×Int×Int)) (c:gF) (i j m:Nat):v_gs p0 c i j (m + 1)=v_gs p0 c i j m + v_tk p0 c m i * v_tk p0 c m j := by
 unfold v_gs
 rw [v_sums_last,Nat.zero_add]
theorem v_gs_symm (p0:List (Int×Int×Int×Int×Int)) (c:gF) (i j m:Nat):v_gs p0 c i j m = v_gs p0 c j i m := v_sums_congr m 0 fun _k _ _ => Int.mul_comm _ _
theorem v_sq0 (a:Int):0≤a * a := by
 rcases Int.le_total 0 a with q | q
 ·exact Int.mul_nonneg q q
 ·exact Int.mul_nonneg_of_nonpos_of_nonpos q q
theorem v_gs_qf (p0:List (Int×Int×Int×Int×Int)) (c:gF) (w x y z:Int):∀ m,0≤v_qdr (v_gs p0 c 0 0 m) (v_gs p0 c 0 1 m) (v_gs p0 c 0 2 m) (v_gs p0 c 0 3 m) (v_gs p0 c 1 1 m) (v_gs p0 c 1 2 m) (v_gs p0 c 1 3 m) (v_gs p0 c 2 2 m) (v_gs p0 c 2 3 m) (v_gs p0 c 3 3 m) w x y z
 | 0 => by simp [v_gs,v_sums,v_qdr]
 | m + 1 => by
  have h := v_gs_qf p0 c w x y z m
  have s := v_sq0 (w * v_tk p0 c m 0 + x * v_tk p0 c m 1 + y * v_tk p0 c m 2 + z * v_tk p0 c m 3)
  have e:v_qdr (v_gs p0 c 0 0 (m + 1)) (v_gs p0 c 0 1 (m + 1)) (v_gs p0 c 0 2 (m + 1)) (v_gs p0 c 0 3 (m + 1)) (v_gs p0 c 1 1 (m + 1)) (v_gs p0 c 1 2 (m + 1)) (v_gs p0 c 1 3 (m + 1)) (v_gs p0 c 2 2 (m + 1)) (v_gs p0 c 2 3 (m + 1)) (v_gs p0 c 3 3 (m + 1)) w x y z = v_qdr (v_gs p0 c 0 0 m) (v_gs p0 c 0 1 m) (v_gs p0 c 0 2 m) (v_gs p0 c 0 3 m) (v_gs p0 c 1 1 m) (v_gs p0 c 1 2 m) (v_gs p0 c 1 3 m) (v_gs p0 c 2 2 m) (v_gs p0 c 2 3 m) (v_gs p0 c 3 3 m) w x y z + (w * v_tk p0 c m 0 + x * v_tk p0 c m 1 + y * v_tk p0 c m 2 + z * v_tk p0 c m 3) * (w * v_tk p0 c m 0 + x * v_tk p0 c m 1 + y * v_tk p0 c m 2 + z * v_tk p0 c m 3) := by
   simp only [v_gs_last]
   unfold v_qdr
   grind
  omega
/-- The equations' matrix. -/
def v_G (p0:List (Int×Int×Int×Int×Int)) (c:gF):Nat→Nat→Int := v_gmi p0 c c.length
def v_Ps (G:Nat→Nat→Int):Prop := v_psd (G 0 0) (G 0 1) (G 0 2) (G 0 3) (G 1 1) (G 1 2) (G 1 3) (G 2 2) (G 2 3) (G 3 3)
theorem v_G_symm (p0:List (Int×Int×Int×Int×Int)) (c:gF) (r s:Nat):v_G p0 c r s = v_G p0 c s r := by
 unfold v_G v_gmi
 by_cases h:r < c.length <;> by_cases g:s < c.length
 ·rw [if_pos h,if_pos g,if_pos g,if_pos h,v_gs_symm]
 ·rw [if_pos h,if_neg g,if_neg g,if_neg (by omega)]
 ·rw [if_neg h,if_pos g,if_neg h,if_neg (by omega)]
 ·rw [if_neg h,if_neg g]
  by_cases e:r = s
  ·rw [if_pos e,if_pos e.symm]
  ·rw [if_neg e,if_neg fun q => e q.symm]
theorem v_G_in (p0:List (Int×Int×Int×Int×Int)) (c:gF) {r s:Nat} (hr:r < c.length) (hs:s < c.length):v_G p0 c r s = v_gs p0 c r s p0.length := by
 unfold v_G v_gmi
 rw [if_pos hr,if_pos hs]
theorem v_G_out (p0:List (Int×Int×Int×Int×Int)) (c:gF) {r s:Nat} (h:¬ (r < c.length∧s < c.length)):v_G p0 c r s = if r = s then 1 else 0 := by
 unfold v_G v_gmi
 by_cases g:r < c.length
 ·rw [if_pos g,if_neg fun q => h ⟨g,q⟩,if_neg]
  rintro rfl
  exact h ⟨g,g⟩
 ·rw [if_neg g]
theorem v_G_ps (p0:List (Int×Int×Int×Int×Int)) (c:gF) (hn:c.length≤4):v_Ps (v_G p0 c) := by
 intro w x y z
 have sw := v_sq0 w
 have sx := v_sq0 x
 have sy := v_sq0 y
 have sz := v_sq0 z
 obtain h | h | h | h | h:c.length = 0 ∨ c.length = 1 ∨ c.length = 2 ∨ c.length = 3 ∨ c.length = 4 := by omega
 ·simp only [v_G,v_gmi,h]
  simp [v_qdr]
  omega
 ·have q := v_gs_qf p0 c w 0 0 0 p0.length
  simp only [v_G,v_gmi,h]
  simp [v_qdr] at q ⊢
  omega
 ·have q := v_gs_qf p0 c w x 0 0 p0.length
  simp only [v_G,v_gmi,h]
  simp [v_qdr] at q ⊢
  omega
 ·have q := v_gs_qf p0 c w x y 0 p0.length
  simp only [v_G,v_gmi,h]
  simp [v_qdr] at q ⊢
  omega
 ·have q := v_gs_qf p0 c w x y z p0.length
  simp only [v_G,v_gmi,h]
  simp [v_qdr] at q ⊢
  omega
theorem v_e4_d4 {G:Nat→Nat→Int} (hs:∀ r s,G r s = G s r):v_e4 G = v_d4 (G 0 0) (G 0 1) (G 0 2) (G 0 3) (G 1 1) (G 1 2) (G 1 3) (G 2 2) (G 2 3) (G 3 3) := by
 unfold v_e4 v_d4 v_d3 v_k1 v_k2 v_k3 v_e3
 rw [hs 1 0,hs 2 0,hs 3 0,hs 2 1,hs 3 1,hs 3 2]
 grind
/-- The bound of a term. -/
def v_tb (t:Int):Int := if t = 4 ∨ t = 5 then 100 else 20
theorem v_tk_b {p0:List (Int×Int×Int×Int×Int)} {p1:List Int} (hs:v_smp p0) {k:Nat} (hk:k < p0.length) (j:Nat) (h0:0≤p1.getD j 0) : -v_tb (p1.getD j 0)≤v_tk p0 p1 k j∧v_tk p0 p1 k j≤v_tb (p1.getD j 0) := by
 have a := hs.ok _ (getD_mem' (0,0,0,0,0) hk)
 have b := hs.ok _ (getD_mem' (0,0,0,0,0) (show k - 1 < p0.length by omega))
 have xx := v_m10 a.x a.x
 have xy := v_m10 a.x a.y
 have ax := a.x
 have ay := a.y
 have az := a.z
 have bx := b.x
 have by' := b.y
 unfold v_tk v_t8 v_tms
 generalize p1.getD j 0 = t at h0 ⊢
 simp only
 generalize p0.getD k (0,0,0,0,0)=q at *
 generalize p0.getD (k - 1) (0,0,0,0,0)=r at *
 rcases Int.lt_or_le t 8 with g | g
 ·obtain rfl | rfl | rfl | rfl | rfl | rfl | rfl | rfl:t = 0 ∨ t = 1 ∨ t = 2 ∨ t = 3 ∨ t = 4 ∨ t = 5 ∨ t = 6 ∨ t = 7 := by omega
  all_goals (simp [v_tb] <;> omega)
 ·rw [gd_out _ (by simp; omega)]
  unfold v_tb
  split <;> omega
theorem v_G_diag {p0:List (Int×Int×Int×Int×Int)} {c:List Int} (hs:v_smp p0) {r:Nat} (hr:r < c.length) (h0:0≤c.getD r 0):v_G p0 c r r≤20 * (v_tb (c.getD r 0) * v_tb (c.getD r 0)) := by
 rw [v_G_in p0 c hr hr]
 have hl := hs.len
 have hb:0≤v_tb (c.getD r 0) * v_tb (c.getD r 0) := v_sq0 _
 have:v_gs p0 c r r p0.length≤p0.length * (v_tb (c.getD r 0) * v_tb (c.getD r 0)) := by
  refine (v_sums_in (m := v_tb (c.getD r 0) * v_tb (c.getD r 0)) p0.length 0 fun k _ hk => ?_).2
  have a := v_tk_b hs (show k < p0.length by omega) r h0
  have := mul_abs a.1 a.2 a.1 a.2
  omega
 have m:(p0.length:Int) * (v_tb (c.getD r 0) * v_tb (c.getD r 0))≤20 * (v_tb (c.getD r 0) * v_tb (c.getD r 0)) := Int.mul_le_mul_of_nonneg_right (by omega) hb
 omega
theorem v_p4 {a b c d A B C D:Int} (ha:0≤a∧a≤A) (hb:0≤b∧b≤B) (hc:0≤c∧c≤C) (hd:0≤d∧d≤D):a * b * c * d≤A * B * C * D := by
 have h1:a * b≤A * B := Int.mul_le_mul ha.2 hb.2 hb.1 (Int.le_trans ha.1 ha.2)
 have p1:0≤a * b := Int.mul_nonneg ha.1 hb.1
 have h2:a * b * c≤A * B * C := Int.mul_le_mul h1 hc.2 hc.1 (Int.le_trans p1 h1)
 have p2:0≤a * b * c := Int.mul_nonneg p1 hc.1
 exact Int.mul_le_mul h2 hd.2 hd.1 (Int.le_trans p2 h2)
/-- Ascending indexes of terms. -/
structure v_ca (c:gF):Prop where
 len:c.length≤4
 ok:v_c8 c
 asc:∀ i,i + 1 < c.length→c.getD i 0 < c.getD (i + 1) 0
def v_gb (c:gF) (r:Nat):Int := if r < c.length∧(c.getD r 0 = 4 ∨ c.getD r 0 = 5) then 200000 else 8000
theorem v_G_db {p0:List (Int×Int×Int×Int×Int)} {c:List Int} (hs:v_smp p0) (hc:v_ca c) (r:Nat):v_G p0 c r r≤v_gb c r := by
 unfold v_gb
 by_cases h:r < c.length
 ·have := v_G_diag hs h (hc.ok r h).1
  unfold v_tb at this
  by_cases g:c.getD r 0 = 4 ∨ c.getD r 0 = 5
  ·rw [if_pos g] at this
   rw [if_pos ⟨h,g⟩]; omega
  ·rw [if_neg g] at this
   rw [if_neg fun q => g q.2]; omega
 ·rw [v_G_out p0 c (fun q => h q.1),if_pos rfl,if_neg fun q => h q.1]; decide
theorem v_gb_p {c:List Int} (hc:v_ca c):v_gb c 0 * v_gb c 1 * v_gb c 2 * v_gb c 3≤2560000000000000000 := by
 have h1 := hc.asc 0
 have h2 := hc.asc 1
 have h3 := hc.asc 2
 simp only [Nat.zero_add,Nat.reduceAdd] at h1 h2 h3
 unfold v_gb
 split <;> split <;> split <;> split <;> first | decide | (exfalso; omega)
theorem v_D_le {p0:List (Int×Int×Int×Int×Int)} {c:List Int} (hs:v_smp p0) (hc:v_ca c):0≤v_e4 (v_G p0 c)∧v_e4 (v_G p0 c)≤2560000000000000000 := by
 have hp:v_psd _ _ _ _ _ _ _ _ _ _ := v_G_ps p0 c hc.len
 obtain ⟨d0,d1,d2,d3⟩ := v_psd_dg hp
 rw [v_e4_d4 (v_G_symm p0 c)]
 refine ⟨v_psd_n4 hp,?_⟩
 have f4 := v_psd_f4 hp
 have f3 := v_psd_f3 hp
 have f2 := @v_psd_f2 (v_G p0 c 0 0) (v_G p0 c 0 1) (v_G p0 c 1 1)
 have m3 := Int.mul_le_mul_of_nonneg_right f2 d2
 have m4 := Int.mul_le_mul_of_nonneg_right (Int.le_trans f3 m3) d3
 have := v_p4 ⟨d0,v_G_db hs hc 0⟩ ⟨d1,v_G_db hs hc 1⟩ ⟨d2,v_G_db hs hc 2⟩ ⟨d3,v_G_db hs hc 3⟩
 have := v_gb_p hc
 omega
/-- Four wide numbers,eight numbers. -/
abbrev W8:Type := Int×Int×Int×Int×Int×Int×Int×Int
def v_w8 (w:Nat→Int×Int):W8 := ((w 0).1,(w 0).2,(w 1).1,(w 1).2,(w 2).1,(w 2).2,(w 3).1,(w 3).2)
def v_upw (w:Nat→Int×Int) (k:Nat) (x:gG):Nat→Int×Int := fun r => cond (Nat.beq r k) x (w r)
def v_p8 (q:Nat→Int):W8 := (q 0,q 1,q 2,q 3,q 4,q 5,q 6,q 7)
theorem fit0_step (p0:List (Int×Int×Int×Int×Int)) (p1:Int) (m:Int×W8) (f:Nat→Nat→Int) (i k:Nat) (hi:i < 4) (hk:k < 4) (hl:(i:Int) < (v_cho p1 8).length) :
  st_Z1_0 p0 p1 ((k:Int),m) ((i:Int),v_tup f) = .inl (IntKind.i64.wrap ((i:Int) + 1),v_tup (v_up f i k (v_gri p0 (v_cho p1 8) (v_cho p1 8).length i))) := by
 unfold st_Z1_0
 rw [decide_eq_true hl,cond_true]
 obtain rfl | rfl | rfl | rfl:i = 0 ∨ i = 1 ∨ i = 2 ∨ i = 3 := by omega
 all_goals
  obtain rfl | rfl | rfl | rfl:k = 0 ∨ k = 1 ∨ k = 2 ∨ k = 3 := by omega
  all_goals kernel_rfl
def v_rmd (x d:gG):Int := (Int.tmod (v_split x).2.1 d.2 * 18446744073709551616 + (v_split x).2.2) % d.2
theorem fit0_end (p0:List (Int×Int×Int×Int×Int)) (p1:Int) (c:Int) (w:Nat→Int×Int) (f:Nat→Nat→Int) (k:Nat) (hk:k < 4) :
  st_Z1_0 p0 p1 ((k:Int),c,v_w8 w) (((v_cho p1 8).length:Int),v_tup f) = .inr (.inl (IntKind.i64.wrap ((k:Int) + 1),v_gcd c (v_rmd (v_w (v_det (v_mat f))) (v_split (v_w (v_det (v_mat (v_gmi p0 (v_cho p1 8) (v_cho p1 8).length))))).2),v_w8 (v_upw w k (v_w (v_det (v_mat f)))))) := by
 unfold st_Z1_0
 rw [decide_eq_false (Int.lt_irrefl _),cond_false]
 obtain rfl | rfl | rfl | rfl:k = 0 ∨ k = 1 ∨ k = 2 ∨ k = 3 := by omega
 all_goals kernel_rfl
theorem fit0_pre (p0:List (Int×Int×Int×Int×Int)) (p1:Int) (c:Int) (w:Nat→Int×Int) (f:Nat→Nat→Int) (k:Nat) (hk:k < 4)
  (h1:v_mb (v_mat f)) (h2:v_wu (v_w (v_det (v_mat f)))) (d:gG) (hd:d = (v_split (v_w (v_det (v_mat (v_gmi p0 (v_cho p1 8) (v_cho p1 8).length))))).2) (h3:d.2 ≠ 0)
  (h4:0≤Int.tmod (v_split (v_w (v_det (v_mat f)))).2.1 d.2∧Int.tmod (v_split (v_w (v_det (v_mat f)))).2.1 d.2 < d.2) (h5:0≤(v_split (v_w (v_det (v_mat f)))).2.2∧(v_split (v_w (v_det (v_mat f)))).2.2 < 18446744073709551616)
  (h6:0 < d.2∧d.2 < 18446744073709551616) (h7:0≤c∧c < 18446744073709551616) (h8:0≤v_rmd (v_w (v_det (v_mat f))) d∧v_rmd (v_w (v_det (v_mat f))) d < 18446744073709551616) :
  ∀ p∈sp_Z1_0 p0 p1 ((k:Int),c,v_w8 w) (((v_cho p1 8).length:Int),v_tup f),p := by
 subst hd
 unfold v_rmd at h8
 unfold sp_Z1_0
 rw [decide_eq_false (Int.lt_irrefl _)]
 obtain rfl | rfl | rfl | rfl:k = 0 ∨ k = 1 ∨ k = 2 ∨ k = 3 := by omega
 all_goals
  simp only [fM]
  exact ⟨fun h => (by cases h),fun h => (by cases h),fun h => (by cases h),fun h => (by cases h),fun _ => h1,fun _ => (by omega),fun _ => (by omega),fun _ => h2,fun _ => h3,fun _ => h4,fun _ => h5,fun _ => h6.2,fun _ => h7,fun _ => h8,fun p hp => (by cases hp)⟩
def v_sgn (s:Bool×(Int×Int)) (g:Int):Int := cond s.1 (IntKind.i64.wrap (0 - IntKind.i64.wrap (v_over s.2 g).1)) (IntKind.i64.wrap (v_over s.2 g).1)
theorem fit1_step (p0:List (Int×Int×Int×Int×Int)) (p1:Int) (y g:Int) (w:Nat→Int×Int) (b:Bool) (dn:Int) (q:Nat→Int) (j t:Nat) (hj:j < 4) (ht:t < 8) (hl:(j:Int) < (v_cho p1 8).length) (hc:(v_cho p1 8).getD j 0 = (t:Int)) :
  st_Z1_1 p0 p1 (y,g,v_w8 w) ((j:Int),b,dn,v_p8 q) = .inl (IntKind.i64.wrap ((j:Int) + 1),cond b (v_over (v_split (w j)).2 g).2 false,dn,v_p8 (v_up4 q t (v_sgn (v_split (w j)) g))) := by
 unfold st_Z1_1
 rw [decide_eq_true hl,cond_true]
 dsimp only
 rw [Int.toNat_natCast,hc]
 unfold v_sgn
 obtain rfl | rfl | rfl | rfl:j = 0 ∨ j = 1 ∨ j = 2 ∨ j = 3 := by omega
 ·show cond (v_split (w 0)).1 _ _ = _
  cases h:(v_split (w 0)).1 <;> (obtain rfl | rfl | rfl | rfl | rfl | rfl | rfl | rfl:t = 0 ∨ t = 1 ∨ t = 2 ∨ t = 3 ∨ t = 4 ∨ t = 5 ∨ t = 6 ∨ t = 7 := by omega) <;> kernel_rfl
 ·show cond (v_split (w 1)).1 _ _ = _
  cases h:(v_split (w 1)).1 <;> (obtain rfl | rfl | rfl | rfl | rfl | rfl | rfl | rfl:t = 0 ∨ t = 1 ∨ t = 2 ∨ t = 3 ∨ t = 4 ∨ t = 5 ∨ t = 6 ∨ t = 7 := by omega) <;> kernel_rfl
 ·show cond (v_split (w 2)).1 _ _ = _
  cases h:(v_split (w 2)).1 <;> (obtain rfl | rfl | rfl | rfl | rfl | rfl | rfl | rfl:t = 0 ∨ t = 1 ∨ t = 2 ∨ t = 3 ∨ t = 4 ∨ t = 5 ∨ t = 6 ∨ t = 7 := by omega) <;> kernel_rfl
 ·show cond (v_split (w 3)).1 _ _ = _
  cases h:(v_split (w 3)).1 <;> (obtain rfl | rfl | rfl | rfl | rfl | rfl | rfl | rfl:t = 0 ∨ t = 1 ∨ t = 2 ∨ t = 3 ∨ t = 4 ∨ t = 5 ∨ t = 6 ∨ t = 7 := by omega) <;> kernel_rfl
theorem fit1_end (p0:List (Int×Int×Int×Int×Int)) (p1:Int) (y:Int×Int×W8) (s:Bool×Int×W8) :
  st_Z1_1 p0 p1 y (((v_cho p1 8).length:Int),s) = .inr (.inr (cond (!s.1) ((0,0,0,0,0,0,0,0,0),8) (s.2,0))) := by
 unfold st_Z1_1
 rw [decide_eq_false (Int.lt_irrefl _),cond_false]
 cases h:s.1 <;> simp [h]
def v_R (p0:List (Int×Int×Int×Int×Int)) (c:gF):Nat→Int := v_gri p0 c c.length
def v_D (p0:List (Int×Int×Int×Int×Int)) (c:gF):Int := v_det (v_mat (v_G p0 c))
def v_P (p0:List (Int×Int×Int×Int×Int)) (c:gF) (k:Nat):Int := v_det (v_mat (v_col (v_G p0 c) k (v_R p0 c)))
theorem v_gs_in {p0:List (Int×Int×Int×Int×Int)} {c:List Int} (hs:v_smp p0) (r s m:Nat) (hm:m≤p0.length) : -200000≤v_gs p0 c r s m∧v_gs p0 c r s m≤200000 := by
 have hl := hs.len
 have : -((m:Int) * 10000)≤v_gs p0 c r s m∧v_gs p0 c r s m≤(m:Int) * 10000 := v_sums_in m 0 fun q _ hq => by
  have a := v_tk_in (p1 := c) hs (show q < p0.length by omega) r
  have b := v_tk_in (p1 := c) hs (show q < p0.length by omega) s
  have := mul_abs (x := v_tk p0 c q r) (y := v_tk p0 c q s) (a := 100) (b := 100) a.1 a.2 b.1 b.2
  omega
 omega
theorem v_rs_in {p0:List (Int×Int×Int×Int×Int)} {c:List Int} (hs:v_smp p0) (r m:Nat) (hm:m≤p0.length) : -200000000≤v_rs p0 c r m∧v_rs p0 c r m≤200000000 := by
 have hl := hs.len
 have : -((m:Int) * 10000000)≤v_rs p0 c r m∧v_rs p0 c r m≤(m:Int) * 10000000 := v_sums_in m 0 fun q _ hq => by
  have a := v_tk_in (p1 := c) hs (show q < p0.length by omega) r
  have b := (hs.ok _ (getD_mem' (0,0,0,0,0) (show q < p0.length by omega))).v
  have := mul_abs (x := v_tk p0 c q r) (y := (p0.getD q (0,0,0,0,0)).2.2.2.2) (a := 100) (b := 100000) a.1 a.2 b.1 b.2
  omega
 omega
theorem v_G_b {p0:List (Int×Int×Int×Int×Int)} {c:List Int} (hs:v_smp p0) (r s:Nat) : -200000≤v_G p0 c r s∧v_G p0 c r s≤200000 := by
 by_cases h:r < c.length∧s < c.length
 ·rw [v_G_in p0 c h.1 h.2]; exact v_gs_in hs r s _ (Nat.le_refl _)
 ·rw [v_G_out p0 c h]; split <;> omega
theorem v_R_b {p0:List (Int×Int×Int×Int×Int)} {c:List Int} (hs:v_smp p0) (r:Nat) : -200000000≤v_R p0 c r∧v_R p0 c r≤200000000 := by
 unfold v_R v_gri
 split
 ·exact v_rs_in hs r _ (Nat.le_refl _)
 ·omega
theorem v_e3_b {a b c d e f g h i B:Int} (ha : -B≤a∧a≤B) (hb : -B≤b∧b≤B) (hc : -B≤c∧c≤B) (hd : -B≤d∧d≤B) (he : -B≤e∧e≤B) (hf : -B≤f∧f≤B) (hg : -B≤g∧g≤B) (hh : -B≤h∧h≤B) (hi : -B≤i∧i≤B) (h2:B = 200000000) : -48000000000000000000000000≤v_e3 a b c d e f g h i∧v_e3 a b c d e f g h i≤48000000000000000000000000 := by
 subst h2
 have q1 := mul_abs he.1 he.2 hi.1 hi.2
 have q2 := mul_abs hf.1 hf.2 hh.1 hh.2
 have q3 := mul_abs hd.1 hd.2 hi.1 hi.2
 have q4 := mul_abs hf.1 hf.2 hg.1 hg.2
 have q5 := mul_abs hd.1 hd.2 hh.1 hh.2
 have q6 := mul_abs he.1 he.2 hg.1 hg.2
 have r1 := mul_abs (x := a) (y := e * i - f * h) (a := 200000000) (b := 80000000000000000) ha.1 ha.2 (by omega) (by omega)
 have r2 := mul_abs (x := b) (y := d * i - f * g) (a := 200000000) (b := 80000000000000000) hb.1 hb.2 (by omega) (by omega)
 have r3 := mul_abs (x := c) (y := d * h - e * g) (a := 200000000) (b := 80000000000000000) hc.1 hc.2 (by omega) (by omega)
 unfold v_e3
 omega
theorem v_e4_b {f:Nat→Nat→Int} (hb:∀ r s,-200000000≤f r s∧f r s≤200000000) : -38400000000000000000000000000000000≤v_e4 f∧v_e4 f≤38400000000000000000000000000000000 := by
 have e0 := @v_e3_b (f 1 1) (f 1 2) (f 1 3) (f 2 1) (f 2 2) (f 2 3) (f 3 1) (f 3 2) (f 3 3) 200000000 (hb _ _) (hb _ _) (hb _ _) (hb _ _) (hb _ _) (hb _ _) (hb _ _) (hb _ _) (hb _ _) rfl
 have e1 := @v_e3_b (f 1 0) (f 1 2) (f 1 3) (f 2 0) (f 2 2) (f 2 3) (f 3 0) (f 3 2) (f 3 3) 200000000 (hb _ _) (hb _ _) (hb _ _) (hb _ _) (hb _ _) (hb _ _) (hb _ _) (hb _ _) (hb _ _) rfl
 have e2 := @v_e3_b (f 1 0) (f 1 1) (f 1 3) (f 2 0) (f 2 1) (f 2 3) (f 3 0) (f 3 1) (f 3 3) 200000000 (hb _ _) (hb _ _) (hb _ _) (hb _ _) (hb _ _) (hb _ _) (hb _ _) (hb _ _) (hb _ _) rfl
 have e3 := @v_e3_b (f 1 0) (f 1 1) (f 1 2) (f 2 0) (f 2 1) (f 2 2) (f 3 0) (f 3 1) (f 3 2) 200000000 (hb _ _) (hb _ _) (hb _ _) (hb _ _) (hb _ _) (hb _ _) (hb _ _) (hb _ _) (hb _ _) rfl
 have m0 := mul_abs (hb 0 0).1 (hb 0 0).2 e0.1 e0.2
 have m1 := mul_abs (hb 0 1).1 (hb 0 1).2 e1.1 e1.2
 have m2 := mul_abs (hb 0 2).1 (hb 0 2).2 e2.1 e2.2
 have m3 := mul_abs (hb 0 3).1 (hb 0 3).2 e3.1 e3.2
 unfold v_e4
 omega
theorem v_r4_b {a b c d:Int} {B:Int} (h0:0≤B) (ha : -B≤a∧a≤B) (hb : -B≤b∧b≤B) (hc : -B≤c∧c≤B) (hd : -B≤d∧d≤B) (i:Int) : -B≤v_r4 (a,b,c,d) i∧v_r4 (a,b,c,d) i≤B := by
 unfold v_r4
 simp only
 rcases Nat.lt_or_ge i.toNat 4 with g | g
 ·have key:∀ x∈([a,b,c,d]:List Int),-B≤x∧x≤B := by
   simp only [fM]
   exact ⟨ha,hb,hc,hd,fun x hx => (by cases hx)⟩
  exact key _ (getD_mem' 0 g)
 ·rw [gd_out _ g]; omega
theorem v_mb_of {f:Nat→Nat→Int} (hb:∀ r s,-200000000≤f r s∧f r s≤200000000):v_mb (v_mat f) := by
 refine ⟨fun i => ?_,fun i => ?_,fun i => ?_,fun i => ?_⟩
 ·have := @v_r4_b (f 0 0) (f 0 1) (f 0 2) (f 0 3) 200000000 (by decide) (hb _ _) (hb _ _) (hb _ _) (hb _ _) i
  exact ⟨by show _≤v_r4 (f 0 0,f 0 1,f 0 2,f 0 3) i; omega,by show v_r4 (f 0 0,f 0 1,f 0 2,f 0 3) i≤_; omega⟩
 ·have := @v_r4_b (f 1 0) (f 1 1) (f 1 2) (f 1 3) 200000000 (by decide) (hb _ _) (hb _ _) (hb _ _) (hb _ _) i
  exact ⟨by show _≤v_r4 (f 1 0,f 1 1,f 1 2,f 1 3) i; omega,by show v_r4 (f 1 0,f 1 1,f 1 2,f 1 3) i≤_; omega⟩
 ·have := @v_r4_b (f 2 0) (f 2 1) (f 2 2) (f 2 3) 200000000 (by decide) (hb _ _) (hb _ _) (hb _ _) (hb _ _) i
  exact ⟨by show _≤v_r4 (f 2 0,f 2 1,f 2 2,f 2 3) i; omega,by show v_r4 (f 2 0,f 2 1,f 2 2,f 2 3) i≤_; omega⟩
 ·have := @v_r4_b (f 3 0) (f 3 1) (f 3 2) (f 3 3) 200000000 (by decide) (hb _ _) (hb _ _) (hb _ _) (hb _ _) i
  exact ⟨by show _≤v_r4 (f 3 0,f 3 1,f 3 2,f 3 3) i; omega,by show v_r4 (f 3 0,f 3 1,f 3 2,f 3 3) i≤_; omega⟩
theorem v_col_b {p0:List (Int×Int×Int×Int×Int)} {c:List Int} (hs:v_smp p0) (k r s:Nat) : -200000000≤v_col (v_G p0 c) k (v_R p0 c) r s∧v_col (v_G p0 c) k (v_R p0 c) r s≤200000000 := by
 unfold v_col
 split
 ·exact v_R_b hs r
 ·have := @v_G_b p0 c hs r s; omega
theorem v_P_b {p0:List (Int×Int×Int×Int×Int)} {c:List Int} (hs:v_smp p0) (k:Nat) : -38400000000000000000000000000000000≤v_P p0 c k∧v_P p0 c k≤38400000000000000000000000000000000 := by
 unfold v_P
 rw [v_det_e4]
 exact v_e4_b (v_col_b hs k)
/-- A column that is being replaced. -/
def v_cop (f:Nat→Nat→Int) (k:Nat) (R:Nat→Int) (i:Nat):Nat→Nat→Int := fun r c => if c = k∧r < i then R r else f r c
theorem v_cop_0 (f:Nat→Nat→Int) (k:Nat) (R:Nat→Int):v_cop f k R 0 = f := by
 funext r c
 unfold v_cop
 rw [if_neg (by omega)]
theorem v_cop_step (f:Nat→Nat→Int) (k:Nat) (R:Nat→Int) (i:Nat):v_up (v_cop f k R i) i k (R i)=v_cop f k R (i + 1) := by
 funext r c
 rw [v_up_if]
 unfold v_cop
 by_cases h:r = i∧c = k
 ·rw [if_pos h,if_pos (by omega),h.1]
 ·rw [if_neg h]
  by_cases g:c = k∧r < i
  ·rw [if_pos g,if_pos (by omega)]
  ·rw [if_neg g,if_neg (by omega)]
theorem v_cop_end (p0:List (Int×Int×Int×Int×Int)) (c:gF) {k:Nat} (hk:k < c.length):v_cop (v_G p0 c) k (v_R p0 c) c.length = v_col (v_G p0 c) k (v_R p0 c) := by
 funext r s
 unfold v_cop v_col
 by_cases h:s = k
 ·by_cases g:r < c.length
  ·rw [if_pos ⟨h,g⟩,if_pos h]
  ·rw [if_neg (by omega),if_pos h,v_G_out p0 c (by omega),if_neg (by omega)]
   unfold v_R v_gri
   rw [if_neg g]
 ·rw [if_neg (by omega),if_neg h]
theorem v_rmd_of {x d:Int} (hx : -38400000000000000000000000000000000≤x∧x≤38400000000000000000000000000000000) (hd:0 < d∧d≤2560000000000000000):(v_split (v_w d)).2.2 = d∧(v_split (v_w d)).2.1 = 0∧v_rmd (v_w x) (v_split (v_w d)).2 = max x (-x) % d∧(0≤Int.tmod (v_split (v_w x)).2.1 d∧Int.tmod (v_split (v_w x)).2.1 d < d)∧(0≤(v_split (v_w x)).2.2∧(v_split (v_w x)).2.2 < 18446744073709551616) := by
 have e1:(v_split (v_w d)).2 = (0,d) := by
  rw [v_split_of (by omega) (by omega)]
  show v_w (max d (-d))=_
  rw [show max d (-d)=d by omega]
  unfold v_w
  exact Prod.ext (by simp only; omega) (by simp only; omega)
 have e2:(v_split (v_w x)).2 = v_w (max x (-x)) := by rw [v_split_of (by omega) (by omega)]
 have u := v_w_u (max x (-x))
 have uh := u.h
 have t:Int.tmod (v_w (max x (-x))).1 d = (v_w (max x (-x))).1 % d := Int.tmod_eq_emod_of_nonneg uh.1
 refine ⟨by rw [e1],by rw [e1],?_,?_,?_⟩
 ·unfold v_rmd
  rw [e1,e2]
  show (Int.tmod (v_w (max x (-x))).1 d * 18446744073709551616 + (v_w (max x (-x))).2) % d = _
  rw [t]
  have e3:v_wv (v_w (max x (-x)))=max x (-x) := by rw [v_w_v]; omega
  have e4 := Int.mul_ediv_add_emod (v_w (max x (-x))).1 d
  generalize v_w (max x (-x))=p at *
  rw [← e3]
  unfold v_wv
  have e5:p.1 * 18446744073709551616 + p.2 = p.1 % d * 18446744073709551616 + p.2 + d * (p.1 / d * 18446744073709551616) := by
   have:p.1 * 18446744073709551616 = (d * (p.1 / d) + p.1 % d) * 18446744073709551616 := by rw [e4]
   rw [this]; grind
  rw [e5,Int.add_mul_emod_self_left]
 ·rw [e2,t]
  exact ⟨Int.emod_nonneg _ (by omega),Int.emod_lt_of_pos _ hd.1⟩
 ·rw [e2]; exact u.l
abbrev I10:Type := Int×Int×W8
abbrev S17:Type := Int×T16
abbrev FR:Type := (Int×W8)×Int
theorem fit0_is {p0:List (Int×Int×Int×Int×Int)} {p1:Int} (hs:v_smp p0) (hc:v_ca (v_cho p1 8)) (hD:0 < v_D p0 (v_cho p1 8)) (c:Int) (h7:0≤c∧c < 18446744073709551616) (w:Nat→Int×Int) (k:Nat) (hk:k < (v_cho p1 8).length) (d:I10 ⊕ FR) :
  OkL (st_Z1_0 p0 p1 ((k:Int),c,v_w8 w)) (sp_Z1_0 p0 p1 ((k:Int),c,v_w8 w)) (0,v_tup (v_G p0 (v_cho p1 8))) ∧
  lpv d (st_Z1_0 p0 p1 ((k:Int),c,v_w8 w)) (0,v_tup (v_G p0 (v_cho p1 8))) = .inl (((k + 1:Nat):Int),v_gcd c (max (v_P p0 (v_cho p1 8) k) (-v_P p0 (v_cho p1 8) k) % v_D p0 (v_cho p1 8)),v_w8 (v_upw w k (v_w (v_P p0 (v_cho p1 8) k)))) := by
 have hn := hc.len
 have hP := v_P_b (c := v_cho p1 8) hs k
 have hDl:v_D p0 (v_cho p1 8)≤2560000000000000000 := by unfold v_D; rw [v_det_e4]; exact (v_D_le hs hc).2
 obtain ⟨r1,r2,r3,r4,r5⟩ := v_rmd_of hP ⟨hD,hDl⟩
 have hwk:IntKind.i64.wrap ((k:Int) + 1)=((k + 1:Nat):Int) := wrap_id (by omega) (by omega)
 have hmb:v_mb (v_mat (v_col (v_G p0 (v_cho p1 8)) k (v_R p0 (v_cho p1 8)))) := v_mb_of (v_col_b hs k)
 refine @for_is T16 S17 (I10 ⊕ FR) d (st_Z1_0 p0 p1 ((k:Int),c,v_w8 w)) (sp_Z1_0 p0 p1 ((k:Int),c,v_w8 w)) (fun i t => (i,t)) 0 (v_cho p1 8).length (fun i t => t = v_tup (v_cop (v_G p0 (v_cho p1 8)) k (v_R p0 (v_cho p1 8)) i)) (fun _ _ => .inl (((k + 1:Nat):Int),v_gcd c (max (v_P p0 (v_cho p1 8) k) (-v_P p0 (v_cho p1 8) k) % v_D p0 (v_cho p1 8)),v_w8 (v_upw w k (v_w (v_P p0 (v_cho p1 8) k))))) (Nat.zero_le _) (by omega) ?_ ?_ (v_tup (v_G p0 (v_cho p1 8))) (by rw [v_cop_0])
 ·rintro t rfl
  rw [v_cop_end p0 _ hk]
  refine ⟨?_,?_⟩
  ·refine fit0_pre p0 p1 c w _ k (by omega) hmb (v_w_u _) _ rfl (by show (v_split (v_w (v_D p0 (v_cho p1 8)))).2.2 ≠ 0; omega) ?_ ?_ ?_ h7 ?_
   ·show 0≤Int.tmod (v_split (v_w (v_P p0 (v_cho p1 8) k))).2.1 (v_split (v_w (v_D p0 (v_cho p1 8)))).2.2∧_
    rw [show (v_split (v_w (v_det (v_mat (v_gmi p0 (v_cho p1 8) (v_cho p1 8).length))))).2.2 = v_D p0 (v_cho p1 8) from r1,r1]
    exact r4
   ·exact r5
   ·show 0 < (v_split (v_w (v_D p0 (v_cho p1 8)))).2.2∧(v_split (v_w (v_D p0 (v_cho p1 8)))).2.2 < 18446744073709551616
    omega
   ·show 0≤v_rmd (v_w (v_P p0 (v_cho p1 8) k)) (v_split (v_w (v_D p0 (v_cho p1 8)))).2∧v_rmd (v_w (v_P p0 (v_cho p1 8) k)) (v_split (v_w (v_D p0 (v_cho p1 8)))).2 < 18446744073709551616
    rw [r3]
    have := Int.emod_nonneg (max (v_P p0 (v_cho p1 8) k) (-v_P p0 (v_cho p1 8) k)) (show v_D p0 (v_cho p1 8) ≠ 0 by omega)
    have := Int.emod_lt_of_pos (max (v_P p0 (v_cho p1 8) k) (-v_P p0 (v_cho p1 8) k)) hD
    omega
  ·rw [fit0_end p0 p1 c w _ k (by omega),hwk]
   show Sum.inr (Sum.inl (((k + 1:Nat):Int),v_gcd c (v_rmd (v_w (v_P p0 (v_cho p1 8) k)) (v_split (v_w (v_D p0 (v_cho p1 8)))).2),v_w8 (v_upw w k (v_w (v_P p0 (v_cho p1 8) k)))))=_
   rw [r3]
 ·rintro i t _ hi rfl
  have hw1:IntKind.i64.wrap ((i:Int) + 1)=((i + 1:Nat):Int) := wrap_id (by omega) (by omega)
  have hd:decide ((i:Int) < ((v_cho p1 8).length:Int))=true := decide_eq_true (by omega)
  refine ⟨?_,.inl ⟨v_tup (v_cop (v_G p0 (v_cho p1 8)) k (v_R p0 (v_cho p1 8)) (i + 1)),?_,rfl,rfl⟩⟩
  ·unfold sp_Z1_0
   simp only [hd,fM]
   exact ⟨fun _ => (by omega),fun _ => (by omega),fun _ => (by omega),fun _ => (by omega),fun h => (by cases h),fun h => (by cases h),fun h => (by cases h),fun h => (by cases h),fun h => (by cases h),fun h => (by cases h),fun h => (by cases h),fun h => (by cases h),fun h => (by cases h),fun h => (by cases h),fun p hp => (by cases hp)⟩
  ·rw [fit0_step p0 p1 _ _ i k (by omega) (by omega) (by omega),hw1]
   show Sum.inl (((i + 1:Nat):Int),v_tup (v_up _ i k (v_R p0 (v_cho p1 8) i)))=_
   rw [v_cop_step]
/-- The common divisor of so many parts; whether they are small; the parts of a fit. -/
def v_fg (p0:List (Int×Int×Int×Int×Int)) (c:gF):Nat→Int
 | 0 => v_D p0 c
 | k + 1 => v_gcd (v_fg p0 c k) (max (v_P p0 c k) (-v_P p0 c k) % v_D p0 c)
def v_g (p0:List (Int×Int×Int×Int×Int)) (c:gF):Int := v_fg p0 c c.length
def v_sml (p0:List (Int×Int×Int×Int×Int)) (c:gF):Nat→Bool
 | 0 => decide (v_D p0 c / v_g p0 c≤1000000000)
 | k + 1 => cond (v_sml p0 c k) (decide (max (v_P p0 c k) (-v_P p0 c k) / v_g p0 c≤1000000000)) false
def v_fq (p0:List (Int×Int×Int×Int×Int)) (c:gF) (k:Nat):Int := cond (decide (v_P p0 c k < 0)) (-(max (v_P p0 c k) (-v_P p0 c k) / v_g p0 c)) (max (v_P p0 c k) (-v_P p0 c k) / v_g p0 c)
def v_fpp (p0:List (Int×Int×Int×Int×Int)) (c:gF):Nat→Nat→Int
 | 0 => fun _ => 0
 | k + 1 => v_up4 (v_fpp p0 c k) (c.getD k 0).toNat (v_fq p0 c k)
theorem v_fg_pos {p0:List (Int×Int×Int×Int×Int)} {c:List Int} (hD:0 < v_D p0 c):∀ k,0 < v_fg p0 c k∧v_fg p0 c k≤v_D p0 c
 | 0 => ⟨hD,Int.le_refl _⟩
 | k + 1 => by
  have h := v_fg_pos hD k
  have d := v_gcd_dvd_left (v_fg p0 c k) (max (v_P p0 c k) (-v_P p0 c k) % v_D p0 c)
  have e := Int.le_of_dvd h.1 d
  have n:0≤v_gcd (v_fg p0 c k) (max (v_P p0 c k) (-v_P p0 c k) % v_D p0 c) := by unfold v_gcd; omega
  have z:v_gcd (v_fg p0 c k) (max (v_P p0 c k) (-v_P p0 c k) % v_D p0 c) ≠ 0 := by
   intro q
   rw [q] at d
   have := Int.zero_dvd.1 d
   omega
  exact ⟨by show 0 < v_gcd _ _; omega,by show v_gcd _ _≤_; omega⟩
theorem v_fq_of {p0:List (Int×Int×Int×Int×Int)} {c:List Int} {k:Nat} (hs:v_smp p0) (hg:0 < v_g p0 c) (h:max (v_P p0 c k) (-v_P p0 c k) / v_g p0 c≤1000000000):v_sgn (v_split (v_w (v_P p0 c k))) (v_g p0 c)=v_fq p0 c k := by
 have hP := v_P_b (c := c) hs k
 have n0:0≤max (v_P p0 c k) (-v_P p0 c k) / v_g p0 c := Int.ediv_nonneg (by omega) (by omega)
 have e := (v_over_of (n := max (v_P p0 c k) (-v_P p0 c k)) (g := v_g p0 c) (by omega) (by omega) hg).2 h
 unfold v_sgn v_fq
 rw [v_split_of (by omega) (by omega)]
 simp only
 rw [e,wrap_id (n := max (v_P p0 c k) (-v_P p0 c k) / v_g p0 c) (by omega) (by omega),wrap_id (n := 0 - max (v_P p0 c k) (-v_P p0 c k) / v_g p0 c) (by omega) (by omega),Int.zero_sub]
theorem fit1_is {p0:List (Int×Int×Int×Int×Int)} {p1:Int} (hs:v_smp p0) (hc:v_ca (v_cho p1 8)) (hD:0 < v_D p0 (v_cho p1 8)) (y:Int) (w:Nat→Int×Int) (hw:∀ k,k < (v_cho p1 8).length→w k = v_w (v_P p0 (v_cho p1 8) k)) (dn:Int) (d:I10 ⊕ FR) :
  OkL (st_Z1_1 p0 p1 (y,v_g p0 (v_cho p1 8),v_w8 w)) (sp_Z1_1 p0 p1 (y,v_g p0 (v_cho p1 8),v_w8 w)) (0,v_sml p0 (v_cho p1 8) 0,dn,v_p8 fun _ => 0) ∧
  lpv d (st_Z1_1 p0 p1 (y,v_g p0 (v_cho p1 8),v_w8 w)) (0,v_sml p0 (v_cho p1 8) 0,dn,v_p8 fun _ => 0) = .inr (cond (v_sml p0 (v_cho p1 8) (v_cho p1 8).length) ((dn,v_p8 (v_fpp p0 (v_cho p1 8) (v_cho p1 8).length)),0) ((0,0,0,0,0,0,0,0,0),8)) := by
 have hn := hc.len
 have hg := v_fg_pos hD (v_cho p1 8).length
 have hDl:v_D p0 (v_cho p1 8)≤2560000000000000000 := by unfold v_D; rw [v_det_e4]; exact (v_D_le hs hc).2
 refine @for_is (Bool×Int×W8) (Int×Bool×Int×W8) (I10 ⊕ FR) d (st_Z1_1 p0 p1 (y,v_g p0 (v_cho p1 8),v_w8 w)) (sp_Z1_1 p0 p1 (y,v_g p0 (v_cho p1 8),v_w8 w)) (fun i t => (i,t)) 0 (v_cho p1 8).length (fun i t => ∃ q,t = (v_sml p0 (v_cho p1 8) i,dn,v_p8 q)∧(v_sml p0 (v_cho p1 8) i = true→q = v_fpp p0 (v_cho p1 8) i)) (fun _ _ => .inr (cond (v_sml p0 (v_cho p1 8) (v_cho p1 8).length) ((dn,v_p8 (v_fpp p0 (v_cho p1 8) (v_cho p1 8).length)),0) ((0,0,0,0,0,0,0,0,0),8))) (Nat.zero_le _) (by omega) ?_ ?_ _ ⟨_,rfl,fun _ => rfl⟩
 ·rintro t ⟨q,rfl,hq⟩
  refine ⟨?_,?_⟩
  ·unfold sp_Z1_1
   simp only [decide_eq_false (Int.lt_irrefl ((v_cho p1 8).length:Int)),fM]
   repeat' refine And.intro ?_ ?_
   all_goals first
    | (intro h; cases h; done)
    | (intro p hp; cases hp; done)
  ·rw [fit1_end]
   cases c:v_sml p0 (v_cho p1 8) (v_cho p1 8).length
   ·rfl
   ·rw [hq c]; rfl
 ·rintro i t _ hi ⟨q,rfl,hq⟩
  have hw1:IntKind.i64.wrap ((i:Int) + 1)=((i + 1:Nat):Int) := wrap_id (by omega) (by omega)
  have hd:decide ((i:Int) < ((v_cho p1 8).length:Int))=true := decide_eq_true (by omega)
  have hci := hc.ok i hi
  obtain ⟨t,ht⟩ : ∃ t:Nat,(v_cho p1 8).getD i 0 = t := ⟨((v_cho p1 8).getD i 0).toNat,by omega⟩
  have hP := v_P_b (c := v_cho p1 8) hs i
  have ov := v_over_of (n := max (v_P p0 (v_cho p1 8) i) (-v_P p0 (v_cho p1 8) i)) (g := v_g p0 (v_cho p1 8)) (by omega) (by omega) hg.1
  have e1:(v_over (v_split (w i)).2 (v_g p0 (v_cho p1 8))).2 = decide (max (v_P p0 (v_cho p1 8) i) (-v_P p0 (v_cho p1 8) i) / v_g p0 (v_cho p1 8)≤1000000000) := by
   rw [hw i hi,v_split_of (by omega) (by omega)]; exact ov.1
  have hu:v_wu (w i) := by rw [hw i hi]; exact v_w_u _
  refine ⟨?_,.inl ⟨(v_sml p0 (v_cho p1 8) (i + 1),dn,v_p8 (v_up4 q t (v_sgn (v_split (w i)) (v_g p0 (v_cho p1 8))))),?_,⟨_,rfl,?_⟩,rfl⟩⟩
  ·unfold sp_Z1_1
   simp only [hd,fM,Int.toNat_natCast]
   have hu1:v_wu (List.getD ((w 0).1 :: ((w 1).1 :: ((w 2).1 :: ((w 3).1 :: ([]:List Int))))) i 0,List.getD ((w 0).2 :: ((w 1).2 :: ((w 2).2 :: ((w 3).2 :: ([]:List Int))))) i 0) := by
    obtain rfl | rfl | rfl | rfl:i = 0 ∨ i = 1 ∨ i = 2 ∨ i = 3 := by omega
    all_goals exact hu
   exact ⟨fun _ => (by omega),fun _ => (by omega),fun _ => (by omega),fun _ => hu1,fun _ => v_split_u hu1,fun _ => ⟨hg.1,by show v_fg _ _ _ < _; omega⟩,fun _ => hci.1,fun _ => hci.2,fun _ _ => hci.1,fun _ _ => hci.2,fun p hp => (by cases hp)⟩
  ·rw [fit1_step p0 p1 y _ w _ dn q i t (by omega) (by omega) (by omega) ht,hw1,e1]; rfl
  ·intro h
   have h' : cond (v_sml p0 (v_cho p1 8) i) (decide (max (v_P p0 (v_cho p1 8) i) (-v_P p0 (v_cho p1 8) i) / v_g p0 (v_cho p1 8)≤1000000000)) false = true := h
   cases c:v_sml p0 (v_cho p1 8) i
   ·rw [c] at h'; cases h'
   ·rw [c,cond_true] at h'
    rw [hq c,hw i hi,v_fq_of hs hg.1 (of_decide_eq_true h')]
    show _ = v_up4 (v_fpp p0 (v_cho p1 8) i) ((v_cho p1 8).getD i 0).toNat (v_fq p0 (v_cho p1 8) i)
    rw [ht,Int.toNat_natCast]
def v_wk (p0:List (Int×Int×Int×Int×Int)) (c:gF) (k:Nat):Nat→Int×Int := fun j => if j < k then v_w (v_P p0 c j) else (0,0)
theorem v_wk_step (p0:List (Int×Int×Int×Int×Int)) (c:gF) (k:Nat):v_upw (v_wk p0 c k) k (v_w (v_P p0 c k))=v_wk p0 c (k + 1) := by
 funext r
 unfold v_upw v_wk
 by_cases h:r = k
 ·subst h
  rw [show Nat.beq r r = true from Nat.beq_refl r,cond_true,if_pos (by omega)]
 ·have:Nat.beq r k = false := by
   cases c:Nat.beq r k
   ·rfl
   ·exact absurd (Nat.eq_of_beq_eq_true c) h
  rw [this,cond_false]
  by_cases g:r < k
  ·rw [if_pos g,if_pos (by omega)]
  ·rw [if_neg g,if_neg (by omega)]
/-- The fit of a model. -/
def v_fitx (p0:List (Int×Int×Int×Int×Int)) (c:gF):FR := cond (v_D p0 c == 0) ((0,0,0,0,0,0,0,0,0),12) (cond (v_sml p0 c c.length) ((v_D p0 c / v_g p0 c,v_p8 (v_fpp p0 c c.length)),0) ((0,0,0,0,0,0,0,0,0),8))
theorem v_sml_0 {p0:List (Int×Int×Int×Int×Int)} {c:List Int}:∀ k,v_sml p0 c k = true→v_D p0 c / v_g p0 c≤1000000000
 | 0,h => of_decide_eq_true h
 | k + 1,h => by
  have h' : cond (v_sml p0 c k) (decide (max (v_P p0 c k) (-v_P p0 c k) / v_g p0 c≤1000000000)) false = true := h
  cases q:v_sml p0 c k
  ·rw [q] at h'; cases h'
  ·exact v_sml_0 k q
theorem fit2_st (p0:List (Int×Int×Int×Int×Int)) (p1:Int) (y:I10):st_Z1_2 p0 p1 y = cond (decide (y.1 < ((v_cho p1 8).length:Int))) (lpv (.inr ((0,0,0,0,0,0,0,0,0),0)) (st_Z1_0 p0 p1 y) (0,v_tup (v_G p0 (v_cho p1 8)))) (lpv (.inr ((0,0,0,0,0,0,0,0,0),0)) (st_Z1_1 p0 p1 y) (0,(v_over (v_split (v_w (v_D p0 (v_cho p1 8)))).2 y.2.1).2,IntKind.i64.wrap (v_over (v_split (v_w (v_D p0 (v_cho p1 8)))).2 y.2.1).1,v_p8 fun _ => 0)) := by kernel_rfl
theorem fit2_sp (p0:List (Int×Int×Int×Int×Int)) (p1:Int) (y:I10):sp_Z1_2 p0 p1 y = [decide (y.1 < ((v_cho p1 8).length:Int))=true→OkL (st_Z1_0 p0 p1 y) (sp_Z1_0 p0 p1 y) (0,v_tup (v_G p0 (v_cho p1 8))),decide (y.1 < ((v_cho p1 8).length:Int))=false→v_wu (v_split (v_w (v_D p0 (v_cho p1 8)))).2,decide (y.1 < ((v_cho p1 8).length:Int))=false→0 < y.2.1∧y.2.1 < 18446744073709551616,
  decide (y.1 < ((v_cho p1 8).length:Int))=false→OkL (st_Z1_1 p0 p1 y) (sp_Z1_1 p0 p1 y) (0,(v_over (v_split (v_w (v_D p0 (v_cho p1 8)))).2 y.2.1).2,IntKind.i64.wrap (v_over (v_split (v_w (v_D p0 (v_cho p1 8)))).2 y.2.1).1,v_p8 fun _ => 0)] := by kernel_rfl
theorem fit2_is {p0:List (Int×Int×Int×Int×Int)} {p1:Int} (hs:v_smp p0) (hc:v_ca (v_cho p1 8)) (hD:0 < v_D p0 (v_cho p1 8)) (d:FR) :
  OkL (st_Z1_2 p0 p1) (sp_Z1_2 p0 p1) (0,v_D p0 (v_cho p1 8),v_w8 (v_wk p0 (v_cho p1 8) 0)) ∧
  lpv d (st_Z1_2 p0 p1) (0,v_D p0 (v_cho p1 8),v_w8 (v_wk p0 (v_cho p1 8) 0))=cond (v_sml p0 (v_cho p1 8) (v_cho p1 8).length) ((v_D p0 (v_cho p1 8) / v_g p0 (v_cho p1 8),v_p8 (v_fpp p0 (v_cho p1 8) (v_cho p1 8).length)),0) ((0,0,0,0,0,0,0,0,0),8) := by
 have hn := hc.len
 have hDl:v_D p0 (v_cho p1 8)≤2560000000000000000 := by unfold v_D; rw [v_det_e4]; exact (v_D_le hs hc).2
 have e1:(v_split (v_w (v_D p0 (v_cho p1 8)))).2 = v_w (v_D p0 (v_cho p1 8)) := by
  rw [v_split_of (by omega) (by omega)]
  show v_w (max _ _)=_
  rw [show max (v_D p0 (v_cho p1 8)) (-v_D p0 (v_cho p1 8))=v_D p0 (v_cho p1 8) by omega]
 have hg := v_fg_pos hD (v_cho p1 8).length
 have ov := v_over_of (n := v_D p0 (v_cho p1 8)) (g := v_g p0 (v_cho p1 8)) (by omega) (by omega) hg.1
 have l1 := @fit1_is p0 p1 hs hc hD ((v_cho p1 8).length:Int) (v_wk p0 (v_cho p1 8) (v_cho p1 8).length) (fun k hk => by unfold v_wk; rw [if_pos hk]) (IntKind.i64.wrap (v_over (v_split (v_w (v_D p0 (v_cho p1 8)))).2 (v_g p0 (v_cho p1 8))).1) (.inr ((0,0,0,0,0,0,0,0,0),0))
 have e2:v_sml p0 (v_cho p1 8) 0 = (v_over (v_split (v_w (v_D p0 (v_cho p1 8)))).2 (v_g p0 (v_cho p1 8))).2 := by rw [e1,ov.1]; rfl
 rw [e2] at l1
 refine @for_is PUnit I10 FR d (st_Z1_2 p0 p1) (sp_Z1_2 p0 p1) (fun i _ => (i,v_fg p0 (v_cho p1 8) i.toNat,v_w8 (v_wk p0 (v_cho p1 8) i.toNat))) 0 (v_cho p1 8).length (fun _ _ => True) (fun _ _ => cond (v_sml p0 (v_cho p1 8) (v_cho p1 8).length) ((v_D p0 (v_cho p1 8) / v_g p0 (v_cho p1 8),v_p8 (v_fpp p0 (v_cho p1 8) (v_cho p1 8).length)),0) ((0,0,0,0,0,0,0,0,0),8)) (Nat.zero_le _) (by omega) ?_ ?_ ⟨⟩ trivial
 ·rintro t _
  rw [Int.toNat_natCast]
  refine ⟨?_,?_⟩
  ·rw [fit2_sp]
   simp only [decide_eq_false (Int.lt_irrefl ((v_cho p1 8).length:Int)),fM]
   exact ⟨fun h => (by cases h),fun _ => v_split_u (v_w_u _),fun _ => ⟨hg.1,by omega⟩,fun _ => l1.1,fun p hp => (by cases hp)⟩
  ·rw [fit2_st]
   simp only
   rw [decide_eq_false (Int.lt_irrefl ((v_cho p1 8).length:Int)),cond_false]
   refine l1.2.trans ?_
   cases c:v_sml p0 (v_cho p1 8) (v_cho p1 8).length
   ·rfl
   ·have h := v_sml_0 _ c
    have n0:0≤v_D p0 (v_cho p1 8) / v_g p0 (v_cho p1 8) := Int.ediv_nonneg (by omega) (by have := hg.1; show 0≤v_fg _ _ _; omega)
    rw [e1,ov.2 h,wrap_id (by omega) (by omega)]
 ·rintro k t _ hk _
  have hd:decide ((k:Int) < ((v_cho p1 8).length:Int))=true := decide_eq_true (by omega)
  have hk1 := v_fg_pos hD k
  rw [Int.toNat_natCast,Int.toNat_natCast]
  have l0 := @fit0_is p0 p1 hs hc hD (v_fg p0 (v_cho p1 8) k) (by omega) (v_wk p0 (v_cho p1 8) k) k hk (.inr ((0,0,0,0,0,0,0,0,0),0))
  refine ⟨?_,.inl ⟨⟨⟩,?_,trivial,rfl⟩⟩
  ·rw [fit2_sp]
   simp only [hd,fM]
   exact ⟨fun _ => l0.1,fun h => (by cases h),fun h => (by cases h),fun h => (by cases h),fun p hp => (by cases hp)⟩
  ·rw [fit2_st]
   simp only
   rw [hd,cond_true]
   refine l0.2.trans ?_
   rw [v_wk_step]; rfl
theorem v_cho_pw (m:Int):∀ n,(v_cho m n).Pairwise (· < ·)
 | 0 => List.Pairwise.nil
 | n + 1 => by
  unfold v_cho
  refine List.pairwise_append.2 ⟨v_cho_pw m n,?_,?_⟩
  ·cases v_hs m n
   ·exact List.Pairwise.nil
   ·exact List.pairwise_singleton _ _
  ·intro a ha b hb
   obtain ⟨t,h1,_,rfl⟩ := (v_cho_mem n).1 ha
   cases c:v_hs m n <;> rw [c] at hb
   ·cases hb
   ·rw [List.mem_singleton.1 hb]; omega
theorem v_cho_ca {m:Int} (h:(v_cho m 8).length≤4):v_ca (v_cho m 8) := by
 refine ⟨h,fun j hj => ?_,fun i hi => ?_⟩
 ·obtain ⟨t,h1,_,e⟩ := (v_cho_mem 8).1 (getD_mem' 0 hj)
  rw [e]; omega
 ·have := List.pairwise_iff_getElem.1 (v_cho_pw m 8) i (i + 1) (by omega) hi (by omega)
  rw [List.getD_eq_getElem?_getD,List.getD_eq_getElem?_getD,List.getElem?_eq_getElem hi,List.getElem?_eq_getElem (show i < (v_cho m 8).length by omega)]
  exact this
theorem v_terr_0 {m:Int}:v_terr m = 0 ↔ (1≤m∧m≤255)∧(v_cho m 8).length≤4 := by
 unfold v_terr
 cases c:s_Z3 m 1 255
 ·rw [cond_false]
  have:¬ (1≤m∧m≤255) := fun q => by rw [tx_within.2 q] at c; cases c
  constructor
  ·intro h; cases h
  ·omega
 ·rw [cond_true]
  have := tx_within.1 c
  by_cases h:((v_cho m 8).length:Int)≤4
  ·rw [decide_eq_true h,cond_true]
   exact ⟨fun _ => ⟨this,by omega⟩,fun _ => rfl⟩
  ·rw [decide_eq_false h,cond_false]
   constructor
   ·intro q; cases q
   ·intro q; omega
theorem v_D_in {p0:List (Int×Int×Int×Int×Int)} {c:List Int} (hs:v_smp p0) (hc:v_ca c):0≤v_D p0 c∧v_D p0 c≤2560000000000000000 := by
 unfold v_D
 rw [v_det_e4]
 exact v_D_le hs hc
theorem fit_ok {p0:List (Int×Int×Int×Int×Int)} {p1:Int} (h:(v_first [(v_cs p0).2,v_terr p1] != 0)=false):v_smp p0∧v_ca (v_cho p1 8) := by
 obtain ⟨h1,h2⟩ := tx_first1 h
 exact ⟨v_cs_iff.1 h1,v_cho_ca (v_terr_0.1 h2).2⟩
theorem fit_is0 {p0:List (Int×Int×Int×Int×Int)} {c:List Int} (hs:v_smp p0) (hc:v_ca c):((v_split (v_w (v_D p0 c))).2.1 == 0 && ((v_split (v_w (v_D p0 c))).2.2 == 0 && true))=(v_D p0 c == 0) := by
 have hD := v_D_in hs hc
 rw [v_split_of (by omega) (by omega),show max (v_D p0 c) (-v_D p0 c)=v_D p0 c by omega]
 unfold v_w
 simp only
 rw [Bool.eq_iff_iff]
 simp only [Bool.and_eq_true,beq_iff_eq,and_true]
 omega
theorem fit_D2 {p0:List (Int×Int×Int×Int×Int)} {c:List Int} (hs:v_smp p0) (hc:v_ca c):(v_split (v_w (v_D p0 c))).2.2 = v_D p0 c := by
 have hD := v_D_in hs hc
 rw [v_split_of (by omega) (by omega),show max (v_D p0 c) (-v_D p0 c)=v_D p0 c by omega]
 unfold v_w
 simp only
 omega
/-- What FitOf returns. -/
def v_fto (p0:List (Int×Int×Int×Int×Int)) (p1:Int):FR := cond (v_first [(v_cs p0).2,v_terr p1] != 0) ((0,0,0,0,0,0,0,0,0),v_first [(v_cs p0).2,v_terr p1]) (v_fitx p0 (v_cho p1 8))
abbrev t_Z1 (p0:List (Int×Int×Int×Int×Int)) (p1:Int):(Int×Int×Int×Int×Int×Int×Int×Int×Int)×Int := v_fto p0 p1
abbrev qre_Z1 (_p0:List (Int×Int×Int×Int×Int)) (_p1:Int):List Prop := []
theorem pp_Z1 (p0:List (Int×Int×Int×Int×Int)) (p1:Int) (_hq:∀ p∈qre_Z1 p0 p1,p):∀ p∈pre_Z1 p0 p1,p := by
 simp only [pre_Z1,fM]
 refine ⟨fun h => (fit_ok h).1,fun h => (fit_ok h).2.len,fun h => (fit_ok h).2.ok,fun h => v_mb_of fun r s => ?_,fun _ => v_w_u _,fun h g => ?_,by simp⟩
 ·have := @v_G_b p0 (v_cho p1 8) (fit_ok h).1 r s
  show _≤v_G p0 (v_cho p1 8) r s∧v_G p0 (v_cho p1 8) r s≤_
  omega
 ·obtain ⟨hs,hc⟩ := fit_ok h
  have g' : (v_D p0 (v_cho p1 8) == 0)=false := (fit_is0 hs hc).symm.trans g
  have hD := v_D_in hs hc
  have hne:v_D p0 (v_cho p1 8) ≠ 0 := by intro q; rw [q] at g'; cases g'
  have e := fit_D2 hs hc
  have l := (fit2_is (d := ((0,0,0,0,0,0,0,0,0),0)) hs hc (by omega)).1
  rw [← e] at l
  exact l
theorem tt_Z1 (p0:List (Int×Int×Int×Int×Int)) (p1:Int) (_hq:∀ p∈qre_Z1 p0 p1,p):s_Z1 p0 p1 = t_Z1 p0 p1 := by
 unfold s_Z1 t_Z1 v_fto
 cases h:(v_first [(v_cs p0).2,v_terr p1] != 0)
 ·obtain ⟨hs,hc⟩ := fit_ok h
  rw [cond_false,cond_false]
  unfold v_fitx
  have g := fit_is0 hs hc
  have hD := v_D_in hs hc
  have e := fit_D2 hs hc
  cases q:(v_D p0 (v_cho p1 8) == 0)
  ·have hne:v_D p0 (v_cho p1 8) ≠ 0 := by intro z; rw [z] at q; cases q
   have l := (fit2_is (d := ((0,0,0,0,0,0,0,0,0),0)) hs hc (by omega)).2
   rw [← e] at l
   rw [q] at g
   refine (congrArg (fun b => cond b _ _) g).trans ?_
   rw [cond_false,cond_false]
   rw [e] at l
   refine Eq.trans ?_ l
   rw [← e]; rfl
  ·rw [q] at g
   refine (congrArg (fun b => cond b _ _) g).trans ?_
   rfl
 ·rfl

abbrev con_Z1:Con := ⟨P_Z1,R_Z1,fun x => qre_Z1 x.1 x.2,fun x => t_Z1 x.1 x.2⟩
theorem ok_Z1:ConOk Try.prog 25 con_Z1 := okG k_Z1 e_Z1 hC_Z1 fun x hx => tf_of (w_Z1_eq x.1 x.2 _) (d_Z1 x.1 x.2 _ (pp_Z1 x.1 x.2 hx) (tt_Z1 x.1 x.2 hx))
def C_Z13:Cons := [(83,[],con_Z11)]
theorem hC_Z13:ConsOk Try.prog C_Z13 := cC ok_Z11 <| ConsOk.nil
def w_Z13 (p0:Int) (K:Bool→Prop):Prop := (K (!(s_Z7 p0 (-1000000000:Int) (1000000000:Int))))
theorem w_Z13_eq (p0:Int) (K:Bool→Prop):tfn F_Z13 A_Z13 C_Z13 P_Z13 R_Z13 p0 K = w_Z13 p0 K := by kernel_rfl
def s_Z13 (p0:Int):Bool := (!(s_Z7 p0 (-1000000000:Int) (1000000000:Int)))
abbrev pre_Z13 (_p0:Int):List Prop := []
theorem d_Z13 (p0:Int) (K:Bool→Prop) (_hp:∀ p∈pre_Z13 p0,p) (h:K (s_Z13 p0)):w_Z13 p0 K := by
 unfold w_Z13
 unfold s_Z13 at h
 exact h
abbrev con_Z13:Con := ⟨P_Z13,R_Z13,fun x => pre_Z13 x,fun x => s_Z13 x⟩
theorem ok_Z13:ConOk Try.prog 132 con_Z13 := okG k_Z13 e_Z13 hC_Z13 fun x hx => tf_of (w_Z13_eq x _) (d_Z13 x _ hx rfl)
def C_Zg:Cons := [(132,[],con_Z13)]
theorem hC_Zg:ConsOk Try.prog C_Zg := cC ok_Z13 <| ConsOk.nil
def w_Zg (p0:gF) (_p1:PUnit) (K:Int→Prop):Prop := (∃ n0,(loopP (fun (y1:Int) k2 => ((((decide (y1 < (p0.length:Int)))=true) →((zz0≤y1) ∧((y1 < (p0.length:Int)) ∧((((!(s_Z7 (p0.getD y1.toNat zz0) (-1000000000:Int) (1000000000:Int)))=true) →(K y1)) ∧(((!(s_Z7 (p0.getD y1.toNat zz0) (-1000000000:Int) (1000000000:Int)))=false) →(k2 (IntKind.i64.wrap (y1 + 1)))))))) ∧(((decide (y1 < (p0.length:Int)))=false) →(K (-1:Int))))) n0 zz0))
theorem w_Zg_eq (p0:gF) (p1:PUnit) (K:Int→Prop):tfn F_Zg A_Zg C_Zg P_Zg R_Zg (p0,p1) K = w_Zg p0 p1 K := by kernel_rfl
def st_Zg_0 (p0:gF) (_p1:PUnit) (y0:Int):Int ⊕ Int := (cond (decide (y0 < (p0.length:Int))) (cond (!(s_Z7 (p0.getD y0.toNat (0:Int)) (-1000000000:Int) (1000000000:Int))) (Sum.inr y0) (Sum.inl (IntKind.i64.wrap (y0 + 1)))) (Sum.inr (-1:Int)))
abbrev sp_Zg_0 (p0:gF) (_p1:PUnit) (y0:Int):List Prop := [(((decide (y0 < (p0.length:Int)))=true)→((0:Int)≤y0)),(((decide (y0 < (p0.length:Int)))=true)→(y0 < (p0.length:Int)))]
def s_Zg (p0:gF) (p1:PUnit):Int := (lpv (0:Int) (st_Zg_0 p0 p1) (0:Int))
abbrev pre_Zg (p0:gF) (p1:PUnit):List Prop := [(OkL (st_Zg_0 p0 p1) (sp_Zg_0 p0 p1) (0:Int))]
theorem d_Zg (p0:gF) (p1:PUnit) (K:Int→Prop) (hp:∀ p∈pre_Zg p0 p1,p) (h:K (s_Zg p0 p1)):w_Zg p0 p1 K := by
 unfold w_Zg
 unfold s_Zg at h
 obtain ⟨hp0,_⟩ := conj_of hp
 exact (loop_gen (hp0) h (fun y0 k0 hp h => by
 unfold st_Zg_0 at h; obtain ⟨hp0,hp1,_⟩ := conj_of hp
 exact (br' h (fun e1 h => ⟨(hp0 e1),(hp1 e1),(br' h (fun e2 h => h)
  (fun e2 h => h))⟩)
  (fun e1 h => h))))
/-- Whether a number can be a part of a fit. -/
def v_prt (x:Int):Bool := s_Z3 x (-1000000000) 1000000000
def v_fidx (l:gF):Int := v_scan (fun i x => cond (!(v_prt x)) (some i) none) (-1) 0 l
theorem l_Zg_0 (p0:gF) (p1:PUnit) (hl:lenOk p0):OkL (st_Zg_0 p0 p1) (sp_Zg_0 p0 p1) 0∧lpv (0:Int) (st_Zg_0 p0 p1) 0 = v_scan (fun i x => cond (!(v_prt x)) (some i) none) (-1) 0 p0 := by
 refine scan_is p0 0 (fun i x => cond (!(v_prt x)) (some i) none) (-1) hl ?_ ?_
 ·refine ⟨by simp only [sp_Zg_0,fM,decide_eq_true_eq]; simp,by simp [st_Zg_0]⟩
 ·intro j hj
  have hj' : (j:Int) < p0.length := by omega
  refine ⟨by simp only [sp_Zg_0,fM,decide_eq_true_eq,Int.toNat_natCast]; simp <;> omega,?_⟩
  simp only [st_Zg_0,hj',decide_true,Int.toNat_natCast,cond_true,wrap_nat (show (j:Int)≤9223372036854775806 by unfold lenOk at hl; omega)]
  have e:s_Z7 (p0.getD j 0) (-1000000000) 1000000000 = v_prt (p0.getD j 0) := rfl
  rw [e]
  cases v_prt (p0.getD j 0) <;> rfl
abbrev t_Zg (p0:gF) (_p1:PUnit):Int := v_fidx p0
abbrev qre_Zg (p0:gF) (_p1:PUnit):List Prop := [lenOk p0]
theorem pp_Zg (p0:gF) (p1:PUnit) (hq:∀ p∈qre_Zg p0 p1,p):∀ p∈pre_Zg p0 p1,p := by
 simp only [pre_Zg,fM]
 exact ⟨(l_Zg_0 p0 p1 (conj_of hq).1).1,by simp⟩
theorem tt_Zg (p0:gF) (p1:PUnit) (hq:∀ p∈qre_Zg p0 p1,p):s_Zg p0 p1 = t_Zg p0 p1 := by
 exact (l_Zg_0 p0 p1 (conj_of hq).1).2

abbrev con_Zg:Con := ⟨P_Zg,R_Zg,fun x => qre_Zg x.1 x.2,fun x => t_Zg x.1 x.2⟩
theorem ok_Zg:ConOk Try.prog 137 con_Zg := okG k_Zg e_Zg hC_Zg fun x hx => tf_of (w_Zg_eq x.1 x.2 _) (d_Zg x.1 x.2 _ (pp_Zg x.1 x.2 hx) (tt_Zg x.1 x.2 hx))
def C_Z19:Cons := [(137,[132],con_Zg)]
theorem hC_Z19:ConsOk Try.prog C_Z19 := cC ok_Zg <| ConsOk.nil
def w_Z19 (p0:gF) (_p1:PUnit) (K:Bool→Prop):Prop := ((lenOk p0) ∧(K (decide ((v_fidx p0) ≥ 0))))
theorem w_Z19_eq (p0:gF) (p1:PUnit) (K:Bool→Prop):tfn F_Z19 A_Z19 C_Z19 P_Z19 R_Z19 (p0,p1) K = w_Z19 p0 p1 K := by kernel_rfl
def s_Z19 (p0:gF) (_p1:PUnit):Bool := (decide ((v_fidx p0) ≥ 0))
abbrev pre_Z19 (p0:gF) (_p1:PUnit):List Prop := [(lenOk p0)]
theorem d_Z19 (p0:gF) (p1:PUnit) (K:Bool→Prop) (hp:∀ p∈pre_Z19 p0 p1,p) (h:K (s_Z19 p0 p1)):w_Z19 p0 p1 K := by
 unfold w_Z19
 unfold s_Z19 at h
 obtain ⟨hp0,_⟩ := conj_of hp
 exact ⟨(hp0),h⟩
abbrev con_Z19:Con := ⟨P_Z19,R_Z19,fun x => pre_Z19 x.1 x.2,fun x => s_Z19 x.1 x.2⟩
theorem ok_Z19:ConOk Try.prog 124 con_Z19 := okG k_Z19 e_Z19 hC_Z19 fun x hx => tf_of (w_Z19_eq x.1 x.2 _) (d_Z19 x.1 x.2 _ hx rfl)
def C_Zs:Cons := [(124,[132],con_Z19),(86,[],con_Z7),(66,[],con_Zf)]
theorem hC_Zs:ConsOk Try.prog C_Zs := cC ok_Z19 <| cC ok_Z7 <| cC ok_Zf <| ConsOk.nil
def w_Zs (p0:(Int×(Int×(Int×(Int×(Int×(Int×(Int×(Int×Int))))))))) (K:Int→Prop):Prop := ((lenOk (p0.2.1 :: (p0.2.2.1 :: (p0.2.2.2.1 :: (p0.2.2.2.2.1 :: (p0.2.2.2.2.2.1 :: (p0.2.2.2.2.2.2.1 :: (p0.2.2.2.2.2.2.2.1 :: (p0.2.2.2.2.2.2.2.2 :: ([]:List Int)))))))))) ∧((((s_Z7 p0.1 zz1 (1000000000:Int))=true) →((s_Z7 p0.1 zz1 (1000000000:Int))=(s_Z7 p0.1 zz1 (1000000000:Int)))) ∧(((s_Z7 p0.1 zz1 (1000000000:Int))=(s_Z7 p0.1 zz1 (1000000000:Int))) ∧(K (s_Zf (cond (s_Z7 p0.1 zz1 (1000000000:Int)) (!(decide ((v_fidx (p0.2.1 :: (p0.2.2.1 :: (p0.2.2.2.1 :: (p0.2.2.2.2.1 :: (p0.2.2.2.2.2.1 :: (p0.2.2.2.2.2.2.1 :: (p0.2.2.2.2.2.2.2.1 :: (p0.2.2.2.2.2.2.2.2 :: ([]:List Int)))))))))) ≥ 0))) false) (2:Int))))))
theorem w_Zs_eq (p0:(Int×(Int×(Int×(Int×(Int×(Int×(Int×(Int×Int))))))))) (K:Int→Prop):tfn F_Zs A_Zs C_Zs P_Zs R_Zs p0 K = w_Zs p0 K := by kernel_rfl
def s_Zs (p0:(Int×(Int×(Int×(Int×(Int×(Int×(Int×(Int×Int))))))))):Int := (s_Zf (cond (s_Z7 p0.1 (1:Int) (1000000000:Int)) (!(decide ((v_fidx (p0.2.1 :: (p0.2.2.1 :: (p0.2.2.2.1 :: (p0.2.2.2.2.1 :: (p0.2.2.2.2.2.1 :: (p0.2.2.2.2.2.2.1 :: (p0.2.2.2.2.2.2.2.1 :: (p0.2.2.2.2.2.2.2.2 :: ([]:List Int)))))))))) ≥ 0))) false) (2:Int))
abbrev pre_Zs (_p0:(Int×(Int×(Int×(Int×(Int×(Int×(Int×(Int×Int))))))))):List Prop := []
theorem d_Zs (p0:(Int×(Int×(Int×(Int×(Int×(Int×(Int×(Int×Int))))))))) (K:Int→Prop) (_hp:∀ p∈pre_Zs p0,p) (h:K (s_Zs p0)):w_Zs p0 K := by
 unfold w_Zs
 unfold s_Zs at h
 exact ⟨(lenOk_of 8 rfl (by decide)),rf,rfl,h⟩
/-- The parts of a fit; what is wrong with it. -/
def v_parts (f:Int×Int×Int×Int×Int×Int×Int×Int×Int):List Int := [f.2.1,f.2.2.1,f.2.2.2.1,f.2.2.2.2.1,f.2.2.2.2.2.1,f.2.2.2.2.2.2.1,f.2.2.2.2.2.2.2.1,f.2.2.2.2.2.2.2.2]
def v_ferr (f:Int×Int×Int×Int×Int×Int×Int×Int×Int):Int := cond (cond (s_Z3 f.1 1 1000000000) ((v_parts f).all v_prt) false) 0 2
structure v_fok (f:Int×Int×Int×Int×Int×Int×Int×Int×Int):Prop where
 den:1≤f.1∧f.1≤1000000000
 ok:∀ x∈v_parts f,-1000000000≤x∧x≤1000000000
theorem v_ferr_ok {f:Int×Int×Int×Int×Int×Int×Int×Int×Int} (h:v_ferr f = 0):v_fok f := by
 unfold v_ferr at h
 cases c:s_Z3 f.1 1 1000000000 <;> rw [c] at h
 ·cases h
 ·cases d:(v_parts f).all v_prt <;> rw [d] at h
  ·cases h
  ·exact ⟨tx_within.1 c,fun x hx => tx_within.1 (List.all_eq_true.1 d x hx)⟩
theorem v_parts_get {f:Int×Int×Int×Int×Int×Int×Int×Int×Int} (h:v_fok f) {k:Nat} (hk:k < 8) : -1000000000≤(v_parts f).getD k 0∧(v_parts f).getD k 0≤1000000000 := h.ok _ (getD_mem' 0 hk)
abbrev t_Zs (p0:Int×Int×Int×Int×Int×Int×Int×Int×Int):Int := v_ferr p0
abbrev qre_Zs (_p0:Int×Int×Int×Int×Int×Int×Int×Int×Int):List Prop := []
theorem pp_Zs (p0:Int×Int×Int×Int×Int×Int×Int×Int×Int) (_hq:∀ p∈qre_Zs p0,p):∀ p∈pre_Zs p0,p := by
 simp [pre_Zs]
theorem tt_Zs (p0:Int×Int×Int×Int×Int×Int×Int×Int×Int) (_hq:∀ p∈qre_Zs p0,p):s_Zs p0 = t_Zs p0 := by
 unfold s_Zs t_Zs v_ferr
 rw [show ([p0.2.1,p0.2.2.1,p0.2.2.2.1,p0.2.2.2.2.1,p0.2.2.2.2.2.1,p0.2.2.2.2.2.2.1,p0.2.2.2.2.2.2.2.1,p0.2.2.2.2.2.2.2.2]:List Int)=v_parts p0 from rfl,tx_unless]
 unfold v_fidx
 rw [v_scan_idx (c := fun x => !(v_prt x)) (v_parts p0) 0 (Int.le_refl _),show (v_parts p0).any (fun x => !(v_prt x)) = !((v_parts p0).all v_prt) by rw [List.not_all_eq_any_not],Bool.not_not]
 rfl

abbrev con_Zs:Con := ⟨P_Zs,R_Zs,fun x => qre_Zs x,fun x => t_Zs x⟩
theorem ok_Zs:ConOk Try.prog 117 con_Zs := okG k_Zs e_Zs hC_Zs fun x hx => tf_of (w_Zs_eq x _) (d_Zs x _ (pp_Zs x hx) (tt_Zs x hx))
def C_Zx:Cons := [(17,[],con_Z3)]
theorem hC_Zx:ConsOk Try.prog C_Zx := cC ok_Z3 <| ConsOk.nil
def w_Zx (p0:(Int×(Int×(Int×(Int×(Int×(Int×(Int×(Int×Int))))))))) (K:Int→Prop):Prop := ((((!(s_Z3 p0.1 zz1 (1000000000:Int)))=true) →(K (2:Int))) ∧(((!(s_Z3 p0.1 zz1 (1000000000:Int)))=false) →(∃ n0,(loopP (fun (y1:Int) k2 => ((((decide (y1 < 8))=true) →((zz0≤y1) ∧((y1 < 8) ∧((((!(s_Z3 (List.getD (p0.2.1 :: (p0.2.2.1 :: (p0.2.2.2.1 :: (p0.2.2.2.2.1 :: (p0.2.2.2.2.2.1 :: (p0.2.2.2.2.2.2.1 :: (p0.2.2.2.2.2.2.2.1 :: (p0.2.2.2.2.2.2.2.2 :: ([]:List Int))))))))) y1.toNat zz0) (-1000000000:Int) (1000000000:Int)))=true) →(K (2:Int))) ∧(((!(s_Z3 (List.getD (p0.2.1 :: (p0.2.2.1 :: (p0.2.2.2.1 :: (p0.2.2.2.2.1 :: (p0.2.2.2.2.2.1 :: (p0.2.2.2.2.2.2.1 :: (p0.2.2.2.2.2.2.2.1 :: (p0.2.2.2.2.2.2.2.2 :: ([]:List Int))))))))) y1.toNat zz0) (-1000000000:Int) (1000000000:Int)))=false) →(k2 (IntKind.i64.wrap (y1 + 1)))))))) ∧(((decide (y1 < 8))=false) →(K zz0)))) n0 zz0))))
theorem w_Zx_eq (p0:(Int×(Int×(Int×(Int×(Int×(Int×(Int×(Int×Int))))))))) (K:Int→Prop):tfn F_Zx A_Zx C_Zx P_Zx R_Zx p0 K = w_Zx p0 K := by kernel_rfl
def s_Zx (p0:(Int×(Int×(Int×(Int×(Int×(Int×(Int×(Int×Int))))))))):Int := (cond (!(s_Z3 p0.1 (1:Int) (1000000000:Int))) (2:Int) (cond (!(s_Z3 p0.2.1 (-1000000000:Int) (1000000000:Int))) (2:Int) (cond (!(s_Z3 p0.2.2.1 (-1000000000:Int) (1000000000:Int))) (2:Int) (cond (!(s_Z3 p0.2.2.2.1 (-1000000000:Int) (1000000000:Int))) (2:Int) (cond (!(s_Z3 p0.2.2.2.2.1 (-1000000000:Int) (1000000000:Int))) (2:Int) (cond (!(s_Z3 p0.2.2.2.2.2.1 (-1000000000:Int) (1000000000:Int))) (2:Int) (cond (!(s_Z3 p0.2.2.2.2.2.2.1 (-1000000000:Int) (1000000000:Int))) (2:Int) (cond (!(s_Z3 p0.2.2.2.2.2.2.2.1 (-1000000000:Int) (1000000000:Int))) (2:Int) (cond (!(s_Z3 p0.2.2.2.2.2.2.2.2 (-1000000000:Int) (1000000000:Int))) (2:Int) (0:Int))))))))))
abbrev pre_Zx (_p0:(Int×(Int×(Int×(Int×(Int×(Int×(Int×(Int×Int))))))))):List Prop := []
theorem d_Zx (p0:(Int×(Int×(Int×(Int×(Int×(Int×(Int×(Int×Int))))))))) (K:Int→Prop) (_hp:∀ p∈pre_Zx p0,p) (h:K (s_Zx p0)):w_Zx p0 K := by
 unfold w_Zx
 unfold s_Zx at h
 exact (br' h (fun e0 h => h)
  (fun e0 h => ⟨31,fun _ => ⟨(od rfl),(od rfl),(br' h (fun e1 h => h)
  (fun e1 h => ⟨fun _ => ⟨(od rfl),(od rfl),(br' h (fun e2 h => h)
  (fun e2 h => ⟨fun _ => ⟨(od rfl),(od rfl),(br' h (fun e3 h => h)
  (fun e3 h => ⟨fun _ => ⟨(od rfl),(od rfl),(br' h (fun e4 h => h)
  (fun e4 h => ⟨fun _ => ⟨(od rfl),(od rfl),(br' h (fun e5 h => h)
  (fun e5 h => ⟨fun _ => ⟨(od rfl),(od rfl),(br' h (fun e6 h => h)
  (fun e6 h => ⟨fun _ => ⟨(od rfl),(od rfl),(br' h (fun e7 h => h)
  (fun e7 h => ⟨fun _ => ⟨(od rfl),(od rfl),(br' h (fun e8 h => h)
  (fun e8 h => ⟨nof,fun _ => h⟩))⟩,fun e => Bool.noConfusion (show true = false from e)⟩))⟩,fun e => Bool.noConfusion (show true = false from e)⟩))⟩,fun e => Bool.noConfusion (show true = false from e)⟩))⟩,fun e => Bool.noConfusion (show true = false from e)⟩))⟩,fun e => Bool.noConfusion (show true = false from e)⟩))⟩,fun e => Bool.noConfusion (show true = false from e)⟩))⟩,fun e => Bool.noConfusion (show true = false from e)⟩))⟩,fun e => Bool.noConfusion (show true = false from e)⟩))
abbrev t_Zx (p0:Int×Int×Int×Int×Int×Int×Int×Int×Int):Int := v_ferr p0
abbrev qre_Zx (_p0:Int×Int×Int×Int×Int×Int×Int×Int×Int):List Prop := []
theorem pp_Zx (p0:Int×Int×Int×Int×Int×Int×Int×Int×Int) (_hq:∀ p∈qre_Zx p0,p):∀ p∈pre_Zx p0,p := by
 simp [pre_Zx]
theorem tt_Zx (p0:Int×Int×Int×Int×Int×Int×Int×Int×Int) (_hq:∀ p∈qre_Zx p0,p):s_Zx p0 = t_Zx p0 := by
 unfold s_Zx t_Zx v_ferr
 cases c:s_Z3 p0.1 1 1000000000
 ·rfl
 simp only [v_parts,List.all_cons,List.all_nil,cond_true,Bool.not_true,cond_false]
 have e:∀ x,s_Z3 x (-1000000000) 1000000000 = v_prt x := fun _ => rfl
 simp only [e]
 cases v_prt p0.2.1
 ·rfl
 cases v_prt p0.2.2.1
 ·rfl
 cases v_prt p0.2.2.2.1
 ·rfl
 cases v_prt p0.2.2.2.2.1
 ·rfl
 cases v_prt p0.2.2.2.2.2.1
 ·rfl
 cases v_prt p0.2.2.2.2.2.2.1
 ·rfl
 cases v_prt p0.2.2.2.2.2.2.2.1
 ·rfl
 cases v_prt p0.2.2.2.2.2.2.2.2 <;> rfl

abbrev con_Zx:Con := ⟨P_Zx,R_Zx,fun x => qre_Zx x,fun x => t_Zx x⟩
theorem ok_Zx:ConOk Try.prog 26 con_Zx := okG k_Zx e_Zx hC_Zx fun x hx => tf_of (w_Zx_eq x _) (d_Zx x _ (pp_Zx x hx) (tt_Zx x hx))
end Go.Proofs.Ytdkhhafmidokmaa
