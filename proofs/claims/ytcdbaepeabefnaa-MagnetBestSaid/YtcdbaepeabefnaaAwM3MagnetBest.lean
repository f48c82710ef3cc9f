import Derived.Test.YtcdbaepeabefnaaMxYx
import Derived.Test.YtcdbaepeabefnaaFnMagnetBestA
import Derived.KernelRfl
namespace Go.Proofs.Ytcdbaepeabefnaa
open Go Go.Mx
set_option maxRecDepth 100000
/-- cloverleaf/magnet.orders -/
def am59:AFn := ⟨7,2,[],
  (.seq (.reg [⟨some 3,none,(.op (.build [(.p (.int .i64 0)),(.p (.int .i64 0)),(.p (.int .i64 0)),(.p (.int .i64 0))] [(0,1,(.c (.p (.int .i64 0)))),(1,1,(.c (.p (.int .i64 1)))),(2,1,(.c (.p (.int .i64 2)))),(3,1,(.c (.p (.int .i64 3))))]))⟩,
    ⟨some 2,none,(.op (.newz 0 [(.p (.int .i64 0)),(.p (.int .i64 0)),(.p (.int .i64 0)),(.p (.int .i64 0))]))⟩,
    ⟨none,none,(.op (.st 4 (.t 2) (.t 3)))⟩])
  (.reg [⟨some 4,none,(.op (.ldn 4 (.t 2)))⟩,
    ⟨some 5,none,(.op (.mv (.t 0)))⟩,
    ⟨some 6,none,(.call 1 84 [(.t 4),(.c (.p (.int .i64 0))),(.c (.p (.int .i64 1))),(.t 5)])⟩]))⟩
theorem cm59:cFn Try.prog 59 = some am59 := by kernel_rfl
/-- cloverleaf/magnet.swapped -/
def am84:AFn := ⟨47,4,[.tmp 8],
  (.seq (.reg [⟨some 4,none,(.op (.box 0 (.t 0)))⟩,
    ⟨some 8,none,(.op (.mv (.c (.p (.bool false)))))⟩])
  (.seq (.seq (.reg [⟨some 12,none,(.op (.mv (.t 1)))⟩,
    ⟨some 13,none,(.op (.bin .eql (.t 12) (.c (.p (.int .i64 4)))))⟩])
  (.cond (.t 13) (.seq (.reg [⟨some 14,none,(.op (.mv (.t 3)))⟩,
    ⟨some 15,none,(.op (.ldn 4 (.t 4)))⟩,
    ⟨some 16,none,(.op (.mv (.t 2)))⟩,
    ⟨some 17,none,(.callv 1 (.t 14) [(.t 15),(.t 16)])⟩,
    ⟨some 8,none,(.op (.mv (.t 17)))⟩])
  .ret) .skip))
  (.seq (.seq (.reg [⟨some 18,none,(.op (.mv (.t 1)))⟩,
    ⟨some 9,none,(.op (.mv (.t 18)))⟩])
  (.block 0 (.loop (.seq (.seq (.reg [⟨some 19,none,(.op (.mv (.t 9)))⟩,
    ⟨some 20,none,(.op (.bin .lss (.t 19) (.c (.p (.int .i64 4)))))⟩])
  (.cond (.t 20) .skip (.exit 0)))
  (.seq (.block 1 (.seq (.reg [⟨some 23,none,(.op (.ldn 4 (.t 4)))⟩,
    ⟨some 24,none,(.op (.mv (.t 2)))⟩,
    ⟨some 10,none,(.op (.newz 2 [(.p (.int .i64 0)),(.p (.int .i64 0)),(.p (.int .i64 0)),(.p (.int .i64 0))]))⟩,
    ⟨none,none,(.op (.st 4 (.t 10) (.t 23)))⟩,
    ⟨some 11,none,(.op (.mv (.t 24)))⟩])
  (.seq (.seq (.reg [⟨some 25,none,(.op (.mv (.t 9)))⟩,
    ⟨some 26,none,(.op (.mv (.t 1)))⟩,
    ⟨some 27,none,(.op (.bin .neq (.t 25) (.t 26)))⟩])
  (.cond (.t 27) (.seq (.regd [⟨some 28,none,(.op (.mv (.t 1)))⟩,
    ⟨some 29,none,(.op (.mv (.t 9)))⟩,
    ⟨some 30,none,(.op (.mv (.t 9)))⟩,
    ⟨some 31,none,(.op (.iaa 1 4 (.t 10) (.t 30)))⟩,
    ⟨some 32,none,(.op (.ld1 (.t 31)))⟩,
    ⟨some 33,none,(.op (.mv (.t 1)))⟩,
    ⟨some 34,none,(.op (.iaa 1 4 (.t 10) (.t 33)))⟩,
    ⟨some 35,none,(.op (.ld1 (.t 34)))⟩,
    ⟨some 36,none,(.op (.iaa 1 4 (.t 10) (.t 28)))⟩,
    ⟨none,none,(.op (.st 1 (.t 36) (.t 32)))⟩,
    ⟨some 37,none,(.op (.iaa 1 4 (.t 10) (.t 29)))⟩,
    ⟨none,none,(.op (.st 1 (.t 37) (.t 35)))⟩] [(4,7)])
  (.reg [⟨some 38,none,(.op (.mv (.t 2)))⟩,
    ⟨some 39,none,(.op (.uneg (.t 38)))⟩,
    ⟨some 11,none,(.op (.mv (.t 39)))⟩])) .skip))
  (.seq (.reg [⟨some 40,none,(.op (.ldn 4 (.t 10)))⟩,
    ⟨some 41,none,(.op (.mv (.t 1)))⟩,
    ⟨some 42,none,(.op (.bin .add (.t 41) (.c (.p (.int .i64 1)))))⟩,
    ⟨some 43,none,(.op (.mv (.t 11)))⟩,
    ⟨some 44,none,(.op (.mv (.t 3)))⟩,
    ⟨some 45,none,(.call 3 84 [(.t 40),(.t 42),(.t 43),(.t 44)])⟩,
    ⟨some 46,none,(.op (.unot (.t 45)))⟩])
  (.cond (.t 46) (.seq (.reg [⟨some 8,none,(.op (.mv (.c (.p (.bool false)))))⟩])
  .ret) .skip)))))
  (.reg [⟨some 21,none,(.op (.mv (.t 9)))⟩,
    ⟨some 22,none,(.op (.bin .add (.t 21) (.c (.p (.int .i64 1)))))⟩,
    ⟨some 9,none,(.op (.mv (.t 22)))⟩]))))))
  (.seq (.reg [⟨some 8,none,(.op (.mv (.c (.p (.bool true)))))⟩])
  .ret))))⟩
theorem cm84:cFn Try.prog 84 = some am84 := by kernel_rfl
theorem km84:jan Try.prog 84 = true := by kernel_rfl
/-- All orders of four columns,with their signs. -/
def ordL:List (List Int×Int) := [([0,1,2,3],1),([0,1,3,2],(-1)),([0,2,1,3],(-1)),([0,2,3,1],1),([0,3,2,1],(-1)),([0,3,1,2],1),([1,0,2,3],(-1)),([1,0,3,2],1),([1,2,0,3],1),([1,2,3,0],(-1)),([1,3,2,0],1),([1,3,0,2],(-1)),([2,1,0,3],(-1)),([2,1,3,0],1),([2,0,1,3],1),([2,0,3,1],(-1)),([2,3,0,1],1),([2,3,1,0],(-1)),([3,1,2,0],(-1)),([3,1,0,2],1),([3,2,1,0],1),([3,2,0,1],(-1)),([3,0,2,1],1),([3,0,1,2],(-1))]
def jkL:List (List V) := ordL.map fun x => [.agg (x.1.map fun n => .p (.int .i64 n)),.p (.int .i64 x.2)]
def jqd:YFns := [(84,am84)]
theorem jx4:∀ f F,yxFn f jqd = some F→cFn Try.prog f = some F∧jan Try.prog f = true := by
  intro f F h
  unfold jqd yxFn at h
  split at h
  · rename_i e
    cases h
    obtain rfl := Nat.eq_of_beq_eq_true e
    exact ⟨cm84,km84⟩
  · cases h
theorem jqe:Iter Try.prog 59 [] jkL := jHw cm59 rfl jx4 (ls := fun l => List.replicate 24 l) (fun l x hx => List.eq_of_mem_replicate hx) (n := 60) (d := 6) (fun l => by kernel_rfl)
def itM:jdW := fun f cap => match decide (f = 59),cap with
  | true,[] => some jkL
  | _,_ => none
theorem jic:jhF Try.prog itM := by
  intro f cap vs h
  unfold itM at h
  split at h
  · rename_i e
    cases h
    obtain rfl := of_decide_eq_true e
    exact jqe
  · cases h
def tab:Tab := [(16,0,jkp.erase),(47,0,F_Zl.erase),(26,0,F_Zd.erase),(58,0,F_Z8.erase),(83,0,jh7.erase),(66,0,jh6.erase),(82,0,jh8.erase),(78,0,jh9.erase),(57,0,F_Z4.erase),(27,0,jh1.erase),(37,0,jh2.erase),(29,0,F_Ze.erase),(28,0,F_Zw.erase),(39,0,F_Zk.erase),(30,0,F_Z3.erase),(38,0,F_Zs.erase),(86,0,jfG.erase),(62,0,F_Zr.erase),(61,0,F_Zt.erase),(60,0,F_Zu.erase),(32,0,F_Zy.erase),(87,0,jia.erase),(63,0,jh4.erase),(33,0,F_Z2.erase),(34,0,F_Zj.erase),(35,0,F_Zz.erase),(7,0,F_Z0.erase),(18,0,jkq.erase),(65,0,jib.erase),(88,0,F_Zm.erase),(64,0,jh5.erase),(36,0,F_Zv.erase),(40,0,F_Zg.erase),(49,0,jh3.erase),(45,0,F_Zh.erase),(17,0,jkr.erase),(20,0,jks.erase),(73,0,jkE.erase),(46,0,jkx.erase),(48,0,jky.erase),(91,0,jkK.erase),(76,0,jkI.erase),(75,0,jkH.erase),(74,0,jkF.erase),(50,0,jkz.erase),(19,0,jkt.erase),(51,0,jkA.erase),(52,0,jkB.erase),(21,0,jku.erase),(77,0,jkJ.erase),(53,0,jkC.erase),(54,0,jkD.erase),(22,0,jkv.erase),(23,0,jkw.erase),(4,0,jkm.erase)]
theorem jx5:Tab.ok Try.prog tab :=
  Tab.ok_cons (b := 0) (show cFn Try.prog 16 = some (jkp.erase) from jwQ) <|
  Tab.ok_cons (b := 0) (show cFn Try.prog 47 = some (F_Zl.erase) from e_Zl) <|
  Tab.ok_cons (b := 0) (show cFn Try.prog 26 = some (F_Zd.erase) from e_Zd) <|
  Tab.ok_cons (b := 0) (show cFn Try.prog 58 = some (F_Z8.erase) from e_Z8) <|
  Tab.ok_cons (b := 0) (show cFn Try.prog 83 = some (jh7.erase) from jpV) <|
  Tab.ok_cons (b := 0) (show cFn Try.prog 66 = some (jh6.erase) from jpJ) <|
  Tab.ok_cons (b := 0) (show cFn Try.prog 82 = some (jh8.erase) from jpY) <|
  Tab.ok_cons (b := 0) (show cFn Try.prog 78 = some (jh9.erase) from jp1) <|
  Tab.ok_cons (b := 0) (show cFn Try.prog 57 = some (F_Z4.erase) from e_Z4) <|
  Tab.ok_cons (b := 0) (show cFn Try.prog 27 = some (jh1.erase) from jpi) <|
  Tab.ok_cons (b := 0) (show cFn Try.prog 37 = some (jh2.erase) from jpl) <|
  Tab.ok_cons (b := 0) (show cFn Try.prog 29 = some (F_Ze.erase) from e_Ze) <|
  Tab.ok_cons (b := 0) (show cFn Try.prog 28 = some (F_Zw.erase) from e_Zw) <|
  Tab.ok_cons (b := 0) (show cFn Try.prog 39 = some (F_Zk.erase) from e_Zk) <|
  Tab.ok_cons (b := 0) (show cFn Try.prog 30 = some (F_Z3.erase) from e_Z3) <|
  Tab.ok_cons (b := 0) (show cFn Try.prog 38 = some (F_Zs.erase) from e_Zs) <|
  Tab.ok_cons (b := 0) (show cFn Try.prog 86 = some (jfG.erase) from jkG) <|
  Tab.ok_cons (b := 0) (show cFn Try.prog 62 = some (F_Zr.erase) from e_Zr) <|
  Tab.ok_cons (b := 0) (show cFn Try.prog 61 = some (F_Zt.erase) from e_Zt) <|
  Tab.ok_cons (b := 0) (show cFn Try.prog 60 = some (F_Zu.erase) from e_Zu) <|
  Tab.ok_cons (b := 0) (show cFn Try.prog 32 = some (F_Zy.erase) from e_Zy) <|
  Tab.ok_cons (b := 0) (show cFn Try.prog 87 = some (jia.erase) from jp6) <|
  Tab.ok_cons (b := 0) (show cFn Try.prog 63 = some (jh4.erase) from jpx) <|
  Tab.ok_cons (b := 0) (show cFn Try.prog 33 = some (F_Z2.erase) from e_Z2) <|
  Tab.ok_cons (b := 0) (show cFn Try.prog 34 = some (F_Zj.erase) from e_Zj) <|
  Tab.ok_cons (b := 0) (show cFn Try.prog 35 = some (F_Zz.erase) from e_Zz) <|
  Tab.ok_cons (b := 0) (show cFn Try.prog 7 = some (F_Z0.erase) from e_Z0) <|
  Tab.ok_cons (b := 0) (show cFn Try.prog 18 = some (jkq.erase) from jwR) <|
  Tab.ok_cons (b := 0) (show cFn Try.prog 65 = some (jib.erase) from jqc) <|
  Tab.ok_cons (b := 0) (show cFn Try.prog 88 = some (F_Zm.erase) from e_Zm) <|
  Tab.ok_cons (b := 0) (show cFn Try.prog 64 = some (jh5.erase) from jpA) <|
  Tab.ok_cons (b := 0) (show cFn Try.prog 36 = some (F_Zv.erase) from e_Zv) <|
  Tab.ok_cons (b := 0) (show cFn Try.prog 40 = some (F_Zg.erase) from e_Zg) <|
  Tab.ok_cons (b := 0) (show cFn Try.prog 49 = some (jh3.erase) from jpu) <|
  Tab.ok_cons (b := 0) (show cFn Try.prog 45 = some (F_Zh.erase) from e_Zh) <|
  Tab.ok_cons (b := 0) (show cFn Try.prog 17 = some (jkr.erase) from jwS) <|
  Tab.ok_cons (b := 0) (show cFn Try.prog 20 = some (jks.erase) from jwT) <|
  Tab.ok_cons (b := 0) (show cFn Try.prog 73 = some (jkE.erase) from jxy) <|
  Tab.ok_cons (b := 0) (show cFn Try.prog 46 = some (jkx.erase) from jxe) <|
  Tab.ok_cons (b := 0) (show cFn Try.prog 48 = some (jky.erase) from jxf) <|
  Tab.ok_cons (b := 0) (show cFn Try.prog 91 = some (jkK.erase) from jx3) <|
  Tab.ok_cons (b := 0) (show cFn Try.prog 76 = some (jkI.erase) from jx1) <|
  Tab.ok_cons (b := 0) (show cFn Try.prog 75 = some (jkH.erase) from jxY) <|
  Tab.ok_cons (b := 0) (show cFn Try.prog 74 = some (jkF.erase) from jxz) <|
  Tab.ok_cons (b := 0) (show cFn Try.prog 50 = some (jkz.erase) from jxg) <|
  Tab.ok_cons (b := 0) (show cFn Try.prog 19 = some (jkt.erase) from jwU) <|
  Tab.ok_cons (b := 0) (show cFn Try.prog 51 = some (jkA.erase) from jxj) <|
  Tab.ok_cons (b := 0) (show cFn Try.prog 52 = some (jkB.erase) from jxk) <|
  Tab.ok_cons (b := 0) (show cFn Try.prog 21 = some (jku.erase) from jwV) <|
  Tab.ok_cons (b := 0) (show cFn Try.prog 77 = some (jkJ.erase) from jx2) <|
  Tab.ok_cons (b := 0) (show cFn Try.prog 53 = some (jkC.erase) from jxl) <|
  Tab.ok_cons (b := 0) (show cFn Try.prog 54 = some (jkD.erase) from jxm) <|
  Tab.ok_cons (b := 0) (show cFn Try.prog 22 = some (jkv.erase) from jwW) <|
  Tab.ok_cons (b := 0) (show cFn Try.prog 23 = some (jkw.erase) from jwX) <|
  Tab.ok_cons (b := 0) (show cFn Try.prog 4 = some (jkm.erase) from jww) <|
  Tab.ok_nil
def tabD:Tab := [(31,0,F_Z9.erase),(38,0,F_Zs.erase),(86,0,jfG.erase),(62,0,F_Zr.erase),(61,0,F_Zt.erase),(60,0,F_Zu.erase)]
theorem jkM:Tab.ok Try.prog tabD :=
  Tab.ok_cons (b := 0) (show cFn Try.prog 31 = some (F_Z9.erase) from e_Z9) <|
  Tab.ok_cons (b := 0) (show cFn Try.prog 38 = some (F_Zs.erase) from e_Zs) <|
  Tab.ok_cons (b := 0) (show cFn Try.prog 86 = some (jfG.erase) from jkG) <|
  Tab.ok_cons (b := 0) (show cFn Try.prog 62 = some (F_Zr.erase) from e_Zr) <|
  Tab.ok_cons (b := 0) (show cFn Try.prog 61 = some (F_Zt.erase) from e_Zt) <|
  Tab.ok_cons (b := 0) (show cFn Try.prog 60 = some (F_Zu.erase) from e_Zu) <|
  Tab.ok_nil
def wid (n:Int):V := .agg [.p (.int .u64 0),.p (.int .u64 n)]
def mat (l:List Int):List V := l.map fun n => .p (.int .i64 n)
/-- The determinants of the examples. -/
def dets:List (List Int×Int) := [([3,0,0,0,0,2,0,0,0,0,1,0,0,0,0,1],6),([23,0,0,0,6,2,0,0,0,0,1,0,0,0,0,1],46),([3,23,0,0,0,6,0,0,0,0,1,0,0,0,0,1],18)]
theorem det1:Ret Try.prog 31 [.agg (mat [3,0,0,0,0,2,0,0,0,0,1,0,0,0,0,1])] (wid 6) := jjK jkM (it := itM) jic EFun.none_ok (n := 100) (d := 6) (by kernel_rfl)
theorem det2:Ret Try.prog 31 [.agg (mat [23,0,0,0,6,2,0,0,0,0,1,0,0,0,0,1])] (wid 46) := jjK jkM (it := itM) jic EFun.none_ok (n := 100) (d := 6) (by kernel_rfl)
theorem det3:Ret Try.prog 31 [.agg (mat [3,23,0,0,0,6,0,0,0,0,1,0,0,0,0,1])] (wid 18) := jjK jkM (it := itM) jic EFun.none_ok (n := 100) (d := 6) (by kernel_rfl)
theorem jx6:∀ x∈dets,Ret Try.prog 31 [.agg (mat x.1)] (wid x.2) := by
  simp only [dets,List.forall_mem_cons]
  exact ⟨det1,det2,det3,by simp⟩
def isI:List V→List Int→Bool
  | [],[] => true
  | .p (.int .i64 a) :: r,b :: s => cond (decide (a = b)) (isI r s) false
  | _,_ => false
theorem jkN:∀ (l:List V) (s:List Int),isI l s = true→l = mat s
  | [],[],_ => rfl
  | .p (.int .i64 a) :: r,b :: s,h => by
    unfold isI at h
    cases c:decide (a = b) <;> rw [c] at h
    · cases h
    · have := jkN r s h
      obtain rfl := of_decide_eq_true c
      rw [this]; rfl
  | [],_ :: _,h => by simp [isI] at h
  | x :: r,s,h => by
    unfold isI at h
    split at h
    · rename_i e; cases e
    · rename_i a r' b s' e1
      cases e1
      cases c:decide (a = b) <;> rw [c] at h
      · cases h
      · have := jkN r s' h
        obtain rfl := of_decide_eq_true c
        rw [this]; rfl
    · cases h
def detF (cs:List V):List (List Int×Int)→Option V
  | [] => none
  | x :: r => cond (isI cs x.1) (some (wid x.2)) (detF cs r)
theorem jqf {cs:List V} {v:V}:∀ {t:List (List Int×Int)},(∀ x∈t,Ret Try.prog 31 [.agg (mat x.1)] (wid x.2))→detF cs t = some v→Ret Try.prog 31 [.agg cs] v
  | [],_,h => by cases h
  | x :: r,ht,h => by
    unfold detF at h
    cases c:isI cs x.1 <;> rw [c] at h
    · exact jqf (fun y hy => ht y (List.mem_cons_of_mem _ hy)) h
    · rw [jkN cs x.1 c]
      obtain rfl := Option.some.inj h
      exact ht x List.mem_cons_self
def detE:EFun := ⟨fun f xs => match decide (f = 31),xs with
  | true,[.agg cs] => detF cs dets
  | _,_ => none,fun _ => .none,fun _ => .none,fun _ => .none⟩
theorem jx7:detE.Ok Try.prog := by
  refine ⟨fun f xs r h => ?_,fun _ _ _ _ _ _ h => by simp [detE] at h,fun _ _ _ _ _ _ h => by simp [detE] at h,fun _ _ _ _ _ _ h => by simp [detE] at h⟩
  simp only [detE] at h
  split at h
  · rename_i e
    obtain rfl := of_decide_eq_true e
    exact jqf jx6 h
  · cases h
/-- The examples of the document. -/
def jkO:Bool := true
abbrev jqg:Con := ⟨jwu,jwv,fun _ => [],fun _ => jkO⟩
theorem jx8:jau Try.prog 4 jqg := ⟨jwx,fun _ _ => jjK jx5 (it := itM) jic jx7 (n := 100) (d := 20) (by kernel_rfl)⟩
end Go.Proofs.Ytcdbaepeabefnaa
