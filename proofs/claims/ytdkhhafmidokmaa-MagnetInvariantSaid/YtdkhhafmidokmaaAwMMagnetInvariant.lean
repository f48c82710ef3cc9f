import Derived.Test.YtdkhhafmidokmaaMxYx
import Derived.Test.YtdkhhafmidokmaaFnMagnetInvariantA
import Derived.KernelRfl
namespace Go.Proofs.Ytdkhhafmidokmaa
open Go Go.Mx
set_option maxRecDepth 100000
/-- cloverleaf/magnet.orders -/
def am112:AFn := ⟨7,2,[],
  (.seq (.reg [⟨some 3,none,(.op (.build [(.p (.int .i64 0)),(.p (.int .i64 0)),(.p (.int .i64 0)),(.p (.int .i64 0))] [(0,1,(.c (.p (.int .i64 0)))),(1,1,(.c (.p (.int .i64 1)))),(2,1,(.c (.p (.int .i64 2)))),(3,1,(.c (.p (.int .i64 3))))]))⟩,
    ⟨some 2,none,(.op (.newz 0 [(.p (.int .i64 0)),(.p (.int .i64 0)),(.p (.int .i64 0)),(.p (.int .i64 0))]))⟩,
    ⟨none,none,(.op (.st 4 (.t 2) (.t 3)))⟩])
  (.reg [⟨some 4,none,(.op (.ldn 4 (.t 2)))⟩,
    ⟨some 5,none,(.op (.mv (.t 0)))⟩,
    ⟨some 6,none,(.call 1 127 [(.t 4),(.c (.p (.int .i64 0))),(.c (.p (.int .i64 1))),(.t 5)])⟩]))⟩
theorem cm112:cFn Try.prog 112 = some am112 := by kernel_rfl
/-- cloverleaf/magnet.swapped -/
def am127:AFn := ⟨47,4,[.tmp 8],
  (.seq (.reg [⟨some 4,none,(.op (.box 0 (.t 0)))⟩,
    ⟨some 8,none,(.op (.mv (.c (.p (.bool false)))))⟩])
  (.seq (.seq (.reg [⟨some 12,none,(.op (.mv (.t 1)))⟩,
    ⟨some 13,none,(.op (.bin .eql (.t 12) (.c (.p (.int .i64 4)))))⟩])
  (.cond (.t 13) (.seq (.reg [⟨some 14,none,(.op (.mv (.t 3)))⟩,
    ⟨some 15,none,(.op (.ldn 4 (.t 4)))⟩,
    ⟨some 16,none,(.op (.mv (.t 2)))⟩,
    ⟨some 17,none,(.callv 1 (.t 14) [(.t 15),(.t 16)])⟩,
    ⟨some 8,none,(.op (.mv (.t 17)))⟩])
  .ret) .skip))
  (.seq (.seq (.reg [⟨some 18,none,(.op (.mv (.t 1)))⟩,
    ⟨some 9,none,(.op (.mv (.t 18)))⟩])
  (.block 0 (.loop (.seq (.seq (.reg [⟨some 19,none,(.op (.mv (.t 9)))⟩,
    ⟨some 20,none,(.op (.bin .lss (.t 19) (.c (.p (.int .i64 4)))))⟩])
  (.cond (.t 20) .skip (.exit 0)))
  (.seq (.block 1 (.seq (.reg [⟨some 23,none,(.op (.ldn 4 (.t 4)))⟩,
    ⟨some 24,none,(.op (.mv (.t 2)))⟩,
    ⟨some 10,none,(.op (.newz 2 [(.p (.int .i64 0)),(.p (.int .i64 0)),(.p (.int .i64 0)),(.p (.int .i64 0))]))⟩,
    ⟨none,none,(.op (.st 4 (.t 10) (.t 23)))⟩,
    ⟨some 11,none,(.op (.mv (.t 24)))⟩])
  (.seq (.seq (.reg [⟨some 25,none,(.op (.mv (.t 9)))⟩,
    ⟨some 26,none,(.op (.mv (.t 1)))⟩,
    ⟨some 27,none,(.op (.bin .neq (.t 25) (.t 26)))⟩])
  (.cond (.t 27) (.seq (.regd [⟨some 28,none,(.op (.mv (.t 1)))⟩,
    ⟨some 29,none,(.op (.mv (.t 9)))⟩,
    ⟨some 30,none,(.op (.mv (.t 9)))⟩,
    ⟨some 31,none,(.op (.iaa 1 4 (.t 10) (.t 30)))⟩,
    ⟨some 32,none,(.op (.ld1 (.t 31)))⟩,
    ⟨some 33,none,(.op (.mv (.t 1)))⟩,
    ⟨some 34,none,(.op (.iaa 1 4 (.t 10) (.t 33)))⟩,
    ⟨some 35,none,(.op (.ld1 (.t 34)))⟩,
    ⟨some 36,none,(.op (.iaa 1 4 (.t 10) (.t 28)))⟩,
    ⟨none,none,(.op (.st 1 (.t 36) (.t 32)))⟩,
    ⟨some 37,none,(.op (.iaa 1 4 (.t 10) (.t 29)))⟩,
    ⟨none,none,(.op (.st 1 (.t 37) (.t 35)))⟩] [(4,7)])
  (.reg [⟨some 38,none,(.op (.mv (.t 2)))⟩,
    ⟨some 39,none,(.op (.uneg (.t 38)))⟩,
    ⟨some 11,none,(.op (.mv (.t 39)))⟩])) .skip))
  (.seq (.reg [⟨some 40,none,(.op (.ldn 4 (.t 10)))⟩,
    ⟨some 41,none,(.op (.mv (.t 1)))⟩,
    ⟨some 42,none,(.op (.bin .add (.t 41) (.c (.p (.int .i64 1)))))⟩,
    ⟨some 43,none,(.op (.mv (.t 11)))⟩,
    ⟨some 44,none,(.op (.mv (.t 3)))⟩,
    ⟨some 45,none,(.call 3 127 [(.t 40),(.t 42),(.t 43),(.t 44)])⟩,
    ⟨some 46,none,(.op (.unot (.t 45)))⟩])
  (.cond (.t 46) (.seq (.reg [⟨some 8,none,(.op (.mv (.c (.p (.bool false)))))⟩])
  .ret) .skip)))))
  (.reg [⟨some 21,none,(.op (.mv (.t 9)))⟩,
    ⟨some 22,none,(.op (.bin .add (.t 21) (.c (.p (.int .i64 1)))))⟩,
    ⟨some 9,none,(.op (.mv (.t 22)))⟩]))))))
  (.seq (.reg [⟨some 8,none,(.op (.mv (.c (.p (.bool true)))))⟩])
  .ret))))⟩
theorem cm127:cFn Try.prog 127 = some am127 := by kernel_rfl
theorem km127:callable Try.prog 127 = true := by kernel_rfl
/-- All orders of four columns,with their signs. -/
def ordL:List (List Int×Int) := [([0,1,2,3],1),([0,1,3,2],(-1)),([0,2,1,3],(-1)),([0,2,3,1],1),([0,3,2,1],(-1)),([0,3,1,2],1),([1,0,2,3],(-1)),([1,0,3,2],1),([1,2,0,3],1),([1,2,3,0],(-1)),([1,3,2,0],1),([1,3,0,2],(-1)),([2,1,0,3],(-1)),([2,1,3,0],1),([2,0,1,3],1),([2,0,3,1],(-1)),([2,3,0,1],1),([2,3,1,0],(-1)),([3,1,2,0],(-1)),([3,1,0,2],1),([3,2,1,0],1),([3,2,0,1],(-1)),([3,0,2,1],1),([3,0,1,2],(-1))]
def ordVs:List (List V) := ordL.map fun x => [.agg (x.1.map fun n => .p (.int .i64 n)),.p (.int .i64 x.2)]
def ordFns:YFns := [(127,am127)]
theorem ordFns_ok:∀ f F,yxFn f ordFns = some F→cFn Try.prog f = some F∧callable Try.prog f = true := by
  intro f F h
  unfold ordFns yxFn at h
  split at h
  · rename_i e
    cases h
    obtain rfl := Nat.eq_of_beq_eq_true e
    exact ⟨cm127,km127⟩
  · cases h
theorem ord_iter:Iter Try.prog 112 [] ordVs := yx_iter cm112 rfl ordFns_ok (ls := fun l => List.replicate 24 l) (fun l x hx => List.eq_of_mem_replicate hx) (n := 60) (d := 6) (fun l => by kernel_rfl)
def itM:EIter := fun f cap => match decide (f = 112),cap with
  | true,[] => some ordVs
  | _,_ => none
theorem itM_ok:IterOk Try.prog itM := by
  intro f cap vs h
  unfold itM at h
  split at h
  · rename_i e
    cases h
    obtain rfl := of_decide_eq_true e
    exact ord_iter
  · cases h
def tab:Tab := [(61,0,F_Z1n.erase),(66,0,F_Zf.erase),(71,0,F_Za.erase),(86,0,F_Z7.erase),(84,0,F_Z15.erase),(83,0,F_Z11.erase),(82,0,F_Z16.erase),(85,0,F_Z17.erase),(32,0,F_Z5.erase),(72,0,F_Z12.erase),(111,0,F_Z18.erase),(74,0,F_Zb.erase),(73,0,F_Zw.erase),(87,0,F_Zj.erase),(75,0,F_Z4.erase),(130,0,F_Zn.erase),(129,0,F_Zt.erase),(115,0,F_Zk.erase),(114,0,F_Zl.erase),(113,0,F_Zm.erase),(77,0,F_Zp.erase),(131,0,F_Zu.erase),(116,0,F_Zr.erase),(78,0,F_Z2.erase),(79,0,F_Zi.erase),(80,0,F_Zq.erase),(25,0,F_Z1.erase),(62,0,F_Z1o.erase),(132,0,F_Z13.erase),(137,0,F_Zg.erase),(124,0,F_Z19.erase),(117,0,F_Zs.erase),(118,0,F_Zd.erase),(68,0,F_Zo.erase),(81,0,F_Z9.erase),(28,0,F_Z14.erase),(63,0,F_Z1p.erase),(107,0,F_Z1x.erase),(65,0,F_Z1q.erase),(67,0,F_Z1r.erase),(126,0,F_Z21.erase),(110,0,F_Z20.erase),(109,0,F_Z1z.erase),(108,0,F_Z1y.erase),(69,0,F_Z1s.erase),(18,0,F_Z1k.erase),(91,0,F_Z1t.erase),(92,0,F_Z1u.erase),(35,0,F_Z1l.erase),(125,0,F_Z1i.erase),(100,0,F_Z1v.erase),(101,0,F_Z1w.erase),(45,0,F_Z1m.erase),(29,0,F_Zc.erase),(13,0,F_Z1h.erase)]
theorem tab_ok:Tab.ok Try.prog tab :=
  Tab.ok_cons (b := 0) (show cFn Try.prog 61 = some (F_Z1n.erase) from e_Z1n) <|
  Tab.ok_cons (b := 0) (show cFn Try.prog 66 = some (F_Zf.erase) from e_Zf) <|
  Tab.ok_cons (b := 0) (show cFn Try.prog 71 = some (F_Za.erase) from e_Za) <|
  Tab.ok_cons (b := 0) (show cFn Try.prog 86 = some (F_Z7.erase) from e_Z7) <|
  Tab.ok_cons (b := 0) (show cFn Try.prog 84 = some (F_Z15.erase) from e_Z15) <|
  Tab.ok_cons (b := 0) (show cFn Try.prog 83 = some (F_Z11.erase) from e_Z11) <|
  Tab.ok_cons (b := 0) (show cFn Try.prog 82 = some (F_Z16.erase) from e_Z16) <|
  Tab.ok_cons (b := 0) (show cFn Try.prog 85 = some (F_Z17.erase) from e_Z17) <|
  Tab.ok_cons (b := 0) (show cFn Try.prog 32 = some (F_Z5.erase) from e_Z5) <|
  Tab.ok_cons (b := 0) (show cFn Try.prog 72 = some (F_Z12.erase) from e_Z12) <|
  Tab.ok_cons (b := 0) (show cFn Try.prog 111 = some (F_Z18.erase) from e_Z18) <|
  Tab.ok_cons (b := 0) (show cFn Try.prog 74 = some (F_Zb.erase) from e_Zb) <|
  Tab.ok_cons (b := 0) (show cFn Try.prog 73 = some (F_Zw.erase) from e_Zw) <|
  Tab.ok_cons (b := 0) (show cFn Try.prog 87 = some (F_Zj.erase) from e_Zj) <|
  Tab.ok_cons (b := 0) (show cFn Try.prog 75 = some (F_Z4.erase) from e_Z4) <|
  Tab.ok_cons (b := 0) (show cFn Try.prog 130 = some (F_Zn.erase) from e_Zn) <|
  Tab.ok_cons (b := 0) (show cFn Try.prog 129 = some (F_Zt.erase) from e_Zt) <|
  Tab.ok_cons (b := 0) (show cFn Try.prog 115 = some (F_Zk.erase) from e_Zk) <|
  Tab.ok_cons (b := 0) (show cFn Try.prog 114 = some (F_Zl.erase) from e_Zl) <|
  Tab.ok_cons (b := 0) (show cFn Try.prog 113 = some (F_Zm.erase) from e_Zm) <|
  Tab.ok_cons (b := 0) (show cFn Try.prog 77 = some (F_Zp.erase) from e_Zp) <|
  Tab.ok_cons (b := 0) (show cFn Try.prog 131 = some (F_Zu.erase) from e_Zu) <|
  Tab.ok_cons (b := 0) (show cFn Try.prog 116 = some (F_Zr.erase) from e_Zr) <|
  Tab.ok_cons (b := 0) (show cFn Try.prog 78 = some (F_Z2.erase) from e_Z2) <|
  Tab.ok_cons (b := 0) (show cFn Try.prog 79 = some (F_Zi.erase) from e_Zi) <|
  Tab.ok_cons (b := 0) (show cFn Try.prog 80 = some (F_Zq.erase) from e_Zq) <|
  Tab.ok_cons (b := 0) (show cFn Try.prog 25 = some (F_Z1.erase) from e_Z1) <|
  Tab.ok_cons (b := 0) (show cFn Try.prog 62 = some (F_Z1o.erase) from e_Z1o) <|
  Tab.ok_cons (b := 0) (show cFn Try.prog 132 = some (F_Z13.erase) from e_Z13) <|
  Tab.ok_cons (b := 0) (show cFn Try.prog 137 = some (F_Zg.erase) from e_Zg) <|
  Tab.ok_cons (b := 0) (show cFn Try.prog 124 = some (F_Z19.erase) from e_Z19) <|
  Tab.ok_cons (b := 0) (show cFn Try.prog 117 = some (F_Zs.erase) from e_Zs) <|
  Tab.ok_cons (b := 0) (show cFn Try.prog 118 = some (F_Zd.erase) from e_Zd) <|
  Tab.ok_cons (b := 0) (show cFn Try.prog 68 = some (F_Zo.erase) from e_Zo) <|
  Tab.ok_cons (b := 0) (show cFn Try.prog 81 = some (F_Z9.erase) from e_Z9) <|
  Tab.ok_cons (b := 0) (show cFn Try.prog 28 = some (F_Z14.erase) from e_Z14) <|
  Tab.ok_cons (b := 0) (show cFn Try.prog 63 = some (F_Z1p.erase) from e_Z1p) <|
  Tab.ok_cons (b := 0) (show cFn Try.prog 107 = some (F_Z1x.erase) from e_Z1x) <|
  Tab.ok_cons (b := 0) (show cFn Try.prog 65 = some (F_Z1q.erase) from e_Z1q) <|
  Tab.ok_cons (b := 0) (show cFn Try.prog 67 = some (F_Z1r.erase) from e_Z1r) <|
  Tab.ok_cons (b := 0) (show cFn Try.prog 126 = some (F_Z21.erase) from e_Z21) <|
  Tab.ok_cons (b := 0) (show cFn Try.prog 110 = some (F_Z20.erase) from e_Z20) <|
  Tab.ok_cons (b := 0) (show cFn Try.prog 109 = some (F_Z1z.erase) from e_Z1z) <|
  Tab.ok_cons (b := 0) (show cFn Try.prog 108 = some (F_Z1y.erase) from e_Z1y) <|
  Tab.ok_cons (b := 0) (show cFn Try.prog 69 = some (F_Z1s.erase) from e_Z1s) <|
  Tab.ok_cons (b := 0) (show cFn Try.prog 18 = some (F_Z1k.erase) from e_Z1k) <|
  Tab.ok_cons (b := 0) (show cFn Try.prog 91 = some (F_Z1t.erase) from e_Z1t) <|
  Tab.ok_cons (b := 0) (show cFn Try.prog 92 = some (F_Z1u.erase) from e_Z1u) <|
  Tab.ok_cons (b := 0) (show cFn Try.prog 35 = some (F_Z1l.erase) from e_Z1l) <|
  Tab.ok_cons (b := 0) (show cFn Try.prog 125 = some (F_Z1i.erase) from e_Z1i) <|
  Tab.ok_cons (b := 0) (show cFn Try.prog 100 = some (F_Z1v.erase) from e_Z1v) <|
  Tab.ok_cons (b := 0) (show cFn Try.prog 101 = some (F_Z1w.erase) from e_Z1w) <|
  Tab.ok_cons (b := 0) (show cFn Try.prog 45 = some (F_Z1m.erase) from e_Z1m) <|
  Tab.ok_cons (b := 0) (show cFn Try.prog 29 = some (F_Zc.erase) from e_Zc) <|
  Tab.ok_cons (b := 0) (show cFn Try.prog 13 = some (F_Z1h.erase) from e_Z1h) <|
  Tab.ok_nil
def tabD:Tab := [(76,0,F_Z8.erase),(130,0,F_Zn.erase),(129,0,F_Zt.erase),(115,0,F_Zk.erase),(114,0,F_Zl.erase),(113,0,F_Zm.erase)]
theorem tabD_ok:Tab.ok Try.prog tabD :=
  Tab.ok_cons (b := 0) (show cFn Try.prog 76 = some (F_Z8.erase) from e_Z8) <|
  Tab.ok_cons (b := 0) (show cFn Try.prog 130 = some (F_Zn.erase) from e_Zn) <|
  Tab.ok_cons (b := 0) (show cFn Try.prog 129 = some (F_Zt.erase) from e_Zt) <|
  Tab.ok_cons (b := 0) (show cFn Try.prog 115 = some (F_Zk.erase) from e_Zk) <|
  Tab.ok_cons (b := 0) (show cFn Try.prog 114 = some (F_Zl.erase) from e_Zl) <|
  Tab.ok_cons (b := 0) (show cFn Try.prog 113 = some (F_Zm.erase) from e_Zm) <|
  Tab.ok_nil
def wid (n:Int):V := .agg [.p (.int .u64 0),.p (.int .u64 n)]
def mat (l:List Int):List V := l.map fun n => .p (.int .i64 n)
/-- The determinants of the examples. -/
def dets:List (List Int×Int) := [([3,0,0,0,0,2,0,0,0,0,1,0,0,0,0,1],6),([23,0,0,0,6,2,0,0,0,0,1,0,0,0,0,1],46),([3,23,0,0,0,6,0,0,0,0,1,0,0,0,0,1],18)]
theorem det1:Ret Try.prog 76 [.agg (mat [3,0,0,0,0,2,0,0,0,0,1,0,0,0,0,1])] (wid 6) := ret_ev tabD_ok (it := itM) itM_ok EFun.none_ok (n := 100) (d := 6) (by kernel_rfl)
theorem det2:Ret Try.prog 76 [.agg (mat [23,0,0,0,6,2,0,0,0,0,1,0,0,0,0,1])] (wid 46) := ret_ev tabD_ok (it := itM) itM_ok EFun.none_ok (n := 100) (d := 6) (by kernel_rfl)
theorem det3:Ret Try.prog 76 [.agg (mat [3,23,0,0,0,6,0,0,0,0,1,0,0,0,0,1])] (wid 18) := ret_ev tabD_ok (it := itM) itM_ok EFun.none_ok (n := 100) (d := 6) (by kernel_rfl)
theorem dets_ok:∀ x∈dets,Ret Try.prog 76 [.agg (mat x.1)] (wid x.2) := by
  simp only [dets,List.forall_mem_cons]
  exact ⟨det1,det2,det3,by simp⟩
def isI:List V→List Int→Bool
  | [],[] => true
  | .p (.int .i64 a) :: r,b :: s => cond (decide (a = b)) (isI r s) false
  | _,_ => false
theorem isI_ok:∀ (l:List V) (s:List Int),isI l s = true→l = mat s
  | [],[],_ => rfl
  | .p (.int .i64 a) :: r,b :: s,h => by
    unfold isI at h
    cases c:decide (a = b) <;> rw [c] at h
    · cases h
    · have := isI_ok r s h
      obtain rfl := of_decide_eq_true c
      rw [this]; rfl
  | [],_ :: _,h => by simp [isI] at h
  | x :: r,s,h => by
    unfold isI at h
    split at h
    · rename_i e; cases e
    · rename_i a r' b s' e1
      cases e1
      cases c:decide (a = b) <;> rw [c] at h
      · cases h
      · have := isI_ok r s' h
        obtain rfl := of_decide_eq_true c
        rw [this]; rfl
    · cases h
def detF (cs:List V):List (List Int×Int)→Option V
  | [] => none
  | x :: r => cond (isI cs x.1) (some (wid x.2)) (detF cs r)
theorem detF_ok {cs:List V} {v:V}:∀ {t:List (List Int×Int)},(∀ x∈t,Ret Try.prog 76 [.agg (mat x.1)] (wid x.2))→detF cs t = some v→Ret Try.prog 76 [.agg cs] v
  | [],_,h => by cases h
  | x :: r,ht,h => by
    unfold detF at h
    cases c:isI cs x.1 <;> rw [c] at h
    · exact detF_ok (fun y hy => ht y (List.mem_cons_of_mem _ hy)) h
    · rw [isI_ok cs x.1 c]
      obtain rfl := Option.some.inj h
      exact ht x List.mem_cons_self
def detE:EFun := ⟨fun f xs => match decide (f = 76),xs with
  | true,[.agg cs] => detF cs dets
  | _,_ => none,fun _ => .none,fun _ => .none,fun _ => .none⟩
theorem detE_ok:detE.Ok Try.prog := by
  refine ⟨fun f xs r h => ?_,fun _ _ _ _ _ _ h => by simp [detE] at h,fun _ _ _ _ _ _ h => by simp [detE] at h,fun _ _ _ _ _ _ h => by simp [detE] at h⟩
  simp only [detE] at h
  split at h
  · rename_i e
    obtain rfl := of_decide_eq_true e
    exact detF_ok dets_ok h
  · cases h
/-- The examples of the document. -/
def s_Z1h:Bool := true
abbrev con_Z1h:Con := ⟨P_Z1h,R_Z1h,fun _ => [],fun _ => s_Z1h⟩
theorem ok_Z1h:ConOk Try.prog 13 con_Z1h := ⟨k_Z1h,fun _ _ => ret_ev tab_ok (it := itM) itM_ok detE_ok (n := 100) (d := 20) (by kernel_rfl)⟩
end Go.Proofs.Ytdkhhafmidokmaa
