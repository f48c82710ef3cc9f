import Derived.Test.YtdkhhafmidokmaaGreatMxYx
import Derived.Test.YtdkhhafmidokmaaGreatFnMagnetBasesA
import Derived.KernelRfl
namespace Go.Proofs.YtdkhhafmidokmaaGreat
open Go Go.Mx
set_option maxRecDepth 100000
/-- cloverleaf/magnet.orders -/
def am93:AFn := ⟨7,2,[],
  (.seq (.reg [⟨some 3,none,(.op (.build [(.p (.int .i64 0)),(.p (.int .i64 0)),(.p (.int .i64 0)),(.p (.int .i64 0))] [(0,1,(.c (.p (.int .i64 0)))),(1,1,(.c (.p (.int .i64 1)))),(2,1,(.c (.p (.int .i64 2)))),(3,1,(.c (.p (.int .i64 3))))]))⟩,
    ⟨some 2,none,(.op (.newz 0 [(.p (.int .i64 0)),(.p (.int .i64 0)),(.p (.int .i64 0)),(.p (.int .i64 0))]))⟩,
    ⟨none,none,(.op (.st 4 (.t 2) (.t 3)))⟩])
  (.reg [⟨some 4,none,(.op (.ldn 4 (.t 2)))⟩,
    ⟨some 5,none,(.op (.mv (.t 0)))⟩,
    ⟨some 6,none,(.call 1 115 [(.t 4),(.c (.p (.int .i64 0))),(.c (.p (.int .i64 1))),(.t 5)])⟩]))⟩
theorem cm93:cFn Tryz.prog 93 = some am93 := by kernel_rfl
/-- cloverleaf/magnet.swapped -/
def am115:AFn := ⟨47,4,[.tmp 8],
  (.seq (.reg [⟨some 4,none,(.op (.box 0 (.t 0)))⟩,
    ⟨some 8,none,(.op (.mv (.c (.p (.bool false)))))⟩])
  (.seq (.seq (.reg [⟨some 12,none,(.op (.mv (.t 1)))⟩,
    ⟨some 13,none,(.op (.bin .eql (.t 12) (.c (.p (.int .i64 4)))))⟩])
  (.cond (.t 13) (.seq (.reg [⟨some 14,none,(.op (.mv (.t 3)))⟩,
    ⟨some 15,none,(.op (.ldn 4 (.t 4)))⟩,
    ⟨some 16,none,(.op (.mv (.t 2)))⟩,
    ⟨some 17,none,(.callv 1 (.t 14) [(.t 15),(.t 16)])⟩,
    ⟨some 8,none,(.op (.mv (.t 17)))⟩])
  .ret) .skip))
  (.seq (.seq (.reg [⟨some 18,none,(.op (.mv (.t 1)))⟩,
    ⟨some 9,none,(.op (.mv (.t 18)))⟩])
  (.block 0 (.loop (.seq (.seq (.reg [⟨some 19,none,(.op (.mv (.t 9)))⟩,
    ⟨some 20,none,(.op (.bin .lss (.t 19) (.c (.p (.int .i64 4)))))⟩])
  (.cond (.t 20) .skip (.exit 0)))
  (.seq (.block 1 (.seq (.reg [⟨some 23,none,(.op (.ldn 4 (.t 4)))⟩,
    ⟨some 24,none,(.op (.mv (.t 2)))⟩,
    ⟨some 10,none,(.op (.newz 2 [(.p (.int .i64 0)),(.p (.int .i64 0)),(.p (.int .i64 0)),(.p (.int .i64 0))]))⟩,
    ⟨none,none,(.op (.st 4 (.t 10) (.t 23)))⟩,
    ⟨some 11,none,(.op (.mv (.t 24)))⟩])
  (.seq (.seq (.reg [⟨some 25,none,(.op (.mv (.t 9)))⟩,
    ⟨some 26,none,(.op (.mv (.t 1)))⟩,
    ⟨some 27,none,(.op (.bin .neq (.t 25) (.t 26)))⟩])
  (.cond (.t 27) (.seq (.regd [⟨some 28,none,(.op (.mv (.t 1)))⟩,
    ⟨some 29,none,(.op (.mv (.t 9)))⟩,
    ⟨some 30,none,(.op (.mv (.t 9)))⟩,
    ⟨some 31,none,(.op (.iaa 1 4 (.t 10) (.t 30)))⟩,
    ⟨some 32,none,(.op (.ld1 (.t 31)))⟩,
    ⟨some 33,none,(.op (.mv (.t 1)))⟩,
    ⟨some 34,none,(.op (.iaa 1 4 (.t 10) (.t 33)))⟩,
    ⟨some 35,none,(.op (.ld1 (.t 34)))⟩,
    ⟨some 36,none,(.op (.iaa 1 4 (.t 10) (.t 28)))⟩,
    ⟨none,none,(.op (.st 1 (.t 36) (.t 32)))⟩,
    ⟨some 37,none,(.op (.iaa 1 4 (.t 10) (.t 29)))⟩,
    ⟨none,none,(.op (.st 1 (.t 37) (.t 35)))⟩] [(4,7)])
  (.reg [⟨some 38,none,(.op (.mv (.t 2)))⟩,
    ⟨some 39,none,(.op (.uneg (.t 38)))⟩,
    ⟨some 11,none,(.op (.mv (.t 39)))⟩])) .skip))
  (.seq (.reg [⟨some 40,none,(.op (.ldn 4 (.t 10)))⟩,
    ⟨some 41,none,(.op (.mv (.t 1)))⟩,
    ⟨some 42,none,(.op (.bin .add (.t 41) (.c (.p (.int .i64 1)))))⟩,
    ⟨some 43,none,(.op (.mv (.t 11)))⟩,
    ⟨some 44,none,(.op (.mv (.t 3)))⟩,
    ⟨some 45,none,(.call 3 115 [(.t 40),(.t 42),(.t 43),(.t 44)])⟩,
    ⟨some 46,none,(.op (.unot (.t 45)))⟩])
  (.cond (.t 46) (.seq (.reg [⟨some 8,none,(.op (.mv (.c (.p (.bool false)))))⟩])
  .ret) .skip)))))
  (.reg [⟨some 21,none,(.op (.mv (.t 9)))⟩,
    ⟨some 22,none,(.op (.bin .add (.t 21) (.c (.p (.int .i64 1)))))⟩,
    ⟨some 9,none,(.op (.mv (.t 22)))⟩]))))))
  (.seq (.reg [⟨some 8,none,(.op (.mv (.c (.p (.bool true)))))⟩])
  .ret))))⟩
theorem cm115:cFn Tryz.prog 115 = some am115 := by kernel_rfl
theorem km115:callable Tryz.prog 115 = true := by kernel_rfl
/-- All orders of four columns,with their signs. -/
def ordL:List (List Int×Int) := [([0,1,2,3],1),([0,1,3,2],(-1)),([0,2,1,3],(-1)),([0,2,3,1],1),([0,3,2,1],(-1)),([0,3,1,2],1),([1,0,2,3],(-1)),([1,0,3,2],1),([1,2,0,3],1),([1,2,3,0],(-1)),([1,3,2,0],1),([1,3,0,2],(-1)),([2,1,0,3],(-1)),([2,1,3,0],1),([2,0,1,3],1),([2,0,3,1],(-1)),([2,3,0,1],1),([2,3,1,0],(-1)),([3,1,2,0],(-1)),([3,1,0,2],1),([3,2,1,0],1),([3,2,0,1],(-1)),([3,0,2,1],1),([3,0,1,2],(-1))]
def ordVs:List (List V) := ordL.map fun x => [.agg (x.1.map fun n => .p (.int .i64 n)),.p (.int .i64 x.2)]
def ordFns:YFns := [(115,am115)]
theorem ordFns_ok:∀ f F,yxFn f ordFns = some F→cFn Tryz.prog f = some F∧callable Tryz.prog f = true := by
  intro f F h
  unfold ordFns yxFn at h
  split at h
  · rename_i e
    cases h
    obtain rfl := Nat.eq_of_beq_eq_true e
    exact ⟨cm115,km115⟩
  · cases h
theorem ord_iter:Iter Tryz.prog 93 [] ordVs := yx_iter cm93 rfl ordFns_ok (ls := fun l => List.replicate 24 l) (fun l x hx => List.eq_of_mem_replicate hx) (n := 60) (d := 6) (fun l => by kernel_rfl)
def itM:EIter := fun f cap => match decide (f = 93),cap with
  | true,[] => some ordVs
  | _,_ => none
theorem itM_ok:IterOk Tryz.prog itM := by
  intro f cap vs h
  unfold itM at h
  split at h
  · rename_i e
    cases h
    obtain rfl := of_decide_eq_true e
    exact ord_iter
  · cases h
def tab:Tab := [(25,0,F_Z21.erase),(32,0,F_Z6.erase),(31,0,F_Zh.erase),(83,0,F_Za.erase),(34,0,F_Z1f.erase),(82,0,F_Z1h.erase),(114,0,F_Z1l.erase),(33,0,F_Z1e.erase),(87,0,F_Z2.erase),(39,0,F_Z1i.erase),(57,0,F_Z2g.erase),(49,0,F_Z28.erase),(48,0,F_Z27.erase),(59,0,F_Z2h.erase),(50,0,F_Z29.erase),(58,0,F_Z1u.erase),(117,0,F_Z1y.erase),(96,0,F_Z1x.erase),(95,0,F_Z1v.erase),(94,0,F_Z1w.erase),(52,0,F_Z2b.erase),(118,0,F_Z2q.erase),(97,0,F_Z2o.erase),(53,0,F_Z2c.erase),(54,0,F_Z2d.erase),(55,0,F_Z2e.erase),(19,0,F_Z20.erase),(27,0,F_Z22.erase),(99,0,F_Z2s.erase),(119,0,F_Z2r.erase),(98,0,F_Z2p.erase),(56,0,F_Z2f.erase),(60,0,F_Z2i.erase),(37,0,F_Zs.erase),(77,0,F_Z2j.erase),(26,0,F_Z23.erase),(28,0,F_Z24.erase),(8,0,F_Z7.erase),(35,0,F_Z1g.erase),(36,0,F_Zq.erase),(113,0,F_Z1b.erase),(86,0,F_Z1d.erase),(85,0,F_Z19.erase),(84,0,F_Z0.erase),(38,0,F_Zr.erase),(10,0,F_Zu.erase),(78,0,F_Z2k.erase),(79,0,F_Z2l.erase),(29,0,F_Z25.erase),(112,0,F_Z1z.erase),(80,0,F_Z2m.erase),(81,0,F_Z2n.erase),(30,0,F_Z26.erase),(18,0,F_Zi.erase),(5,0,F_Z1t.erase)]
theorem tab_ok:Tab.ok Tryz.prog tab :=
  Tab.ok_cons (b := 0) (show cFn Tryz.prog 25 = some (F_Z21.erase) from e_Z21) <|
  Tab.ok_cons (b := 0) (show cFn Tryz.prog 32 = some (F_Z6.erase) from e_Z6) <|
  Tab.ok_cons (b := 0) (show cFn Tryz.prog 31 = some (F_Zh.erase) from e_Zh) <|
  Tab.ok_cons (b := 0) (show cFn Tryz.prog 83 = some (F_Za.erase) from e_Za) <|
  Tab.ok_cons (b := 0) (show cFn Tryz.prog 34 = some (F_Z1f.erase) from e_Z1f) <|
  Tab.ok_cons (b := 0) (show cFn Tryz.prog 82 = some (F_Z1h.erase) from e_Z1h) <|
  Tab.ok_cons (b := 0) (show cFn Tryz.prog 114 = some (F_Z1l.erase) from e_Z1l) <|
  Tab.ok_cons (b := 0) (show cFn Tryz.prog 33 = some (F_Z1e.erase) from e_Z1e) <|
  Tab.ok_cons (b := 0) (show cFn Tryz.prog 87 = some (F_Z2.erase) from e_Z2) <|
  Tab.ok_cons (b := 0) (show cFn Tryz.prog 39 = some (F_Z1i.erase) from e_Z1i) <|
  Tab.ok_cons (b := 0) (show cFn Tryz.prog 57 = some (F_Z2g.erase) from e_Z2g) <|
  Tab.ok_cons (b := 0) (show cFn Tryz.prog 49 = some (F_Z28.erase) from e_Z28) <|
  Tab.ok_cons (b := 0) (show cFn Tryz.prog 48 = some (F_Z27.erase) from e_Z27) <|
  Tab.ok_cons (b := 0) (show cFn Tryz.prog 59 = some (F_Z2h.erase) from e_Z2h) <|
  Tab.ok_cons (b := 0) (show cFn Tryz.prog 50 = some (F_Z29.erase) from e_Z29) <|
  Tab.ok_cons (b := 0) (show cFn Tryz.prog 58 = some (F_Z1u.erase) from e_Z1u) <|
  Tab.ok_cons (b := 0) (show cFn Tryz.prog 117 = some (F_Z1y.erase) from e_Z1y) <|
  Tab.ok_cons (b := 0) (show cFn Tryz.prog 96 = some (F_Z1x.erase) from e_Z1x) <|
  Tab.ok_cons (b := 0) (show cFn Tryz.prog 95 = some (F_Z1v.erase) from e_Z1v) <|
  Tab.ok_cons (b := 0) (show cFn Tryz.prog 94 = some (F_Z1w.erase) from e_Z1w) <|
  Tab.ok_cons (b := 0) (show cFn Tryz.prog 52 = some (F_Z2b.erase) from e_Z2b) <|
  Tab.ok_cons (b := 0) (show cFn Tryz.prog 118 = some (F_Z2q.erase) from e_Z2q) <|
  Tab.ok_cons (b := 0) (show cFn Tryz.prog 97 = some (F_Z2o.erase) from e_Z2o) <|
  Tab.ok_cons (b := 0) (show cFn Tryz.prog 53 = some (F_Z2c.erase) from e_Z2c) <|
  Tab.ok_cons (b := 0) (show cFn Tryz.prog 54 = some (F_Z2d.erase) from e_Z2d) <|
  Tab.ok_cons (b := 0) (show cFn Tryz.prog 55 = some (F_Z2e.erase) from e_Z2e) <|
  Tab.ok_cons (b := 0) (show cFn Tryz.prog 19 = some (F_Z20.erase) from e_Z20) <|
  Tab.ok_cons (b := 0) (show cFn Tryz.prog 27 = some (F_Z22.erase) from e_Z22) <|
  Tab.ok_cons (b := 0) (show cFn Tryz.prog 99 = some (F_Z2s.erase) from e_Z2s) <|
  Tab.ok_cons (b := 0) (show cFn Tryz.prog 119 = some (F_Z2r.erase) from e_Z2r) <|
  Tab.ok_cons (b := 0) (show cFn Tryz.prog 98 = some (F_Z2p.erase) from e_Z2p) <|
  Tab.ok_cons (b := 0) (show cFn Tryz.prog 56 = some (F_Z2f.erase) from e_Z2f) <|
  Tab.ok_cons (b := 0) (show cFn Tryz.prog 60 = some (F_Z2i.erase) from e_Z2i) <|
  Tab.ok_cons (b := 0) (show cFn Tryz.prog 37 = some (F_Zs.erase) from e_Zs) <|
  Tab.ok_cons (b := 0) (show cFn Tryz.prog 77 = some (F_Z2j.erase) from e_Z2j) <|
  Tab.ok_cons (b := 0) (show cFn Tryz.prog 26 = some (F_Z23.erase) from e_Z23) <|
  Tab.ok_cons (b := 0) (show cFn Tryz.prog 28 = some (F_Z24.erase) from e_Z24) <|
  Tab.ok_cons (b := 0) (show cFn Tryz.prog 8 = some (F_Z7.erase) from e_Z7) <|
  Tab.ok_cons (b := 0) (show cFn Tryz.prog 35 = some (F_Z1g.erase) from e_Z1g) <|
  Tab.ok_cons (b := 0) (show cFn Tryz.prog 36 = some (F_Zq.erase) from e_Zq) <|
  Tab.ok_cons (b := 0) (show cFn Tryz.prog 113 = some (F_Z1b.erase) from e_Z1b) <|
  Tab.ok_cons (b := 0) (show cFn Tryz.prog 86 = some (F_Z1d.erase) from e_Z1d) <|
  Tab.ok_cons (b := 0) (show cFn Tryz.prog 85 = some (F_Z19.erase) from e_Z19) <|
  Tab.ok_cons (b := 0) (show cFn Tryz.prog 84 = some (F_Z0.erase) from e_Z0) <|
  Tab.ok_cons (b := 0) (show cFn Tryz.prog 38 = some (F_Zr.erase) from e_Zr) <|
  Tab.ok_cons (b := 0) (show cFn Tryz.prog 10 = some (F_Zu.erase) from e_Zu) <|
  Tab.ok_cons (b := 0) (show cFn Tryz.prog 78 = some (F_Z2k.erase) from e_Z2k) <|
  Tab.ok_cons (b := 0) (show cFn Tryz.prog 79 = some (F_Z2l.erase) from e_Z2l) <|
  Tab.ok_cons (b := 0) (show cFn Tryz.prog 29 = some (F_Z25.erase) from e_Z25) <|
  Tab.ok_cons (b := 0) (show cFn Tryz.prog 112 = some (F_Z1z.erase) from e_Z1z) <|
  Tab.ok_cons (b := 0) (show cFn Tryz.prog 80 = some (F_Z2m.erase) from e_Z2m) <|
  Tab.ok_cons (b := 0) (show cFn Tryz.prog 81 = some (F_Z2n.erase) from e_Z2n) <|
  Tab.ok_cons (b := 0) (show cFn Tryz.prog 30 = some (F_Z26.erase) from e_Z26) <|
  Tab.ok_cons (b := 0) (show cFn Tryz.prog 18 = some (F_Zi.erase) from e_Zi) <|
  Tab.ok_cons (b := 0) (show cFn Tryz.prog 5 = some (F_Z1t.erase) from e_Z1t) <|
  Tab.ok_nil
def tabD:Tab := [(51,0,F_Z2a.erase),(58,0,F_Z1u.erase),(117,0,F_Z1y.erase),(96,0,F_Z1x.erase),(95,0,F_Z1v.erase),(94,0,F_Z1w.erase)]
theorem tabD_ok:Tab.ok Tryz.prog tabD :=
  Tab.ok_cons (b := 0) (show cFn Tryz.prog 51 = some (F_Z2a.erase) from e_Z2a) <|
  Tab.ok_cons (b := 0) (show cFn Tryz.prog 58 = some (F_Z1u.erase) from e_Z1u) <|
  Tab.ok_cons (b := 0) (show cFn Tryz.prog 117 = some (F_Z1y.erase) from e_Z1y) <|
  Tab.ok_cons (b := 0) (show cFn Tryz.prog 96 = some (F_Z1x.erase) from e_Z1x) <|
  Tab.ok_cons (b := 0) (show cFn Tryz.prog 95 = some (F_Z1v.erase) from e_Z1v) <|
  Tab.ok_cons (b := 0) (show cFn Tryz.prog 94 = some (F_Z1w.erase) from e_Z1w) <|
  Tab.ok_nil
def wid (n:Int):V := .agg [.p (.int .u64 0),.p (.int .u64 n)]
def mat (l:List Int):List V := l.map fun n => .p (.int .i64 n)
/-- The determinants of the examples. -/
def dets:List (List Int×Int) := [([3,0,0,0,0,2,0,0,0,0,1,0,0,0,0,1],6),([23,0,0,0,6,2,0,0,0,0,1,0,0,0,0,1],46),([3,23,0,0,0,6,0,0,0,0,1,0,0,0,0,1],18)]
theorem det1:Ret Tryz.prog 51 [.agg (mat [3,0,0,0,0,2,0,0,0,0,1,0,0,0,0,1])] (wid 6) := ret_ev tabD_ok (it := itM) itM_ok EFun.none_ok (n := 100) (d := 6) (by kernel_rfl)
theorem det2:Ret Tryz.prog 51 [.agg (mat [23,0,0,0,6,2,0,0,0,0,1,0,0,0,0,1])] (wid 46) := ret_ev tabD_ok (it := itM) itM_ok EFun.none_ok (n := 100) (d := 6) (by kernel_rfl)
theorem det3:Ret Tryz.prog 51 [.agg (mat [3,23,0,0,0,6,0,0,0,0,1,0,0,0,0,1])] (wid 18) := ret_ev tabD_ok (it := itM) itM_ok EFun.none_ok (n := 100) (d := 6) (by kernel_rfl)
theorem dets_ok:∀ x∈dets,Ret Tryz.prog 51 [.agg (mat x.1)] (wid x.2) := by
  simp only [dets,List.forall_mem_cons]
  exact ⟨det1,det2,det3,by simp⟩
def isI:List V→List Int→Bool
  | [],[] => true
  | .p (.int .i64 a) :: r,b :: s => cond (decide (a = b)) (isI r s) false
  | _,_ => false
theorem isI_ok:∀ (l:List V) (s:List Int),isI l s = true→l = mat s
  | [],[],_ => rfl
  | .p (.int .i64 a) :: r,b :: s,h => by
    unfold isI at h
    cases c:decide (a = b) <;> rw [c] at h
    · cases h
    · have := isI_ok r s h
      obtain rfl := of_decide_eq_true c
      rw [this]; rfl
  | [],_ :: _,h => by simp [isI] at h
  | x :: r,s,h => by
    unfold isI at h
    split at h
    · rename_i e; cases e
    · rename_i a r' b s' e1
      cases e1
      cases c:decide (a = b) <;> rw [c] at h
      · cases h
      · have := isI_ok r s' h
        obtain rfl := of_decide_eq_true c
        rw [this]; rfl
    · cases h
def detF (cs:List V):List (List Int×Int)→Option V
  | [] => none
  | x :: r => cond (isI cs x.1) (some (wid x.2)) (detF cs r)
theorem detF_ok {cs:List V} {v:V}:∀ {t:List (List Int×Int)},(∀ x∈t,Ret Tryz.prog 51 [.agg (mat x.1)] (wid x.2))→detF cs t = some v→Ret Tryz.prog 51 [.agg cs] v
  | [],_,h => by cases h
  | x :: r,ht,h => by
    unfold detF at h
    cases c:isI cs x.1 <;> rw [c] at h
    · exact detF_ok (fun y hy => ht y (List.mem_cons_of_mem _ hy)) h
    · rw [isI_ok cs x.1 c]
      obtain rfl := Option.some.inj h
      exact ht x List.mem_cons_self
def detE:EFun := ⟨fun f xs => match decide (f = 51),xs with
  | true,[.agg cs] => detF cs dets
  | _,_ => none,fun _ => .none,fun _ => .none,fun _ => .none⟩
theorem detE_ok:detE.Ok Tryz.prog := by
  refine ⟨fun f xs r h => ?_,fun _ _ _ _ _ _ h => by simp [detE] at h,fun _ _ _ _ _ _ h => by simp [detE] at h,fun _ _ _ _ _ _ h => by simp [detE] at h⟩
  simp only [detE] at h
  split at h
  · rename_i e
    obtain rfl := of_decide_eq_true e
    exact detF_ok dets_ok h
  · cases h
/-- The examples of the document. -/
def s_Z1t:Bool := true
abbrev con_Z1t:Con := ⟨P_Z1t,R_Z1t,fun _ => [],fun _ => s_Z1t⟩
theorem ok_Z1t:ConOk Tryz.prog 5 con_Z1t := ⟨k_Z1t,fun _ _ => ret_ev tab_ok (it := itM) itM_ok detE_ok (n := 100) (d := 20) (by kernel_rfl)⟩
end Go.Proofs.YtdkhhafmidokmaaGreat
