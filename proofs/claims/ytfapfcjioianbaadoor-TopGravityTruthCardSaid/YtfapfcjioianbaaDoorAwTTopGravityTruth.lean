import Derived.Test.YtfapfcjioianbaaDoorFnTopGravityTruthA
import Derived.Test.YtfapfcjioianbaaDoorIt1tTopGravityTruth
import Derived.Test.YtfapfcjioianbaaDoorIt2tTopGravityTruth
import Derived.KernelRfl
namespace Go.Proofs.YtfapfcjioianbaaDoor
open Go Go.Mx
set_option maxRecDepth 100000
/-- slices.Repeat[[]bool,bool] -/
def am53:AFn := ⟨48,2,[.tmp 4],
  (.seq (.reg [⟨some 4,none,(.op (.mv (.c (.p (.sl 0 [] true)))))⟩])
  (.seq (.seq (.reg [⟨some 9,none,(.op (.mv (.t 1)))⟩,
    ⟨some 10,none,(.op (.bin .lss (.t 9) (.c (.p (.int .i64 0)))))⟩])
  (.cond (.t 10) (.reg [⟨some 11,none,(.op (.ld1 (.c (.p (.bool false)))))⟩,
    ⟨none,none,(.op (.ld1 (.c (.p (.bool false)))))⟩]) .skip))
  (.seq (.reg [⟨some 13,none,(.op (.mv (.t 0)))⟩,
    ⟨some 14,none,(.op (.len false (.t 13)))⟩,
    ⟨some 15,none,(.op (.conv .u64 (.t 14)))⟩,
    ⟨some 16,none,(.op (.mv (.t 1)))⟩,
    ⟨some 17,none,(.op (.conv .u64 (.t 16)))⟩,
    ⟨some 18,none,(.call 0 46 [(.t 15),(.t 17)])⟩,
    ⟨some 12,none,(.op (.mv (.t 18)))⟩,
    ⟨some 19,none,(.op (.ext 0 (.t 12)))⟩,
    ⟨some 20,none,(.op (.ext 1 (.t 12)))⟩,
    ⟨some 5,none,(.op (.mv (.t 19)))⟩,
    ⟨some 6,none,(.op (.mv (.t 20)))⟩])
  (.seq (.seq (.reg [⟨some 21,none,(.op (.mv (.t 5)))⟩,
    ⟨some 22,none,(.op (.bin .gtr (.t 21) (.c (.p (.int .u64 0)))))⟩,
    ⟨some 23,none,(.op (.mv (.t 22)))⟩,
    ⟨some 24,some (some 23,false),(.op (.mv (.t 6)))⟩,
    ⟨some 25,some (some 23,false),(.op (.bin .gtr (.t 24) (.c (.p (.int .u64 9223372036854775807)))))⟩,
    ⟨some 26,none,(.op (.pick (.t 23) (.c (.p (.bool true))) (.t 25)))⟩])
  (.cond (.t 26) (.reg [⟨some 27,none,(.op (.ld1 (.c (.p (.bool false)))))⟩,
    ⟨none,none,(.op (.ld1 (.c (.p (.bool false)))))⟩]) .skip))
  (.seq (.reg [⟨some 28,none,(.op (.mv (.t 6)))⟩,
    ⟨some 29,none,(.op (.conv .i64 (.t 28)))⟩,
    ⟨some 30,none,(.op (.mk 1 1 1 [(.p (.bool false))] (.t 29)))⟩,
    ⟨some 7,none,(.op (.mv (.t 30)))⟩])
  (.seq (.reg [⟨some 31,none,(.op (.mv (.t 7)))⟩,
    ⟨some 32,none,(.op (.mv (.t 0)))⟩,
    ⟨some 33,none,(.op (.cpy 1 (.t 31) (.t 32)))⟩,
    ⟨some 8,none,(.op (.mv (.t 33)))⟩])
  (.seq (.block 0 (.loop (.seq (.seq (.reg [⟨some 34,none,(.op (.mv (.t 8)))⟩,
    ⟨some 35,none,(.op (.mv (.t 7)))⟩,
    ⟨some 36,none,(.op (.len false (.t 35)))⟩,
    ⟨some 37,none,(.op (.bin .lss (.t 34) (.t 36)))⟩])
  (.cond (.t 37) .skip (.exit 0)))
  (.block 1 (.regd [⟨some 38,none,(.op (.mv (.t 8)))⟩,
    ⟨some 39,none,(.op (.mv (.t 7)))⟩,
    ⟨some 40,none,(.op (.mv (.t 8)))⟩,
    ⟨some 41,none,(.op (.sl 1 (.t 39) (some (.t 40)) none))⟩,
    ⟨some 42,none,(.op (.mv (.t 7)))⟩,
    ⟨some 43,none,(.op (.mv (.t 8)))⟩,
    ⟨some 44,none,(.op (.sl 1 (.t 42) none (some (.t 43))))⟩,
    ⟨some 45,none,(.op (.cpy 1 (.t 41) (.t 44)))⟩,
    ⟨some 46,none,(.op (.bin .add (.t 38) (.t 45)))⟩,
    ⟨some 8,none,(.op (.mv (.t 46)))⟩] [])))))
  (.seq (.reg [⟨some 47,none,(.op (.mv (.t 7)))⟩,
    ⟨some 4,none,(.op (.mv (.t 47)))⟩])
  .ret))))))))⟩
theorem cm53:cFn Tryd.prog 53 = some am53 := by kernel_rfl
/-- math/bits.Mul -/
def am46:AFn := ⟨30,2,[.tmp 4,.tmp 5],
  (.seq (.reg [⟨some 4,none,(.op (.mv (.c (.p (.int .u64 0)))))⟩,
    ⟨some 5,none,(.op (.mv (.c (.p (.int .u64 0)))))⟩])
  (.seq (.cond (.c (.p (.bool false))) (.seq (.reg [⟨some 11,none,(.op (.mv (.t 0)))⟩,
    ⟨some 12,none,(.op (.conv .u32 (.t 11)))⟩,
    ⟨some 13,none,(.op (.mv (.t 1)))⟩,
    ⟨some 14,none,(.op (.conv .u32 (.t 13)))⟩,
    ⟨some 15,none,(.call 0 56 [(.t 12),(.t 14)])⟩,
    ⟨some 10,none,(.op (.mv (.t 15)))⟩,
    ⟨some 16,none,(.op (.ext 0 (.t 10)))⟩,
    ⟨some 17,none,(.op (.ext 1 (.t 10)))⟩,
    ⟨some 6,none,(.op (.mv (.t 16)))⟩,
    ⟨some 7,none,(.op (.mv (.t 17)))⟩])
  (.seq (.reg [⟨some 18,none,(.op (.mv (.t 6)))⟩,
    ⟨some 19,none,(.op (.conv .u64 (.t 18)))⟩,
    ⟨some 20,none,(.op (.mv (.t 7)))⟩,
    ⟨some 21,none,(.op (.conv .u64 (.t 20)))⟩,
    ⟨some 4,none,(.op (.mv (.t 19)))⟩,
    ⟨some 5,none,(.op (.mv (.t 21)))⟩])
  .ret)) .skip)
  (.seq (.reg [⟨some 23,none,(.op (.mv (.t 0)))⟩,
    ⟨some 24,none,(.op (.mv (.t 1)))⟩,
    ⟨some 25,none,(.call 1 57 [(.t 23),(.t 24)])⟩,
    ⟨some 22,none,(.op (.mv (.t 25)))⟩,
    ⟨some 26,none,(.op (.ext 0 (.t 22)))⟩,
    ⟨some 27,none,(.op (.ext 1 (.t 22)))⟩,
    ⟨some 8,none,(.op (.mv (.t 26)))⟩,
    ⟨some 9,none,(.op (.mv (.t 27)))⟩])
  (.seq (.reg [⟨some 28,none,(.op (.mv (.t 8)))⟩,
    ⟨some 29,none,(.op (.mv (.t 9)))⟩,
    ⟨some 4,none,(.op (.mv (.t 28)))⟩,
    ⟨some 5,none,(.op (.mv (.t 29)))⟩])
  .ret))))⟩
theorem cm46:cFn Tryd.prog 46 = some am46 := by kernel_rfl
/-- math/bits.Mul64 -/
def am57:AFn := ⟨51,0,[.tmp 4,.tmp 5],
  (.seq (.reg [⟨some 4,none,(.op (.mv (.c (.p (.int .u64 0)))))⟩,
    ⟨some 5,none,(.op (.mv (.c (.p (.int .u64 0)))))⟩])
  (.seq (.reg [⟨some 14,none,(.op (.mv (.t 0)))⟩,
    ⟨some 15,none,(.op (.bin .and (.t 14) (.c (.p (.int .u64 4294967295)))))⟩,
    ⟨some 6,none,(.op (.mv (.t 15)))⟩])
  (.seq (.reg [⟨some 16,none,(.op (.mv (.t 0)))⟩,
    ⟨some 17,none,(.op (.sh false (.t 16) (.c (.p (.int .u64 32)))))⟩,
    ⟨some 7,none,(.op (.mv (.t 17)))⟩])
  (.seq (.reg [⟨some 18,none,(.op (.mv (.t 1)))⟩,
    ⟨some 19,none,(.op (.bin .and (.t 18) (.c (.p (.int .u64 4294967295)))))⟩,
    ⟨some 8,none,(.op (.mv (.t 19)))⟩])
  (.seq (.reg [⟨some 20,none,(.op (.mv (.t 1)))⟩,
    ⟨some 21,none,(.op (.sh false (.t 20) (.c (.p (.int .u64 32)))))⟩,
    ⟨some 9,none,(.op (.mv (.t 21)))⟩])
  (.seq (.reg [⟨some 22,none,(.op (.mv (.t 6)))⟩,
    ⟨some 23,none,(.op (.mv (.t 8)))⟩,
    ⟨some 24,none,(.op (.bin .mul (.t 22) (.t 23)))⟩,
    ⟨some 10,none,(.op (.mv (.t 24)))⟩])
  (.seq (.reg [⟨some 25,none,(.op (.mv (.t 7)))⟩,
    ⟨some 26,none,(.op (.mv (.t 8)))⟩,
    ⟨some 27,none,(.op (.bin .mul (.t 25) (.t 26)))⟩,
    ⟨some 28,none,(.op (.mv (.t 10)))⟩,
    ⟨some 29,none,(.op (.sh false (.t 28) (.c (.p (.int .u64 32)))))⟩,
    ⟨some 30,none,(.op (.bin .add (.t 27) (.t 29)))⟩,
    ⟨some 11,none,(.op (.mv (.t 30)))⟩])
  (.seq (.reg [⟨some 31,none,(.op (.mv (.t 11)))⟩,
    ⟨some 32,none,(.op (.bin .and (.t 31) (.c (.p (.int .u64 4294967295)))))⟩,
    ⟨some 12,none,(.op (.mv (.t 32)))⟩])
  (.seq (.reg [⟨some 33,none,(.op (.mv (.t 11)))⟩,
    ⟨some 34,none,(.op (.sh false (.t 33) (.c (.p (.int .u64 32)))))⟩,
    ⟨some 13,none,(.op (.mv (.t 34)))⟩])
  (.seq (.reg [⟨some 35,none,(.op (.mv (.t 12)))⟩,
    ⟨some 36,none,(.op (.mv (.t 6)))⟩,
    ⟨some 37,none,(.op (.mv (.t 9)))⟩,
    ⟨some 38,none,(.op (.bin .mul (.t 36) (.t 37)))⟩,
    ⟨some 39,none,(.op (.bin .add (.t 35) (.t 38)))⟩,
    ⟨some 12,none,(.op (.mv (.t 39)))⟩])
  (.seq (.reg [⟨some 40,none,(.op (.mv (.t 7)))⟩,
    ⟨some 41,none,(.op (.mv (.t 9)))⟩,
    ⟨some 42,none,(.op (.bin .mul (.t 40) (.t 41)))⟩,
    ⟨some 43,none,(.op (.mv (.t 13)))⟩,
    ⟨some 44,none,(.op (.bin .add (.t 42) (.t 43)))⟩,
    ⟨some 45,none,(.op (.mv (.t 12)))⟩,
    ⟨some 46,none,(.op (.sh false (.t 45) (.c (.p (.int .u64 32)))))⟩,
    ⟨some 47,none,(.op (.bin .add (.t 44) (.t 46)))⟩,
    ⟨some 4,none,(.op (.mv (.t 47)))⟩])
  (.seq (.reg [⟨some 48,none,(.op (.mv (.t 0)))⟩,
    ⟨some 49,none,(.op (.mv (.t 1)))⟩,
    ⟨some 50,none,(.op (.bin .mul (.t 48) (.t 49)))⟩,
    ⟨some 5,none,(.op (.mv (.t 50)))⟩])
  .ret))))))))))))⟩
theorem cm57:cFn Tryd.prog 57 = some am57 := by kernel_rfl
/-- Ties out of cells. -/
def dec_ties:List (List Pv)→Option (List (Int×Int×Int×Int))
  | [] => some []
  | [.int .i64 a,.int .i64 b,.int .i64 c,.int .i64 d] :: r => match dec_ties r with
    | some l => some ((a,b,c,d) :: l)
    | none => none
  | _ :: _ => none
theorem dec_ties_eq:∀ (es:List (List Pv)) (ts:List (Int×Int×Int×Int)),dec_ties es = some ts→bnd_es ts = es
  | [],ts,h => by simp only [dec_ties,sJ] at h; subst h; rfl
  | e :: r,ts,h => by
    unfold dec_ties at h
    split at h
    · rename_i heq; cases heq
    · rename_i a b c d r' heq
      simp only [List.cons.injEq] at heq
      obtain ⟨rfl,rfl⟩ := heq
      split at h
      · rename_i l hl
        simp only [sJ] at h; subst h
        have := dec_ties_eq r l hl
        simp only [bnd_es,List.map_cons] at this ⊢
        rw [this]
      · cases h
    · cases h
def itG:EIter := fun f cap => match decide (f = 44),decide (f = 60),cap with
  | true,_,[[.sl 2 es full],[.int .i64 c]] => if 1≤c∧c≤1000000∧es.length≤1000000 then some (v_wins es full c) else none
  | _,true,[[.sl 4 es full]] => match dec_ties es with
    | some ts => if ts.length≤1000000 then some (v_bnds ts) else none
    | none => none
  | _,_,_ => none
theorem itG_ok:IterOk Tryd.prog itG := by
  intro f cap vs h
  unfold itG at h
  split at h
  · rename_i hf
    obtain rfl := of_decide_eq_true hf
    split at h
    · rename_i hc
      simp only [sJ] at h; subst h
      exact it_windows _ _ _ hc.1 hc.2.1 hc.2.2
    · cases h
  · rename_i hf
    obtain rfl := of_decide_eq_true hf
    split at h
    · rename_i ts hts
      split at h
      · rename_i hc
        simp only [sJ] at h; subst h
        rw [← dec_ties_eq _ ts hts]
        exact it_bounds ts _ hc
      · cases h
    · cases h
  · cases h
def tab:Tab := [(16,0,F_Z1g.erase),(26,0,F_Zl.erase),(38,0,F_Z9.erase),(42,0,F_Zz.erase),(50,0,F_Zd.erase),(36,0,F_Zr.erase),(25,0,F_Z7.erase),(22,0,F_Z8.erase),(23,0,F_Z19.erase),(51,0,F_Zg.erase),(43,0,F_Zf.erase),(24,0,F_Za.erase),(27,0,F_Z1a.erase),(28,0,F_Zc.erase),(7,0,F_Z2.erase),(18,0,F_Z1h.erase),(39,0,F_Z1l.erase),(57,0,am57),(46,0,am46),(53,2,am53),(58,0,F_Z1o.erase),(52,5,F_Z1n.erase),(40,0,F_Z1m.erase),(17,0,F_Z1i.erase),(19,0,F_Z1j.erase),(20,0,F_Z1k.erase),(4,0,F_Z1d.erase)]
theorem tab_ok:Tab.ok Tryd.prog tab :=
  Tab.ok_cons (b := 0) (show cFn Tryd.prog 16 = some (F_Z1g.erase) from e_Z1g) <|
  Tab.ok_cons (b := 0) (show cFn Tryd.prog 26 = some (F_Zl.erase) from e_Zl) <|
  Tab.ok_cons (b := 0) (show cFn Tryd.prog 38 = some (F_Z9.erase) from e_Z9) <|
  Tab.ok_cons (b := 0) (show cFn Tryd.prog 42 = some (F_Zz.erase) from e_Zz) <|
  Tab.ok_cons (b := 0) (show cFn Tryd.prog 50 = some (F_Zd.erase) from e_Zd) <|
  Tab.ok_cons (b := 0) (show cFn Tryd.prog 36 = some (F_Zr.erase) from e_Zr) <|
  Tab.ok_cons (b := 0) (show cFn Tryd.prog 25 = some (F_Z7.erase) from e_Z7) <|
  Tab.ok_cons (b := 0) (show cFn Tryd.prog 22 = some (F_Z8.erase) from e_Z8) <|
  Tab.ok_cons (b := 0) (show cFn Tryd.prog 23 = some (F_Z19.erase) from e_Z19) <|
  Tab.ok_cons (b := 0) (show cFn Tryd.prog 51 = some (F_Zg.erase) from e_Zg) <|
  Tab.ok_cons (b := 0) (show cFn Tryd.prog 43 = some (F_Zf.erase) from e_Zf) <|
  Tab.ok_cons (b := 0) (show cFn Tryd.prog 24 = some (F_Za.erase) from e_Za) <|
  Tab.ok_cons (b := 0) (show cFn Tryd.prog 27 = some (F_Z1a.erase) from e_Z1a) <|
  Tab.ok_cons (b := 0) (show cFn Tryd.prog 28 = some (F_Zc.erase) from e_Zc) <|
  Tab.ok_cons (b := 0) (show cFn Tryd.prog 7 = some (F_Z2.erase) from e_Z2) <|
  Tab.ok_cons (b := 0) (show cFn Tryd.prog 18 = some (F_Z1h.erase) from e_Z1h) <|
  Tab.ok_cons (b := 0) (show cFn Tryd.prog 39 = some (F_Z1l.erase) from e_Z1l) <|
  Tab.ok_cons (b := 0) (show cFn Tryd.prog 57 = some (am57) from cm57) <|
  Tab.ok_cons (b := 0) (show cFn Tryd.prog 46 = some (am46) from cm46) <|
  Tab.ok_cons (b := 2) (show cFn Tryd.prog 53 = some (am53) from cm53) <|
  Tab.ok_cons (b := 0) (show cFn Tryd.prog 58 = some (F_Z1o.erase) from e_Z1o) <|
  Tab.ok_cons (b := 5) (show cFnN Tryd.prog 2 52 = some (F_Z1n.erase) from e_Z1n) <|
  Tab.ok_cons (b := 0) (show cFn Tryd.prog 40 = some (F_Z1m.erase) from e_Z1m) <|
  Tab.ok_cons (b := 0) (show cFn Tryd.prog 17 = some (F_Z1i.erase) from e_Z1i) <|
  Tab.ok_cons (b := 0) (show cFn Tryd.prog 19 = some (F_Z1j.erase) from e_Z1j) <|
  Tab.ok_cons (b := 0) (show cFn Tryd.prog 20 = some (F_Z1k.erase) from e_Z1k) <|
  Tab.ok_cons (b := 0) (show cFn Tryd.prog 4 = some (F_Z1d.erase) from e_Z1d) <|
  Tab.ok_nil
/-- The examples of the document. -/
def s_Z1d:Bool := true
abbrev con_Z1d:Con := ⟨P_Z1d,R_Z1d,fun _ => [],fun _ => s_Z1d⟩
theorem ok_Z1d:ConOk Tryd.prog 4 con_Z1d := ⟨k_Z1d,fun _ _ => ret_ev tab_ok (it := itG) itG_ok EFun.none_ok (n := 100) (d := 20) (by kernel_rfl)⟩
end Go.Proofs.YtfapfcjioianbaaDoor
