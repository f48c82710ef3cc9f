import Derived.Test.YtepdfhjmngbhhaaGreatDoorItB2GravityStrings
import Derived.KernelRfl
namespace Go.Proofs.YtepdfhjmngbhhaaGreatDoor
open Go Go.Mx
set_option maxRecDepth 100000
/-- slices.Repeat[[]bool,bool] -/
def am148:AFn := ⟨48,2,[.tmp 4],
  (.seq (.reg [⟨some 4,none,(.op (.mv (.c (.p (.sl 0 [] true)))))⟩])
  (.seq (.seq (.reg [⟨some 9,none,(.op (.mv (.t 1)))⟩,
    ⟨some 10,none,(.op (.bin .lss (.t 9) (.c (.p (.int .i64 0)))))⟩])
  (.cond (.t 10) (.reg [⟨some 11,none,(.op (.ld1 (.c (.p (.bool false)))))⟩,
    ⟨none,none,(.op (.ld1 (.c (.p (.bool false)))))⟩]) .skip))
  (.seq (.reg [⟨some 13,none,(.op (.mv (.t 0)))⟩,
    ⟨some 14,none,(.op (.len false (.t 13)))⟩,
    ⟨some 15,none,(.op (.conv .u64 (.t 14)))⟩,
    ⟨some 16,none,(.op (.mv (.t 1)))⟩,
    ⟨some 17,none,(.op (.conv .u64 (.t 16)))⟩,
    ⟨some 18,none,(.call 0 193 [(.t 15),(.t 17)])⟩,
    ⟨some 12,none,(.op (.mv (.t 18)))⟩,
    ⟨some 19,none,(.op (.ext 0 (.t 12)))⟩,
    ⟨some 20,none,(.op (.ext 1 (.t 12)))⟩,
    ⟨some 5,none,(.op (.mv (.t 19)))⟩,
    ⟨some 6,none,(.op (.mv (.t 20)))⟩])
  (.seq (.seq (.reg [⟨some 21,none,(.op (.mv (.t 5)))⟩,
    ⟨some 22,none,(.op (.bin .gtr (.t 21) (.c (.p (.int .u64 0)))))⟩,
    ⟨some 23,none,(.op (.mv (.t 22)))⟩,
    ⟨some 24,some (some 23,false),(.op (.mv (.t 6)))⟩,
    ⟨some 25,some (some 23,false),(.op (.bin .gtr (.t 24) (.c (.p (.int .u64 9223372036854775807)))))⟩,
    ⟨some 26,none,(.op (.pick (.t 23) (.c (.p (.bool true))) (.t 25)))⟩])
  (.cond (.t 26) (.reg [⟨some 27,none,(.op (.ld1 (.c (.p (.bool false)))))⟩,
    ⟨none,none,(.op (.ld1 (.c (.p (.bool false)))))⟩]) .skip))
  (.seq (.reg [⟨some 28,none,(.op (.mv (.t 6)))⟩,
    ⟨some 29,none,(.op (.conv .i64 (.t 28)))⟩,
    ⟨some 30,none,(.op (.mk 1 1 1 [(.p (.bool false))] (.t 29)))⟩,
    ⟨some 7,none,(.op (.mv (.t 30)))⟩])
  (.seq (.reg [⟨some 31,none,(.op (.mv (.t 7)))⟩,
    ⟨some 32,none,(.op (.mv (.t 0)))⟩,
    ⟨some 33,none,(.op (.cpy 1 (.t 31) (.t 32)))⟩,
    ⟨some 8,none,(.op (.mv (.t 33)))⟩])
  (.seq (.block 0 (.loop (.seq (.seq (.reg [⟨some 34,none,(.op (.mv (.t 8)))⟩,
    ⟨some 35,none,(.op (.mv (.t 7)))⟩,
    ⟨some 36,none,(.op (.len false (.t 35)))⟩,
    ⟨some 37,none,(.op (.bin .lss (.t 34) (.t 36)))⟩])
  (.cond (.t 37) .skip (.exit 0)))
  (.block 1 (.regd [⟨some 38,none,(.op (.mv (.t 8)))⟩,
    ⟨some 39,none,(.op (.mv (.t 7)))⟩,
    ⟨some 40,none,(.op (.mv (.t 8)))⟩,
    ⟨some 41,none,(.op (.sl 1 (.t 39) (some (.t 40)) none))⟩,
    ⟨some 42,none,(.op (.mv (.t 7)))⟩,
    ⟨some 43,none,(.op (.mv (.t 8)))⟩,
    ⟨some 44,none,(.op (.sl 1 (.t 42) none (some (.t 43))))⟩,
    ⟨some 45,none,(.op (.cpy 1 (.t 41) (.t 44)))⟩,
    ⟨some 46,none,(.op (.bin .add (.t 38) (.t 45)))⟩,
    ⟨some 8,none,(.op (.mv (.t 46)))⟩] [])))))
  (.seq (.reg [⟨some 47,none,(.op (.mv (.t 7)))⟩,
    ⟨some 4,none,(.op (.mv (.t 47)))⟩])
  .ret))))))))⟩
theorem cm148:cFn Tryz.prog 148 = some am148 := by kernel_rfl
/-- math/bits.Mul -/
def am193:AFn := ⟨30,2,[.tmp 4,.tmp 5],
  (.seq (.reg [⟨some 4,none,(.op (.mv (.c (.p (.int .u64 0)))))⟩,
    ⟨some 5,none,(.op (.mv (.c (.p (.int .u64 0)))))⟩])
  (.seq (.cond (.c (.p (.bool false))) (.seq (.reg [⟨some 11,none,(.op (.mv (.t 0)))⟩,
    ⟨some 12,none,(.op (.conv .u32 (.t 11)))⟩,
    ⟨some 13,none,(.op (.mv (.t 1)))⟩,
    ⟨some 14,none,(.op (.conv .u32 (.t 13)))⟩,
    ⟨some 15,none,(.call 0 226 [(.t 12),(.t 14)])⟩,
    ⟨some 10,none,(.op (.mv (.t 15)))⟩,
    ⟨some 16,none,(.op (.ext 0 (.t 10)))⟩,
    ⟨some 17,none,(.op (.ext 1 (.t 10)))⟩,
    ⟨some 6,none,(.op (.mv (.t 16)))⟩,
    ⟨some 7,none,(.op (.mv (.t 17)))⟩])
  (.seq (.reg [⟨some 18,none,(.op (.mv (.t 6)))⟩,
    ⟨some 19,none,(.op (.conv .u64 (.t 18)))⟩,
    ⟨some 20,none,(.op (.mv (.t 7)))⟩,
    ⟨some 21,none,(.op (.conv .u64 (.t 20)))⟩,
    ⟨some 4,none,(.op (.mv (.t 19)))⟩,
    ⟨some 5,none,(.op (.mv (.t 21)))⟩])
  .ret)) .skip)
  (.seq (.reg [⟨some 23,none,(.op (.mv (.t 0)))⟩,
    ⟨some 24,none,(.op (.mv (.t 1)))⟩,
    ⟨some 25,none,(.call 1 213 [(.t 23),(.t 24)])⟩,
    ⟨some 22,none,(.op (.mv (.t 25)))⟩,
    ⟨some 26,none,(.op (.ext 0 (.t 22)))⟩,
    ⟨some 27,none,(.op (.ext 1 (.t 22)))⟩,
    ⟨some 8,none,(.op (.mv (.t 26)))⟩,
    ⟨some 9,none,(.op (.mv (.t 27)))⟩])
  (.seq (.reg [⟨some 28,none,(.op (.mv (.t 8)))⟩,
    ⟨some 29,none,(.op (.mv (.t 9)))⟩,
    ⟨some 4,none,(.op (.mv (.t 28)))⟩,
    ⟨some 5,none,(.op (.mv (.t 29)))⟩])
  .ret))))⟩
theorem cm193:cFn Tryz.prog 193 = some am193 := by kernel_rfl
/-- math/bits.Mul64 -/
def am213:AFn := ⟨51,0,[.tmp 4,.tmp 5],
  (.seq (.reg [⟨some 4,none,(.op (.mv (.c (.p (.int .u64 0)))))⟩,
    ⟨some 5,none,(.op (.mv (.c (.p (.int .u64 0)))))⟩])
  (.seq (.reg [⟨some 14,none,(.op (.mv (.t 0)))⟩,
    ⟨some 15,none,(.op (.bin .and (.t 14) (.c (.p (.int .u64 4294967295)))))⟩,
    ⟨some 6,none,(.op (.mv (.t 15)))⟩])
  (.seq (.reg [⟨some 16,none,(.op (.mv (.t 0)))⟩,
    ⟨some 17,none,(.op (.sh false (.t 16) (.c (.p (.int .u64 32)))))⟩,
    ⟨some 7,none,(.op (.mv (.t 17)))⟩])
  (.seq (.reg [⟨some 18,none,(.op (.mv (.t 1)))⟩,
    ⟨some 19,none,(.op (.bin .and (.t 18) (.c (.p (.int .u64 4294967295)))))⟩,
    ⟨some 8,none,(.op (.mv (.t 19)))⟩])
  (.seq (.reg [⟨some 20,none,(.op (.mv (.t 1)))⟩,
    ⟨some 21,none,(.op (.sh false (.t 20) (.c (.p (.int .u64 32)))))⟩,
    ⟨some 9,none,(.op (.mv (.t 21)))⟩])
  (.seq (.reg [⟨some 22,none,(.op (.mv (.t 6)))⟩,
    ⟨some 23,none,(.op (.mv (.t 8)))⟩,
    ⟨some 24,none,(.op (.bin .mul (.t 22) (.t 23)))⟩,
    ⟨some 10,none,(.op (.mv (.t 24)))⟩])
  (.seq (.reg [⟨some 25,none,(.op (.mv (.t 7)))⟩,
    ⟨some 26,none,(.op (.mv (.t 8)))⟩,
    ⟨some 27,none,(.op (.bin .mul (.t 25) (.t 26)))⟩,
    ⟨some 28,none,(.op (.mv (.t 10)))⟩,
    ⟨some 29,none,(.op (.sh false (.t 28) (.c (.p (.int .u64 32)))))⟩,
    ⟨some 30,none,(.op (.bin .add (.t 27) (.t 29)))⟩,
    ⟨some 11,none,(.op (.mv (.t 30)))⟩])
  (.seq (.reg [⟨some 31,none,(.op (.mv (.t 11)))⟩,
    ⟨some 32,none,(.op (.bin .and (.t 31) (.c (.p (.int .u64 4294967295)))))⟩,
    ⟨some 12,none,(.op (.mv (.t 32)))⟩])
  (.seq (.reg [⟨some 33,none,(.op (.mv (.t 11)))⟩,
    ⟨some 34,none,(.op (.sh false (.t 33) (.c (.p (.int .u64 32)))))⟩,
    ⟨some 13,none,(.op (.mv (.t 34)))⟩])
  (.seq (.reg [⟨some 35,none,(.op (.mv (.t 12)))⟩,
    ⟨some 36,none,(.op (.mv (.t 6)))⟩,
    ⟨some 37,none,(.op (.mv (.t 9)))⟩,
    ⟨some 38,none,(.op (.bin .mul (.t 36) (.t 37)))⟩,
    ⟨some 39,none,(.op (.bin .add (.t 35) (.t 38)))⟩,
    ⟨some 12,none,(.op (.mv (.t 39)))⟩])
  (.seq (.reg [⟨some 40,none,(.op (.mv (.t 7)))⟩,
    ⟨some 41,none,(.op (.mv (.t 9)))⟩,
    ⟨some 42,none,(.op (.bin .mul (.t 40) (.t 41)))⟩,
    ⟨some 43,none,(.op (.mv (.t 13)))⟩,
    ⟨some 44,none,(.op (.bin .add (.t 42) (.t 43)))⟩,
    ⟨some 45,none,(.op (.mv (.t 12)))⟩,
    ⟨some 46,none,(.op (.sh false (.t 45) (.c (.p (.int .u64 32)))))⟩,
    ⟨some 47,none,(.op (.bin .add (.t 44) (.t 46)))⟩,
    ⟨some 4,none,(.op (.mv (.t 47)))⟩])
  (.seq (.reg [⟨some 48,none,(.op (.mv (.t 0)))⟩,
    ⟨some 49,none,(.op (.mv (.t 1)))⟩,
    ⟨some 50,none,(.op (.bin .mul (.t 48) (.t 49)))⟩,
    ⟨some 5,none,(.op (.mv (.t 50)))⟩])
  .ret))))))))))))⟩
theorem cm213:cFn Tryz.prog 213 = some am213 := by kernel_rfl
/-- Ties out of cells. -/
def dec_ties:List (List Pv)→Option (List (Int×Int×Int×Int))
  | [] => some []
  | [.int .i64 a,.int .i64 b,.int .i64 c,.int .i64 d] :: r => match dec_ties r with
    | some l => some ((a,b,c,d) :: l)
    | none => none
  | _ :: _ => none
theorem dec_ties_eq:∀ (es:List (List Pv)) (ts:List (Int×Int×Int×Int)),dec_ties es = some ts→bnd_es ts = es
  | [],ts,h => by simp only [dec_ties,sJ] at h; subst h; rfl
  | e :: r,ts,h => by
    unfold dec_ties at h
    split at h
    · rename_i heq; cases heq
    · rename_i a b c d r' heq
      simp only [List.cons.injEq] at heq
      obtain ⟨rfl,rfl⟩ := heq
      split at h
      · rename_i l hl
        simp only [sJ] at h; subst h
        have := dec_ties_eq r l hl
        simp only [bnd_es,List.map_cons] at this ⊢
        rw [this]
      · cases h
    · cases h
def itG:EIter := fun f cap => match decide (f = 183),decide (f = 225),cap with
  | true,_,[[.sl 2 es full],[.int .i64 c]] => if 1≤c∧c≤1000000∧es.length≤1000000 then some (v_wins es full c) else none
  | _,true,[[.sl 4 es full]] => match dec_ties es with
    | some ts => if ts.length≤1000000 then some (v_bnds ts) else none
    | none => none
  | _,_,_ => none
theorem itG_ok:IterOk Tryz.prog itG := by
  intro f cap vs h
  unfold itG at h
  split at h
  · rename_i hf
    obtain rfl := of_decide_eq_true hf
    split at h
    · rename_i hc
      simp only [sJ] at h; subst h
      exact it_windows _ _ _ hc.1 hc.2.1 hc.2.2
    · cases h
  · rename_i hf
    obtain rfl := of_decide_eq_true hf
    split at h
    · rename_i ts hts
      split at h
      · rename_i hc
        simp only [sJ] at h; subst h
        rw [← dec_ties_eq _ ts hts]
        exact it_bounds ts _ hc
      · cases h
    · cases h
  · cases h
def tab:Tab := [(72,0,F_Z1j.erase),(88,0,F_Z7.erase),(87,0,F_Zq.erase),(181,0,F_Z2b.erase),(85,0,F_Z28.erase),(160,0,F_Z23.erase),(84,0,F_Z6.erase),(83,0,F_Ze.erase),(136,0,F_Z1t.erase),(143,0,F_Zt.erase),(182,0,F_Z24.erase),(137,0,F_Z1u.erase),(138,0,F_Z1v.erase),(139,0,F_Z1w.erase),(71,0,F_Z1k.erase),(167,0,F_Zu.erase),(82,2,F_Z1b.erase),(201,4,F_Zc.erase),(159,2,F_Zw.erase),(168,0,F_Zl.erase),(110,0,F_Zs.erase),(161,0,F_Z29.erase),(106,0,F_Z1p.erase),(108,0,F_Z1q.erase),(162,0,F_Z1y.erase),(232,0,F_Z2a.erase),(202,0,F_Z26.erase),(164,0,F_Z20.erase),(163,0,F_Z1z.erase),(203,0,F_Z27.erase),(166,0,F_Z22.erase),(165,0,F_Z21.erase),(107,0,F_Z1r.erase),(73,0,F_Z1l.erase),(77,0,F_Z4.erase),(213,0,am213),(193,0,am193),(148,2,am148),(192,0,F_Z25.erase),(147,5,F_Z1x.erase),(80,0,F_Z1o.erase),(20,0,F_Z1m.erase),(109,0,F_Z1s.erase),(74,0,F_Z1n.erase),(48,0,F_Zh.erase),(38,0,F_Z1c.erase)]
theorem tab_ok:Tab.ok Tryz.prog tab :=
  Tab.ok_cons (b := 0) (show cFn Tryz.prog 72 = some (F_Z1j.erase) from e_Z1j) <|
  Tab.ok_cons (b := 0) (show cFn Tryz.prog 88 = some (F_Z7.erase) from e_Z7) <|
  Tab.ok_cons (b := 0) (show cFn Tryz.prog 87 = some (F_Zq.erase) from e_Zq) <|
  Tab.ok_cons (b := 0) (show cFn Tryz.prog 181 = some (F_Z2b.erase) from e_Z2b) <|
  Tab.ok_cons (b := 0) (show cFn Tryz.prog 85 = some (F_Z28.erase) from e_Z28) <|
  Tab.ok_cons (b := 0) (show cFn Tryz.prog 160 = some (F_Z23.erase) from e_Z23) <|
  Tab.ok_cons (b := 0) (show cFn Tryz.prog 84 = some (F_Z6.erase) from e_Z6) <|
  Tab.ok_cons (b := 0) (show cFn Tryz.prog 83 = some (F_Ze.erase) from e_Ze) <|
  Tab.ok_cons (b := 0) (show cFn Tryz.prog 136 = some (F_Z1t.erase) from e_Z1t) <|
  Tab.ok_cons (b := 0) (show cFn Tryz.prog 143 = some (F_Zt.erase) from e_Zt) <|
  Tab.ok_cons (b := 0) (show cFn Tryz.prog 182 = some (F_Z24.erase) from e_Z24) <|
  Tab.ok_cons (b := 0) (show cFn Tryz.prog 137 = some (F_Z1u.erase) from e_Z1u) <|
  Tab.ok_cons (b := 0) (show cFn Tryz.prog 138 = some (F_Z1v.erase) from e_Z1v) <|
  Tab.ok_cons (b := 0) (show cFn Tryz.prog 139 = some (F_Z1w.erase) from e_Z1w) <|
  Tab.ok_cons (b := 0) (show cFn Tryz.prog 71 = some (F_Z1k.erase) from e_Z1k) <|
  Tab.ok_cons (b := 0) (show cFn Tryz.prog 167 = some (F_Zu.erase) from e_Zu) <|
  Tab.ok_cons (b := 2) (show cFn Tryz.prog 82 = some (F_Z1b.erase) from e_Z1b) <|
  Tab.ok_cons (b := 4) (show cFnN Tryz.prog 1 201 = some (F_Zc.erase) from e_Zc) <|
  Tab.ok_cons (b := 2) (show cFn Tryz.prog 159 = some (F_Zw.erase) from e_Zw) <|
  Tab.ok_cons (b := 0) (show cFn Tryz.prog 168 = some (F_Zl.erase) from e_Zl) <|
  Tab.ok_cons (b := 0) (show cFn Tryz.prog 110 = some (F_Zs.erase) from e_Zs) <|
  Tab.ok_cons (b := 0) (show cFn Tryz.prog 161 = some (F_Z29.erase) from e_Z29) <|
  Tab.ok_cons (b := 0) (show cFn Tryz.prog 106 = some (F_Z1p.erase) from e_Z1p) <|
  Tab.ok_cons (b := 0) (show cFn Tryz.prog 108 = some (F_Z1q.erase) from e_Z1q) <|
  Tab.ok_cons (b := 0) (show cFn Tryz.prog 162 = some (F_Z1y.erase) from e_Z1y) <|
  Tab.ok_cons (b := 0) (show cFn Tryz.prog 232 = some (F_Z2a.erase) from e_Z2a) <|
  Tab.ok_cons (b := 0) (show cFn Tryz.prog 202 = some (F_Z26.erase) from e_Z26) <|
  Tab.ok_cons (b := 0) (show cFn Tryz.prog 164 = some (F_Z20.erase) from e_Z20) <|
  Tab.ok_cons (b := 0) (show cFn Tryz.prog 163 = some (F_Z1z.erase) from e_Z1z) <|
  Tab.ok_cons (b := 0) (show cFn Tryz.prog 203 = some (F_Z27.erase) from e_Z27) <|
  Tab.ok_cons (b := 0) (show cFn Tryz.prog 166 = some (F_Z22.erase) from e_Z22) <|
  Tab.ok_cons (b := 0) (show cFn Tryz.prog 165 = some (F_Z21.erase) from e_Z21) <|
  Tab.ok_cons (b := 0) (show cFn Tryz.prog 107 = some (F_Z1r.erase) from e_Z1r) <|
  Tab.ok_cons (b := 0) (show cFn Tryz.prog 73 = some (F_Z1l.erase) from e_Z1l) <|
  Tab.ok_cons (b := 0) (show cFn Tryz.prog 77 = some (F_Z4.erase) from e_Z4) <|
  Tab.ok_cons (b := 0) (show cFn Tryz.prog 213 = some (am213) from cm213) <|
  Tab.ok_cons (b := 0) (show cFn Tryz.prog 193 = some (am193) from cm193) <|
  Tab.ok_cons (b := 2) (show cFn Tryz.prog 148 = some (am148) from cm148) <|
  Tab.ok_cons (b := 0) (show cFn Tryz.prog 192 = some (F_Z25.erase) from e_Z25) <|
  Tab.ok_cons (b := 5) (show cFnN Tryz.prog 2 147 = some (F_Z1x.erase) from e_Z1x) <|
  Tab.ok_cons (b := 0) (show cFn Tryz.prog 80 = some (F_Z1o.erase) from e_Z1o) <|
  Tab.ok_cons (b := 0) (show cFn Tryz.prog 20 = some (F_Z1m.erase) from e_Z1m) <|
  Tab.ok_cons (b := 0) (show cFn Tryz.prog 109 = some (F_Z1s.erase) from e_Z1s) <|
  Tab.ok_cons (b := 0) (show cFn Tryz.prog 74 = some (F_Z1n.erase) from e_Z1n) <|
  Tab.ok_cons (b := 0) (show cFn Tryz.prog 48 = some (F_Zh.erase) from e_Zh) <|
  Tab.ok_cons (b := 0) (show cFn Tryz.prog 38 = some (F_Z1c.erase) from e_Z1c) <|
  Tab.ok_nil
/-- The examples of the document. -/
def s_Z1c:Bool := true
abbrev con_Z1c:Con := ⟨P_Z1c,R_Z1c,fun _ => [],fun _ => s_Z1c⟩
theorem ok_Z1c:ConOk Tryz.prog 38 con_Z1c := ⟨k_Z1c,fun _ _ => ret_ev tab_ok (it := itG) itG_ok EFun.none_ok (n := 100) (d := 20) (by kernel_rfl)⟩
end Go.Proofs.YtepdfhjmngbhhaaGreatDoor
