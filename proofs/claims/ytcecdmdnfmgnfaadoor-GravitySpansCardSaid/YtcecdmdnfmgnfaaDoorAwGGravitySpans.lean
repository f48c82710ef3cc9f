import Derived.Test.YtcecdmdnfmgnfaaDoorFnGravitySpansA
import Derived.Test.YtcecdmdnfmgnfaaDoorIt1GravitySpans
import Derived.Test.YtcecdmdnfmgnfaaDoorIt2GravitySpans
import Derived.KernelRfl
namespace Go.Proofs.YtcecdmdnfmgnfaaDoor
open Go Go.Mx
set_option maxRecDepth 100000
/-- slices.Repeat[[]bool,bool] -/
def am134 : AFn := ⟨48, 2, [.tmp 4],
  (.seq (.reg [⟨some 4, none, (.op (.mv (.c (.p (.sl 0 [] true)))))⟩])
  (.seq (.seq (.reg [⟨some 9, none, (.op (.mv (.t 1)))⟩,
    ⟨some 10, none, (.op (.bin .lss (.t 9) (.c (.p (.int .i64 0)))))⟩])
  (.cond (.t 10) (.reg [⟨some 11, none, (.op (.ld1 (.c (.p (.bool false)))))⟩,
    ⟨none, none, (.op (.ld1 (.c (.p (.bool false)))))⟩]) .skip))
  (.seq (.reg [⟨some 13, none, (.op (.mv (.t 0)))⟩,
    ⟨some 14, none, (.op (.len false (.t 13)))⟩,
    ⟨some 15, none, (.op (.conv .u64 (.t 14)))⟩,
    ⟨some 16, none, (.op (.mv (.t 1)))⟩,
    ⟨some 17, none, (.op (.conv .u64 (.t 16)))⟩,
    ⟨some 18, none, (.call 0 132 [(.t 15), (.t 17)])⟩,
    ⟨some 12, none, (.op (.mv (.t 18)))⟩,
    ⟨some 19, none, (.op (.ext 0 (.t 12)))⟩,
    ⟨some 20, none, (.op (.ext 1 (.t 12)))⟩,
    ⟨some 5, none, (.op (.mv (.t 19)))⟩,
    ⟨some 6, none, (.op (.mv (.t 20)))⟩])
  (.seq (.seq (.reg [⟨some 21, none, (.op (.mv (.t 5)))⟩,
    ⟨some 22, none, (.op (.bin .gtr (.t 21) (.c (.p (.int .u64 0)))))⟩,
    ⟨some 23, none, (.op (.mv (.t 22)))⟩,
    ⟨some 24, some (some 23, false), (.op (.mv (.t 6)))⟩,
    ⟨some 25, some (some 23, false), (.op (.bin .gtr (.t 24) (.c (.p (.int .u64 9223372036854775807)))))⟩,
    ⟨some 26, none, (.op (.pick (.t 23) (.c (.p (.bool true))) (.t 25)))⟩])
  (.cond (.t 26) (.reg [⟨some 27, none, (.op (.ld1 (.c (.p (.bool false)))))⟩,
    ⟨none, none, (.op (.ld1 (.c (.p (.bool false)))))⟩]) .skip))
  (.seq (.reg [⟨some 28, none, (.op (.mv (.t 6)))⟩,
    ⟨some 29, none, (.op (.conv .i64 (.t 28)))⟩,
    ⟨some 30, none, (.op (.mk 1 1 1 [(.p (.bool false))] (.t 29)))⟩,
    ⟨some 7, none, (.op (.mv (.t 30)))⟩])
  (.seq (.reg [⟨some 31, none, (.op (.mv (.t 7)))⟩,
    ⟨some 32, none, (.op (.mv (.t 0)))⟩,
    ⟨some 33, none, (.op (.cpy 1 (.t 31) (.t 32)))⟩,
    ⟨some 8, none, (.op (.mv (.t 33)))⟩])
  (.seq (.block 0 (.loop (.seq (.seq (.reg [⟨some 34, none, (.op (.mv (.t 8)))⟩,
    ⟨some 35, none, (.op (.mv (.t 7)))⟩,
    ⟨some 36, none, (.op (.len false (.t 35)))⟩,
    ⟨some 37, none, (.op (.bin .lss (.t 34) (.t 36)))⟩])
  (.cond (.t 37) .skip (.exit 0)))
  (.block 1 (.regd [⟨some 38, none, (.op (.mv (.t 8)))⟩,
    ⟨some 39, none, (.op (.mv (.t 7)))⟩,
    ⟨some 40, none, (.op (.mv (.t 8)))⟩,
    ⟨some 41, none, (.op (.sl 1 (.t 39) (some (.t 40)) none))⟩,
    ⟨some 42, none, (.op (.mv (.t 7)))⟩,
    ⟨some 43, none, (.op (.mv (.t 8)))⟩,
    ⟨some 44, none, (.op (.sl 1 (.t 42) none (some (.t 43))))⟩,
    ⟨some 45, none, (.op (.cpy 1 (.t 41) (.t 44)))⟩,
    ⟨some 46, none, (.op (.bin .add (.t 38) (.t 45)))⟩,
    ⟨some 8, none, (.op (.mv (.t 46)))⟩] [])))))
  (.seq (.reg [⟨some 47, none, (.op (.mv (.t 7)))⟩,
    ⟨some 4, none, (.op (.mv (.t 47)))⟩])
  .ret))))))))⟩
theorem cm134 : cFn Tryd.prog 134 = some am134 := by kernel_rfl
theorem km134 : callable Tryd.prog 134 = true := by kernel_rfl
/-- math/bits.Mul -/
def am132 : AFn := ⟨30, 2, [.tmp 4, .tmp 5],
  (.seq (.reg [⟨some 4, none, (.op (.mv (.c (.p (.int .u64 0)))))⟩,
    ⟨some 5, none, (.op (.mv (.c (.p (.int .u64 0)))))⟩])
  (.seq (.cond (.c (.p (.bool false))) (.seq (.reg [⟨some 11, none, (.op (.mv (.t 0)))⟩,
    ⟨some 12, none, (.op (.conv .u32 (.t 11)))⟩,
    ⟨some 13, none, (.op (.mv (.t 1)))⟩,
    ⟨some 14, none, (.op (.conv .u32 (.t 13)))⟩,
    ⟨some 15, none, (.call 0 137 [(.t 12), (.t 14)])⟩,
    ⟨some 10, none, (.op (.mv (.t 15)))⟩,
    ⟨some 16, none, (.op (.ext 0 (.t 10)))⟩,
    ⟨some 17, none, (.op (.ext 1 (.t 10)))⟩,
    ⟨some 6, none, (.op (.mv (.t 16)))⟩,
    ⟨some 7, none, (.op (.mv (.t 17)))⟩])
  (.seq (.reg [⟨some 18, none, (.op (.mv (.t 6)))⟩,
    ⟨some 19, none, (.op (.conv .u64 (.t 18)))⟩,
    ⟨some 20, none, (.op (.mv (.t 7)))⟩,
    ⟨some 21, none, (.op (.conv .u64 (.t 20)))⟩,
    ⟨some 4, none, (.op (.mv (.t 19)))⟩,
    ⟨some 5, none, (.op (.mv (.t 21)))⟩])
  .ret)) .skip)
  (.seq (.reg [⟨some 23, none, (.op (.mv (.t 0)))⟩,
    ⟨some 24, none, (.op (.mv (.t 1)))⟩,
    ⟨some 25, none, (.call 1 138 [(.t 23), (.t 24)])⟩,
    ⟨some 22, none, (.op (.mv (.t 25)))⟩,
    ⟨some 26, none, (.op (.ext 0 (.t 22)))⟩,
    ⟨some 27, none, (.op (.ext 1 (.t 22)))⟩,
    ⟨some 8, none, (.op (.mv (.t 26)))⟩,
    ⟨some 9, none, (.op (.mv (.t 27)))⟩])
  (.seq (.reg [⟨some 28, none, (.op (.mv (.t 8)))⟩,
    ⟨some 29, none, (.op (.mv (.t 9)))⟩,
    ⟨some 4, none, (.op (.mv (.t 28)))⟩,
    ⟨some 5, none, (.op (.mv (.t 29)))⟩])
  .ret))))⟩
theorem cm132 : cFn Tryd.prog 132 = some am132 := by kernel_rfl
theorem km132 : callable Tryd.prog 132 = true := by kernel_rfl
/-- math/bits.Mul64 -/
def am138 : AFn := ⟨51, 0, [.tmp 4, .tmp 5],
  (.seq (.reg [⟨some 4, none, (.op (.mv (.c (.p (.int .u64 0)))))⟩,
    ⟨some 5, none, (.op (.mv (.c (.p (.int .u64 0)))))⟩])
  (.seq (.reg [⟨some 14, none, (.op (.mv (.t 0)))⟩,
    ⟨some 15, none, (.op (.bin .and (.t 14) (.c (.p (.int .u64 4294967295)))))⟩,
    ⟨some 6, none, (.op (.mv (.t 15)))⟩])
  (.seq (.reg [⟨some 16, none, (.op (.mv (.t 0)))⟩,
    ⟨some 17, none, (.op (.sh false (.t 16) (.c (.p (.int .u64 32)))))⟩,
    ⟨some 7, none, (.op (.mv (.t 17)))⟩])
  (.seq (.reg [⟨some 18, none, (.op (.mv (.t 1)))⟩,
    ⟨some 19, none, (.op (.bin .and (.t 18) (.c (.p (.int .u64 4294967295)))))⟩,
    ⟨some 8, none, (.op (.mv (.t 19)))⟩])
  (.seq (.reg [⟨some 20, none, (.op (.mv (.t 1)))⟩,
    ⟨some 21, none, (.op (.sh false (.t 20) (.c (.p (.int .u64 32)))))⟩,
    ⟨some 9, none, (.op (.mv (.t 21)))⟩])
  (.seq (.reg [⟨some 22, none, (.op (.mv (.t 6)))⟩,
    ⟨some 23, none, (.op (.mv (.t 8)))⟩,
    ⟨some 24, none, (.op (.bin .mul (.t 22) (.t 23)))⟩,
    ⟨some 10, none, (.op (.mv (.t 24)))⟩])
  (.seq (.reg [⟨some 25, none, (.op (.mv (.t 7)))⟩,
    ⟨some 26, none, (.op (.mv (.t 8)))⟩,
    ⟨some 27, none, (.op (.bin .mul (.t 25) (.t 26)))⟩,
    ⟨some 28, none, (.op (.mv (.t 10)))⟩,
    ⟨some 29, none, (.op (.sh false (.t 28) (.c (.p (.int .u64 32)))))⟩,
    ⟨some 30, none, (.op (.bin .add (.t 27) (.t 29)))⟩,
    ⟨some 11, none, (.op (.mv (.t 30)))⟩])
  (.seq (.reg [⟨some 31, none, (.op (.mv (.t 11)))⟩,
    ⟨some 32, none, (.op (.bin .and (.t 31) (.c (.p (.int .u64 4294967295)))))⟩,
    ⟨some 12, none, (.op (.mv (.t 32)))⟩])
  (.seq (.reg [⟨some 33, none, (.op (.mv (.t 11)))⟩,
    ⟨some 34, none, (.op (.sh false (.t 33) (.c (.p (.int .u64 32)))))⟩,
    ⟨some 13, none, (.op (.mv (.t 34)))⟩])
  (.seq (.reg [⟨some 35, none, (.op (.mv (.t 12)))⟩,
    ⟨some 36, none, (.op (.mv (.t 6)))⟩,
    ⟨some 37, none, (.op (.mv (.t 9)))⟩,
    ⟨some 38, none, (.op (.bin .mul (.t 36) (.t 37)))⟩,
    ⟨some 39, none, (.op (.bin .add (.t 35) (.t 38)))⟩,
    ⟨some 12, none, (.op (.mv (.t 39)))⟩])
  (.seq (.reg [⟨some 40, none, (.op (.mv (.t 7)))⟩,
    ⟨some 41, none, (.op (.mv (.t 9)))⟩,
    ⟨some 42, none, (.op (.bin .mul (.t 40) (.t 41)))⟩,
    ⟨some 43, none, (.op (.mv (.t 13)))⟩,
    ⟨some 44, none, (.op (.bin .add (.t 42) (.t 43)))⟩,
    ⟨some 45, none, (.op (.mv (.t 12)))⟩,
    ⟨some 46, none, (.op (.sh false (.t 45) (.c (.p (.int .u64 32)))))⟩,
    ⟨some 47, none, (.op (.bin .add (.t 44) (.t 46)))⟩,
    ⟨some 4, none, (.op (.mv (.t 47)))⟩])
  (.seq (.reg [⟨some 48, none, (.op (.mv (.t 0)))⟩,
    ⟨some 49, none, (.op (.mv (.t 1)))⟩,
    ⟨some 50, none, (.op (.bin .mul (.t 48) (.t 49)))⟩,
    ⟨some 5, none, (.op (.mv (.t 50)))⟩])
  .ret))))))))))))⟩
theorem cm138 : cFn Tryd.prog 138 = some am138 := by kernel_rfl
theorem km138 : callable Tryd.prog 138 = true := by kernel_rfl
/-- Ties out of cells. -/
def dec_ties : List (List Pv) → Option (List (Int × Int × Int × Int))
  | [] => some []
  | [.int .i64 a, .int .i64 b, .int .i64 c, .int .i64 d] :: r => match dec_ties r with
    | some l => some ((a, b, c, d) :: l)
    | none => none
  | _ :: _ => none
theorem dec_ties_eq : ∀ (es : List (List Pv)) (ts : List (Int × Int × Int × Int)), dec_ties es = some ts → bnd_es ts = es
  | [], ts, h => by simp only [dec_ties, Option.some.injEq] at h; subst h; rfl
  | e :: r, ts, h => by
    unfold dec_ties at h
    split at h
    · rename_i heq; cases heq
    · rename_i a b c d r' heq
      simp only [List.cons.injEq] at heq
      obtain ⟨rfl, rfl⟩ := heq
      split at h
      · rename_i l hl
        simp only [Option.some.injEq] at h; subst h
        have := dec_ties_eq r l hl
        simp only [bnd_es, List.map_cons] at this ⊢
        rw [this]
      · cases h
    · cases h
def itG : EIter := fun f cap => match decide (f = 130), decide (f = 141), cap with
  | true, _, [[.sl 2 es full], [.int .i64 c]] => if 1 ≤ c ∧ c ≤ 1000000 ∧ es.length ≤ 1000000 then some (v_wins es full c) else none
  | _, true, [[.sl 4 es full]] => match dec_ties es with
    | some ts => if ts.length ≤ 1000000 then some (v_bnds ts) else none
    | none => none
  | _, _, _ => none
theorem itG_ok : IterOk Tryd.prog itG := by
  intro f cap vs h
  unfold itG at h
  split at h
  · rename_i hf
    obtain rfl := of_decide_eq_true hf
    split at h
    · rename_i hc
      simp only [Option.some.injEq] at h; subst h
      exact it_windows _ _ _ hc.1 hc.2.1 hc.2.2
    · cases h
  · rename_i hf
    obtain rfl := of_decide_eq_true hf
    split at h
    · rename_i ts hts
      split at h
      · rename_i hc
        simp only [Option.some.injEq] at h; subst h
        rw [← dec_ties_eq _ ts hts]
        exact it_bounds ts _ hc
      · cases h
    · cases h
  · cases h
def tab : Tab := [(85, 0, F_law05_Heights.erase), (94, 0, F_gravity_within.erase), (93, 0, F_gravity_isSized.erase), (131, 0, F_gravity_readingsErr_1.erase), (107, 0, F_slices_IndexFuncint_int__gravity_readingsErr_1.erase), (91, 0, F_slices_ContainsFuncint_int__gravity_readingsErr_1.erase), (89, 0, F_gravity_unless.erase), (88, 0, F_gravity_first.erase), (102, 0, F_gravity_readingsErr.erase), (98, 0, F_gravity_rangeErr.erase), (27, 0, F_gravity_CheckHeights.erase), (99, 0, F_gravity_rangesErr.erase), (100, 0, F_gravity_windows.erase), (101, 0, F_gravity_linear.erase), (30, 0, F_gravity_ResidualsOf.erase), (121, 0, F_gravity_CheckFilter_1.erase), (125, 2, F_slices_Cloneint_int.erase), (129, 4, F_slices_Reverseint_int.erase), (90, 2, F_gravity_both.erase), (116, 0, F_gravity_sum.erase), (75, 0, F_gravity_CheckFilter.erase), (92, 0, F_gravity_Composed_1.erase), (17, 0, F_gravity_Composed.erase), (86, 0, F_law05_Visits.erase), (48, 0, F_gravity_CheckVisits.erase), (140, 0, F_cmp_isNaNint.erase), (135, 0, F_cmp_Compareint.erase), (112, 0, F_gravity_compare.erase), (111, 0, F_gravity_rates.erase), (114, 0, F_gravity_divisor.erase), (95, 0, F_gravity_fraction.erase), (113, 0, F_gravity_span.erase), (50, 0, F_gravity_RateOf.erase), (87, 0, F_law05_Net.erase), (41, 0, F_gravity_CheckNet.erase), (138, 0, am138), (132, 0, am132), (134, 2, am134), (139, 0, F_gravity_bounds.erase), (133, 5, F_gravity_lowered.erase), (106, 0, F_gravity_greatest.erase), (43, 0, F_gravity_ValuesOf.erase), (19, 0, F_gravity_ReducedOf.erase), (33, 0, F_base_Ranges.erase), (22, 0, F_base_Ints.erase), (15, 0, F_law05_awake.erase)]
theorem tab_ok : Tab.ok Tryd.prog tab :=
  Tab.ok_cons (b := 0) (show cFn Tryd.prog 85 = some (F_law05_Heights.erase) from e_law05_Heights) <|
  Tab.ok_cons (b := 0) (show cFn Tryd.prog 94 = some (F_gravity_within.erase) from e_gravity_within) <|
  Tab.ok_cons (b := 0) (show cFn Tryd.prog 93 = some (F_gravity_isSized.erase) from e_gravity_isSized) <|
  Tab.ok_cons (b := 0) (show cFn Tryd.prog 131 = some (F_gravity_readingsErr_1.erase) from e_gravity_readingsErr_1) <|
  Tab.ok_cons (b := 0) (show cFn Tryd.prog 107 = some (F_slices_IndexFuncint_int__gravity_readingsErr_1.erase) from e_slices_IndexFuncint_int__gravity_readingsErr_1) <|
  Tab.ok_cons (b := 0) (show cFn Tryd.prog 91 = some (F_slices_ContainsFuncint_int__gravity_readingsErr_1.erase) from e_slices_ContainsFuncint_int__gravity_readingsErr_1) <|
  Tab.ok_cons (b := 0) (show cFn Tryd.prog 89 = some (F_gravity_unless.erase) from e_gravity_unless) <|
  Tab.ok_cons (b := 0) (show cFn Tryd.prog 88 = some (F_gravity_first.erase) from e_gravity_first) <|
  Tab.ok_cons (b := 0) (show cFn Tryd.prog 102 = some (F_gravity_readingsErr.erase) from e_gravity_readingsErr) <|
  Tab.ok_cons (b := 0) (show cFn Tryd.prog 98 = some (F_gravity_rangeErr.erase) from e_gravity_rangeErr) <|
  Tab.ok_cons (b := 0) (show cFn Tryd.prog 27 = some (F_gravity_CheckHeights.erase) from e_gravity_CheckHeights) <|
  Tab.ok_cons (b := 0) (show cFn Tryd.prog 99 = some (F_gravity_rangesErr.erase) from e_gravity_rangesErr) <|
  Tab.ok_cons (b := 0) (show cFn Tryd.prog 100 = some (F_gravity_windows.erase) from e_gravity_windows) <|
  Tab.ok_cons (b := 0) (show cFn Tryd.prog 101 = some (F_gravity_linear.erase) from e_gravity_linear) <|
  Tab.ok_cons (b := 0) (show cFn Tryd.prog 30 = some (F_gravity_ResidualsOf.erase) from e_gravity_ResidualsOf) <|
  Tab.ok_cons (b := 0) (show cFn Tryd.prog 121 = some (F_gravity_CheckFilter_1.erase) from e_gravity_CheckFilter_1) <|
  Tab.ok_cons (b := 2) (show cFn Tryd.prog 125 = some (F_slices_Cloneint_int.erase) from e_slices_Cloneint_int) <|
  Tab.ok_cons (b := 4) (show cFnN Tryd.prog 1 129 = some (F_slices_Reverseint_int.erase) from e_slices_Reverseint_int) <|
  Tab.ok_cons (b := 2) (show cFn Tryd.prog 90 = some (F_gravity_both.erase) from e_gravity_both) <|
  Tab.ok_cons (b := 0) (show cFn Tryd.prog 116 = some (F_gravity_sum.erase) from e_gravity_sum) <|
  Tab.ok_cons (b := 0) (show cFn Tryd.prog 75 = some (F_gravity_CheckFilter.erase) from e_gravity_CheckFilter) <|
  Tab.ok_cons (b := 0) (show cFn Tryd.prog 92 = some (F_gravity_Composed_1.erase) from e_gravity_Composed_1) <|
  Tab.ok_cons (b := 0) (show cFn Tryd.prog 17 = some (F_gravity_Composed.erase) from e_gravity_Composed) <|
  Tab.ok_cons (b := 0) (show cFn Tryd.prog 86 = some (F_law05_Visits.erase) from e_law05_Visits) <|
  Tab.ok_cons (b := 0) (show cFn Tryd.prog 48 = some (F_gravity_CheckVisits.erase) from e_gravity_CheckVisits) <|
  Tab.ok_cons (b := 0) (show cFn Tryd.prog 140 = some (F_cmp_isNaNint.erase) from e_cmp_isNaNint) <|
  Tab.ok_cons (b := 0) (show cFn Tryd.prog 135 = some (F_cmp_Compareint.erase) from e_cmp_Compareint) <|
  Tab.ok_cons (b := 0) (show cFn Tryd.prog 112 = some (F_gravity_compare.erase) from e_gravity_compare) <|
  Tab.ok_cons (b := 0) (show cFn Tryd.prog 111 = some (F_gravity_rates.erase) from e_gravity_rates) <|
  Tab.ok_cons (b := 0) (show cFn Tryd.prog 114 = some (F_gravity_divisor.erase) from e_gravity_divisor) <|
  Tab.ok_cons (b := 0) (show cFn Tryd.prog 95 = some (F_gravity_fraction.erase) from e_gravity_fraction) <|
  Tab.ok_cons (b := 0) (show cFn Tryd.prog 113 = some (F_gravity_span.erase) from e_gravity_span) <|
  Tab.ok_cons (b := 0) (show cFn Tryd.prog 50 = some (F_gravity_RateOf.erase) from e_gravity_RateOf) <|
  Tab.ok_cons (b := 0) (show cFn Tryd.prog 87 = some (F_law05_Net.erase) from e_law05_Net) <|
  Tab.ok_cons (b := 0) (show cFn Tryd.prog 41 = some (F_gravity_CheckNet.erase) from e_gravity_CheckNet) <|
  Tab.ok_cons (b := 0) (show cFn Tryd.prog 138 = some (am138) from cm138) <|
  Tab.ok_cons (b := 0) (show cFn Tryd.prog 132 = some (am132) from cm132) <|
  Tab.ok_cons (b := 2) (show cFn Tryd.prog 134 = some (am134) from cm134) <|
  Tab.ok_cons (b := 0) (show cFn Tryd.prog 139 = some (F_gravity_bounds.erase) from e_gravity_bounds) <|
  Tab.ok_cons (b := 5) (show cFnN Tryd.prog 2 133 = some (F_gravity_lowered.erase) from e_gravity_lowered) <|
  Tab.ok_cons (b := 0) (show cFn Tryd.prog 106 = some (F_gravity_greatest.erase) from e_gravity_greatest) <|
  Tab.ok_cons (b := 0) (show cFn Tryd.prog 43 = some (F_gravity_ValuesOf.erase) from e_gravity_ValuesOf) <|
  Tab.ok_cons (b := 0) (show cFn Tryd.prog 19 = some (F_gravity_ReducedOf.erase) from e_gravity_ReducedOf) <|
  Tab.ok_cons (b := 0) (show cFn Tryd.prog 33 = some (F_base_Ranges.erase) from e_base_Ranges) <|
  Tab.ok_cons (b := 0) (show cFn Tryd.prog 22 = some (F_base_Ints.erase) from e_base_Ints) <|
  Tab.ok_cons (b := 0) (show cFn Tryd.prog 15 = some (F_law05_awake.erase) from e_law05_awake) <|
  Tab.ok_nil
/-- The examples of the document. -/
def s_law05_awake : Bool := true
abbrev con_law05_awake : Con := ⟨P_law05_awake, R_law05_awake, fun _ => [], fun _ => s_law05_awake⟩
theorem ok_law05_awake : ConOk Tryd.prog 15 con_law05_awake := ⟨k_law05_awake, fun _ _ => ret_ev tab_ok (it := itG) itG_ok EFun.none_ok (n := 100) (d := 20) (by kernel_rfl)⟩
end Go.Proofs.YtcecdmdnfmgnfaaDoor
