/- The law's examples: awake returns true. No condition. -/
import Derived.Test.YtonjnpefnbnohaaTxN
import Derived.Test.YtonjnpefnbnohaaFnCountsLinesA
import Derived.KernelRfl
namespace Go.Proofs.Ytonjnpefnbnohaa
open Go Go.Mx
set_option maxRecDepth 100000
def am111l0 : ACode := (.seq (.reg [⟨some 23, none, (.op (.bin .lss (.t 22) (.c (.p (.int .i64 3)))))⟩])
  (.seq (.cond (.t 23) .skip (.exit 2))
  (.seq (.block 3 (.seq (.reg [⟨some 24, none, (.op (.idx 1 3 false (.t 21) (.t 22)))⟩,
    ⟨some 7, none, (.op (.mv (.t 24)))⟩])
  (.reg [⟨some 25, none, (.op (.mv (.t 3)))⟩,
    ⟨some 26, none, (.op (.mv (.t 7)))⟩,
    ⟨some 27, none, (.call 2 85 [(.t 25), (.t 26)])⟩,
    ⟨some 3, none, (.op (.mv (.t 27)))⟩])))
  (.reg [⟨some 28, none, (.op (.bin .add (.t 22) (.c (.p (.int .i64 1)))))⟩,
    ⟨some 22, none, (.op (.mv (.t 28)))⟩]))))
def am111l1 : ACode := (.seq (.reg [⟨some 19, none, (.op (.bin .lss (.t 18) (.c (.p (.int .i64 3)))))⟩])
  (.seq (.cond (.t 19) .skip (.exit 0))
  (.seq (.block 1 (.seq (.reg [⟨some 20, none, (.op (.idx 3 3 true (.t 17) (.t 18)))⟩,
    ⟨some 5, none, (.op (.newz 1 [(.p (.int .i64 0)), (.p (.int .i64 0)), (.p (.int .i64 0))]))⟩,
    ⟨none, none, (.op (.st 3 (.t 5) (.t 20)))⟩])
  (.seq (.reg [⟨some 21, none, (.op (.ldn 3 (.t 5)))⟩,
    ⟨some 22, none, (.op (.mv (.c (.p (.int .i64 0)))))⟩])
  (.block 2 (.loop am111l0)))))
  (.reg [⟨some 29, none, (.op (.bin .add (.t 18) (.c (.p (.int .i64 1)))))⟩,
    ⟨some 18, none, (.op (.mv (.t 29)))⟩]))))
def am111l2 : ACode := (.seq (.reg [⟨some 42, none, (.op (.bin .lss (.t 41) (.c (.p (.int .i64 3)))))⟩])
  (.seq (.cond (.t 42) .skip (.exit 6))
  (.seq (.block 7 (.seq (.reg [⟨some 43, none, (.op (.mv (.t 41)))⟩,
    ⟨some 9, none, (.op (.mv (.t 43)))⟩])
  (.regd [⟨some 44, none, (.op (.mv (.t 0)))⟩,
    ⟨some 45, none, (.op (.mv (.t 8)))⟩,
    ⟨some 46, none, (.op (.mv (.t 9)))⟩,
    ⟨some 47, none, (.op (.chk (.t 44)))⟩,
    ⟨some 48, none, (.op (.fa 0 (.t 47)))⟩,
    ⟨some 49, none, (.op (.iaa 3 3 (.t 48) (.t 45)))⟩,
    ⟨some 50, none, (.op (.iaa 1 3 (.t 49) (.t 46)))⟩,
    ⟨some 51, none, (.op (.ld1 (.t 50)))⟩,
    ⟨some 52, none, (.op (.mv (.t 3)))⟩,
    ⟨some 53, none, (.op (.bin .quo (.t 51) (.t 52)))⟩,
    ⟨some 54, none, (.op (.chk (.t 44)))⟩,
    ⟨some 55, none, (.op (.fa 0 (.t 54)))⟩,
    ⟨some 56, none, (.op (.iaa 3 3 (.t 55) (.t 45)))⟩,
    ⟨some 57, none, (.op (.iaa 1 3 (.t 56) (.t 46)))⟩,
    ⟨none, none, (.op (.st 1 (.t 57) (.t 53)))⟩] [])))
  (.reg [⟨some 58, none, (.op (.bin .add (.t 41) (.c (.p (.int .i64 1)))))⟩,
    ⟨some 41, none, (.op (.mv (.t 58)))⟩]))))
def am111l3 : ACode := (.seq (.reg [⟨some 39, none, (.op (.bin .lss (.t 38) (.c (.p (.int .i64 3)))))⟩])
  (.seq (.cond (.t 39) .skip (.exit 4))
  (.seq (.block 5 (.seq (.reg [⟨some 40, none, (.op (.mv (.t 38)))⟩,
    ⟨some 8, none, (.op (.mv (.t 40)))⟩])
  (.seq (.reg [⟨some 41, none, (.op (.mv (.c (.p (.int .i64 0)))))⟩])
  (.block 6 (.loop am111l2)))))
  (.reg [⟨some 59, none, (.op (.bin .add (.t 38) (.c (.p (.int .i64 1)))))⟩,
    ⟨some 38, none, (.op (.mv (.t 59)))⟩]))))
def am111 : AFn := ⟨61, 2, [.tmp 2],
  (.seq (.reg [⟨some 2, none, (.op (.mv (.c (.p (.int .i64 0)))))⟩])
  (.seq (.reg [⟨some 10, none, (.op (.mv (.t 0)))⟩,
    ⟨some 11, none, (.op (.chk (.t 10)))⟩,
    ⟨some 12, none, (.op (.fa 9 (.t 11)))⟩,
    ⟨some 13, none, (.op (.ld1 (.t 12)))⟩,
    ⟨some 3, none, (.op (.mv (.t 13)))⟩])
  (.seq (.seq (.reg [⟨some 14, none, (.op (.mv (.t 0)))⟩,
    ⟨some 15, none, (.op (.chk (.t 14)))⟩,
    ⟨some 16, none, (.op (.fa 0 (.t 15)))⟩,
    ⟨some 17, none, (.op (.ldn 9 (.t 16)))⟩,
    ⟨some 18, none, (.op (.mv (.c (.p (.int .i64 0)))))⟩])
  (.block 0 (.loop am111l1)))
  (.seq (.reg [⟨some 30, none, (.op (.mv (.t 0)))⟩,
    ⟨some 31, none, (.op (.chk (.t 30)))⟩,
    ⟨some 32, none, (.op (.fa 9 (.t 31)))⟩,
    ⟨some 33, none, (.op (.ld1 (.t 32)))⟩,
    ⟨some 34, none, (.op (.mv (.t 3)))⟩,
    ⟨some 35, none, (.op (.bin .quo (.t 33) (.t 34)))⟩,
    ⟨some 36, none, (.op (.chk (.t 30)))⟩,
    ⟨some 37, none, (.op (.fa 9 (.t 36)))⟩,
    ⟨none, none, (.op (.st 1 (.t 37) (.t 35)))⟩])
  (.seq (.seq (.reg [⟨some 38, none, (.op (.mv (.c (.p (.int .i64 0)))))⟩])
  (.block 4 (.loop am111l3)))
  (.seq (.reg [⟨some 60, none, (.op (.mv (.t 3)))⟩,
    ⟨some 2, none, (.op (.mv (.t 60)))⟩])
  .ret))))))⟩
theorem cm111 : cFnM Try.prog 111 = some am111 := by kernel_rfl
def tab : Tab := [(72, false, F_law06_Rules.erase), (73, false, F_law06_Sample.erase), (74, false, F_counts_within.erase), (116, false, F_counts_allWithin_1.erase), (102, false, F_slices_IndexFuncint_int__counts_allWithin_1.erase), (75, false, F_counts_allWithin.erase), (78, false, F_counts_unless.erase), (100, false, F_counts_total.erase), (77, false, F_counts_first.erase), (76, false, F_counts_columnErr.erase), (16, false, F_counts_CheckRules.erase), (82, false, F_counts_open.erase), (104, false, F_counts_isRaw.erase), (83, false, F_counts_rules_has.erase), (89, false, F_counts_rules_sampleErr.erase), (79, false, F_counts_openSample.erase), (120, false, F_counts_single.erase), (125, false, F_counts_floor.erase), (112, false, F_counts_ceil.erase), (118, false, F_counts_rounded.erase), (92, false, F_counts_rules_live.erase), (93, false, F_counts_rules_background.erase), (119, false, F_counts_times.erase), (123, false, F_counts_sum.erase), (121, false, F_counts_minus.erase), (94, false, F_counts_rules_radon.erase), (95, false, F_counts_rules_net.erase), (35, false, F_counts_NetOf.erase), (122, false, F_counts_minor.erase), (85, false, F_counts_divisor.erase), (111, true, am111), (96, false, F_counts_rules_inverse.erase), (41, false, F_counts_InverseOf.erase), (98, false, F_counts_product.erase), (99, false, F_counts_rules_stripped.erase), (84, false, F_counts_rules_factor.erase), (90, false, F_counts_rules_reducedCounts.erase), (45, false, F_counts_ReducedOf.erase), (110, false, F_counts_isValue.erase), (80, false, F_counts_valueErr.erase), (81, false, F_counts_rootUp.erase), (21, false, F_counts_BandOf.erase), (103, false, F_counts_CheckSpectrum_1.erase), (54, false, F_counts_CheckSpectrum.erase), (101, false, F_counts_spectrumErr.erase), (52, false, F_counts_Shifted.erase), (53, false, F_base_Ints.erase), (14, false, F_law06_awake.erase)]
theorem tab_ok : Tab.ok Try.prog tab :=
  Tab.ok_cons (show (bif false then cFnM Try.prog 72 else cFn Try.prog 72) = some (F_law06_Rules.erase) from e_law06_Rules) <|
  Tab.ok_cons (show (bif false then cFnM Try.prog 73 else cFn Try.prog 73) = some (F_law06_Sample.erase) from e_law06_Sample) <|
  Tab.ok_cons (show (bif false then cFnM Try.prog 74 else cFn Try.prog 74) = some (F_counts_within.erase) from e_counts_within) <|
  Tab.ok_cons (show (bif false then cFnM Try.prog 116 else cFn Try.prog 116) = some (F_counts_allWithin_1.erase) from e_counts_allWithin_1) <|
  Tab.ok_cons (show (bif false then cFnM Try.prog 102 else cFn Try.prog 102) = some (F_slices_IndexFuncint_int__counts_allWithin_1.erase) from e_slices_IndexFuncint_int__counts_allWithin_1) <|
  Tab.ok_cons (show (bif false then cFnM Try.prog 75 else cFn Try.prog 75) = some (F_counts_allWithin.erase) from e_counts_allWithin) <|
  Tab.ok_cons (show (bif false then cFnM Try.prog 78 else cFn Try.prog 78) = some (F_counts_unless.erase) from e_counts_unless) <|
  Tab.ok_cons (show (bif false then cFnM Try.prog 100 else cFn Try.prog 100) = some (F_counts_total.erase) from e_counts_total) <|
  Tab.ok_cons (show (bif false then cFnM Try.prog 77 else cFn Try.prog 77) = some (F_counts_first.erase) from e_counts_first) <|
  Tab.ok_cons (show (bif false then cFnM Try.prog 76 else cFn Try.prog 76) = some (F_counts_columnErr.erase) from e_counts_columnErr) <|
  Tab.ok_cons (show (bif false then cFnM Try.prog 16 else cFn Try.prog 16) = some (F_counts_CheckRules.erase) from e_counts_CheckRules) <|
  Tab.ok_cons (show (bif false then cFnM Try.prog 82 else cFn Try.prog 82) = some (F_counts_open.erase) from e_counts_open) <|
  Tab.ok_cons (show (bif false then cFnM Try.prog 104 else cFn Try.prog 104) = some (F_counts_isRaw.erase) from e_counts_isRaw) <|
  Tab.ok_cons (show (bif false then cFnM Try.prog 83 else cFn Try.prog 83) = some (F_counts_rules_has.erase) from e_counts_rules_has) <|
  Tab.ok_cons (show (bif false then cFnM Try.prog 89 else cFn Try.prog 89) = some (F_counts_rules_sampleErr.erase) from e_counts_rules_sampleErr) <|
  Tab.ok_cons (show (bif false then cFnM Try.prog 79 else cFn Try.prog 79) = some (F_counts_openSample.erase) from e_counts_openSample) <|
  Tab.ok_cons (show (bif false then cFnM Try.prog 120 else cFn Try.prog 120) = some (F_counts_single.erase) from e_counts_single) <|
  Tab.ok_cons (show (bif false then cFnM Try.prog 125 else cFn Try.prog 125) = some (F_counts_floor.erase) from e_counts_floor) <|
  Tab.ok_cons (show (bif false then cFnM Try.prog 112 else cFn Try.prog 112) = some (F_counts_ceil.erase) from e_counts_ceil) <|
  Tab.ok_cons (show (bif false then cFnM Try.prog 118 else cFn Try.prog 118) = some (F_counts_rounded.erase) from e_counts_rounded) <|
  Tab.ok_cons (show (bif false then cFnM Try.prog 92 else cFn Try.prog 92) = some (F_counts_rules_live.erase) from e_counts_rules_live) <|
  Tab.ok_cons (show (bif false then cFnM Try.prog 93 else cFn Try.prog 93) = some (F_counts_rules_background.erase) from e_counts_rules_background) <|
  Tab.ok_cons (show (bif false then cFnM Try.prog 119 else cFn Try.prog 119) = some (F_counts_times.erase) from e_counts_times) <|
  Tab.ok_cons (show (bif false then cFnM Try.prog 123 else cFn Try.prog 123) = some (F_counts_sum.erase) from e_counts_sum) <|
  Tab.ok_cons (show (bif false then cFnM Try.prog 121 else cFn Try.prog 121) = some (F_counts_minus.erase) from e_counts_minus) <|
  Tab.ok_cons (show (bif false then cFnM Try.prog 94 else cFn Try.prog 94) = some (F_counts_rules_radon.erase) from e_counts_rules_radon) <|
  Tab.ok_cons (show (bif false then cFnM Try.prog 95 else cFn Try.prog 95) = some (F_counts_rules_net.erase) from e_counts_rules_net) <|
  Tab.ok_cons (show (bif false then cFnM Try.prog 35 else cFn Try.prog 35) = some (F_counts_NetOf.erase) from e_counts_NetOf) <|
  Tab.ok_cons (show (bif false then cFnM Try.prog 122 else cFn Try.prog 122) = some (F_counts_minor.erase) from e_counts_minor) <|
  Tab.ok_cons (show (bif false then cFnM Try.prog 85 else cFn Try.prog 85) = some (F_counts_divisor.erase) from e_counts_divisor) <|
  Tab.ok_cons (show (bif true then cFnM Try.prog 111 else cFn Try.prog 111) = some (am111) from cm111) <|
  Tab.ok_cons (show (bif false then cFnM Try.prog 96 else cFn Try.prog 96) = some (F_counts_rules_inverse.erase) from e_counts_rules_inverse) <|
  Tab.ok_cons (show (bif false then cFnM Try.prog 41 else cFn Try.prog 41) = some (F_counts_InverseOf.erase) from e_counts_InverseOf) <|
  Tab.ok_cons (show (bif false then cFnM Try.prog 98 else cFn Try.prog 98) = some (F_counts_product.erase) from e_counts_product) <|
  Tab.ok_cons (show (bif false then cFnM Try.prog 99 else cFn Try.prog 99) = some (F_counts_rules_stripped.erase) from e_counts_rules_stripped) <|
  Tab.ok_cons (show (bif false then cFnM Try.prog 84 else cFn Try.prog 84) = some (F_counts_rules_factor.erase) from e_counts_rules_factor) <|
  Tab.ok_cons (show (bif false then cFnM Try.prog 90 else cFn Try.prog 90) = some (F_counts_rules_reducedCounts.erase) from e_counts_rules_reducedCounts) <|
  Tab.ok_cons (show (bif false then cFnM Try.prog 45 else cFn Try.prog 45) = some (F_counts_ReducedOf.erase) from e_counts_ReducedOf) <|
  Tab.ok_cons (show (bif false then cFnM Try.prog 110 else cFn Try.prog 110) = some (F_counts_isValue.erase) from e_counts_isValue) <|
  Tab.ok_cons (show (bif false then cFnM Try.prog 80 else cFn Try.prog 80) = some (F_counts_valueErr.erase) from e_counts_valueErr) <|
  Tab.ok_cons (show (bif false then cFnM Try.prog 81 else cFn Try.prog 81) = some (F_counts_rootUp.erase) from e_counts_rootUp) <|
  Tab.ok_cons (show (bif false then cFnM Try.prog 21 else cFn Try.prog 21) = some (F_counts_BandOf.erase) from e_counts_BandOf) <|
  Tab.ok_cons (show (bif false then cFnM Try.prog 103 else cFn Try.prog 103) = some (F_counts_CheckSpectrum_1.erase) from e_counts_CheckSpectrum_1) <|
  Tab.ok_cons (show (bif false then cFnM Try.prog 54 else cFn Try.prog 54) = some (F_counts_CheckSpectrum.erase) from e_counts_CheckSpectrum) <|
  Tab.ok_cons (show (bif false then cFnM Try.prog 101 else cFn Try.prog 101) = some (F_counts_spectrumErr.erase) from e_counts_spectrumErr) <|
  Tab.ok_cons (show (bif false then cFnM Try.prog 52 else cFn Try.prog 52) = some (F_counts_Shifted.erase) from e_counts_Shifted) <|
  Tab.ok_cons (show (bif false then cFnM Try.prog 53 else cFn Try.prog 53) = some (F_base_Ints.erase) from e_base_Ints) <|
  Tab.ok_cons (show (bif false then cFnM Try.prog 14 else cFn Try.prog 14) = some (F_law06_awake.erase) from e_law06_awake) <|
  Tab.ok_nil
/-- The examples of the document. -/
def s_law06_awake : Bool := true
abbrev con_law06_awake : Con := ⟨P_law06_awake, R_law06_awake, fun _ => [], fun _ => s_law06_awake⟩
theorem ok_law06_awake : ConOk Try.prog 14 con_law06_awake := ⟨k_law06_awake, fun _ _ => ret_ev tab_ok (n := 100) (d := 20) (by kernel_rfl)⟩
end Go.Proofs.Ytonjnpefnbnohaa
