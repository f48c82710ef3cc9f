/- The code of the functions that CountsLines reaches, as it is walked: each equals what the given program's text gives. -/
import Derived.Test.YtonjnpefnbnohaaTxM
import Derived.Test.YtonjnpefnbnohaaProg
import Derived.KernelRfl
namespace Go.Proofs.Ytonjnpefnbnohaa
open Go Go.Mx
set_option maxRecDepth 100000
/-- cloverleaf/cloverleaflaw06.CountsLines -/
def F_law06_CountsLines : TFn := ⟨114, 9, [.tmp 4],
  (.seq (.reg [⟨some 2, none, (.op (.box 0 (.t 0)))⟩,
    ⟨some 4, none, (.op (.mv (.c (.p (.bool false)))))⟩])
  (.seq (.seq (.reg [⟨some 12, none, (.call 1 14 [])⟩,
    ⟨some 13, none, (.op (.unot (.t 12)))⟩])
  (.cond (.t 13) (.seq (.reg [⟨some 4, none, (.op (.mv (.c (.p (.bool false)))))⟩])
  .ret) .skip))
  (.seq (.seq (.reg [⟨some 14, none, (.op (.ldn 23 (.t 2)))⟩,
    ⟨some 15, none, (.call 2 15 [(.t 14)])⟩,
    ⟨some 16, none, (.op (.unot (.t 15)))⟩,
    ⟨some 17, none, (.op (.mv (.t 16)))⟩,
    ⟨some 18, some (some 17, false), (.op (.mv (.t 1)))⟩,
    ⟨some 19, some (some 17, false), (.op (.len false (.t 18)))⟩,
    ⟨some 20, some (some 17, false), (.op (.bin .gtr (.t 19) (.c (.p (.int .i64 12)))))⟩,
    ⟨some 21, some (some 17, false), (.op (.mv (.t 20)))⟩,
    ⟨some 22, some (some 21, true), (.op (.mv (.t 1)))⟩,
    ⟨some 23, some (some 21, true), (.op (.len false (.t 22)))⟩,
    ⟨some 24, some (some 21, true), (.op (.bin .leq (.t 23) (.c (.p (.int .i64 100)))))⟩,
    ⟨some 25, some (some 17, false), (.op (.pick (.t 21) (.t 24) (.c (.p (.bool false)))))⟩,
    ⟨some 26, none, (.op (.pick (.t 17) (.c (.p (.bool true))) (.t 25)))⟩,
    ⟨some 27, none, (.op (.mv (.t 26)))⟩,
    ⟨some 28, some (some 27, false), (.op (.mv (.t 1)))⟩,
    ⟨some 29, some (some 27, false), (.op (.len false (.t 28)))⟩,
    ⟨some 30, some (some 27, false), (.op (.bin .gtr (.t 29) (.c (.p (.int .i64 102)))))⟩,
    ⟨some 31, none, (.op (.pick (.t 27) (.c (.p (.bool true))) (.t 30)))⟩])
  (.cond (.t 31) (.seq (.reg [⟨some 4, none, (.op (.mv (.c (.p (.bool true)))))⟩])
  .ret) .skip))
  (.seq (.reg [⟨some 33, none, (.op (.ldn 23 (.t 2)))⟩,
    ⟨some 34, none, (.call 3 17 [(.t 33)])⟩,
    ⟨some 35, none, (.op (.mv (.t 1)))⟩,
    ⟨some 36, none, (.call 4 29 [(.t 35)])⟩,
    ⟨some 37, none, (.call 5 28 [(.t 34), (.t 36)])⟩,
    ⟨some 32, none, (.op (.mv (.t 37)))⟩,
    ⟨some 38, none, (.op (.ext 0 (.t 32)))⟩,
    ⟨some 39, none, (.op (.ext 1 (.t 32)))⟩,
    ⟨some 40, none, (.op (.ext 2 (.t 32)))⟩,
    ⟨some 5, none, (.op (.mv (.t 38)))⟩,
    ⟨some 6, none, (.op (.mv (.t 39)))⟩,
    ⟨some 7, none, (.op (.mv (.t 40)))⟩])
  (.seq (.reg [⟨some 41, none, (.op (.ldn 23 (.t 2)))⟩,
    ⟨some 42, none, (.call 6 23 [(.t 41)])⟩,
    ⟨some 8, none, (.op (.mv (.c (.p (.int .i64 0)))))⟩,
    ⟨some 9, none, (.op (.mv (.t 42)))⟩])
  (.seq (.seq (.reg [⟨some 43, none, (.op (.mv (.t 9)))⟩,
    ⟨some 44, none, (.op (.bin .eql (.t 43) (.c (.p (.int .i64 0)))))⟩,
    ⟨some 45, none, (.op (.mv (.t 44)))⟩,
    ⟨some 46, some (some 45, true), (.op (.mv (.t 1)))⟩,
    ⟨some 47, some (some 45, true), (.op (.len false (.t 46)))⟩,
    ⟨some 48, some (some 45, true), (.op (.bin .gtr (.t 47) (.c (.p (.int .i64 100)))))⟩,
    ⟨some 49, none, (.op (.pick (.t 45) (.t 48) (.c (.p (.bool false)))))⟩])
  (.cond (.t 49) (.reg [⟨some 9, none, (.op (.mv (.c (.p (.int .i64 8)))))⟩]) .skip))
  (.seq (.seq (.reg [⟨some 10, none, (.op (.mv (.c (.p (.int .i64 0)))))⟩])
  (.block 0 (.loop [.v 10 (.int .i64), .v 8 (.int .i64), .v 9 (.int .i64)] [] [] (.seq (.seq (.reg [⟨some 50, none, (.op (.mv (.t 10)))⟩,
    ⟨some 51, none, (.op (.mv (.t 1)))⟩,
    ⟨some 52, none, (.op (.len false (.t 51)))⟩,
    ⟨some 53, none, (.op (.bin .lss (.t 50) (.t 52)))⟩,
    ⟨some 54, none, (.op (.mv (.t 53)))⟩,
    ⟨some 55, some (some 54, true), (.op (.mv (.t 9)))⟩,
    ⟨some 56, some (some 54, true), (.op (.bin .eql (.t 55) (.c (.p (.int .i64 0)))))⟩,
    ⟨some 57, none, (.op (.pick (.t 54) (.t 56) (.c (.p (.bool false)))))⟩])
  (.cond (.t 57) .skip (.exit 0)))
  (.seq (.block 1 (.seq (.regd [⟨some 60, none, (.op (.ldn 23 (.t 2)))⟩,
    ⟨some 61, none, (.op (.mv (.t 1)))⟩,
    ⟨some 62, none, (.op (.mv (.t 10)))⟩,
    ⟨some 63, none, (.op (.ia 7 (.t 61) (.t 62)))⟩,
    ⟨some 64, none, (.op (.ldn 7 (.t 63)))⟩,
    ⟨some 65, none, (.call 7 30 [(.t 60), (.t 64)])⟩,
    ⟨some 9, none, (.op (.mv (.t 65)))⟩] [(0, 4)] [])
  (.seq (.reg [⟨some 66, none, (.op (.mv (.t 9)))⟩,
    ⟨some 67, none, (.op (.bin .neq (.t 66) (.c (.p (.int .i64 0)))))⟩])
  (.cond (.t 67) (.reg [⟨some 68, none, (.op (.mv (.t 10)))⟩,
    ⟨some 8, none, (.op (.mv (.t 68)))⟩]) .skip))))
  (.reg [⟨some 58, none, (.op (.mv (.t 10)))⟩,
    ⟨some 59, none, (.op (.bin .add (.t 58) (.c (.p (.int .i64 1)))))⟩,
    ⟨some 10, none, (.op (.mv (.t 59)))⟩]))))))
  (.seq (.seq (.reg [⟨some 69, none, (.op (.mv (.t 9)))⟩,
    ⟨some 70, none, (.op (.bin .neq (.t 69) (.c (.p (.int .i64 0)))))⟩])
  (.cond (.t 70) (.seq (.reg [⟨some 71, none, (.op (.mv (.t 7)))⟩,
    ⟨some 72, none, (.op (.mv (.t 9)))⟩,
    ⟨some 73, none, (.op (.bin .eql (.t 71) (.t 72)))⟩,
    ⟨some 74, none, (.op (.mv (.t 73)))⟩,
    ⟨some 75, some (some 74, true), (.op (.mv (.t 6)))⟩,
    ⟨some 76, some (some 74, true), (.op (.mv (.t 8)))⟩,
    ⟨some 77, some (some 74, true), (.op (.bin .eql (.t 75) (.t 76)))⟩,
    ⟨some 78, none, (.op (.pick (.t 74) (.t 77) (.c (.p (.bool false)))))⟩,
    ⟨some 79, none, (.op (.mv (.t 78)))⟩,
    ⟨some 80, some (some 79, true), (.op (.mv (.t 5)))⟩,
    ⟨some 81, some (some 79, true), (.op (.len false (.t 80)))⟩,
    ⟨some 82, some (some 79, true), (.op (.bin .eql (.t 81) (.c (.p (.int .i64 0)))))⟩,
    ⟨some 83, none, (.op (.pick (.t 79) (.t 82) (.c (.p (.bool false)))))⟩,
    ⟨some 4, none, (.op (.mv (.t 83)))⟩])
  .ret) .skip))
  (.seq (.seq (.reg [⟨some 84, none, (.op (.mv (.t 7)))⟩,
    ⟨some 85, none, (.op (.bin .neq (.t 84) (.c (.p (.int .i64 0)))))⟩,
    ⟨some 86, none, (.op (.mv (.t 85)))⟩,
    ⟨some 87, some (some 86, false), (.op (.mv (.t 6)))⟩,
    ⟨some 88, some (some 86, false), (.op (.bin .neq (.t 87) (.c (.p (.int .i64 0)))))⟩,
    ⟨some 89, none, (.op (.pick (.t 86) (.c (.p (.bool true))) (.t 88)))⟩,
    ⟨some 90, none, (.op (.mv (.t 89)))⟩,
    ⟨some 91, some (some 90, false), (.op (.mv (.t 5)))⟩,
    ⟨some 92, some (some 90, false), (.op (.len false (.t 91)))⟩,
    ⟨some 93, some (some 90, false), (.op (.mv (.t 1)))⟩,
    ⟨some 94, some (some 90, false), (.op (.len false (.t 93)))⟩,
    ⟨some 95, some (some 90, false), (.op (.bin .neq (.t 92) (.t 94)))⟩,
    ⟨some 96, none, (.op (.pick (.t 90) (.c (.p (.bool true))) (.t 95)))⟩])
  (.cond (.t 96) (.seq (.reg [⟨some 4, none, (.op (.mv (.c (.p (.bool false)))))⟩])
  .ret) .skip))
  (.seq (.seq (.reg [⟨some 11, none, (.op (.mv (.c (.p (.int .i64 0)))))⟩])
  (.block 2 (.loop [.v 11 (.int .i64)] [] [] (.seq (.seq (.reg [⟨some 97, none, (.op (.mv (.t 11)))⟩,
    ⟨some 98, none, (.op (.mv (.t 1)))⟩,
    ⟨some 99, none, (.op (.len false (.t 98)))⟩,
    ⟨some 100, none, (.op (.bin .lss (.t 97) (.t 99)))⟩])
  (.cond (.t 100) .skip (.exit 2)))
  (.seq (.block 3 (.seq (.regd [⟨some 103, none, (.op (.mv (.t 5)))⟩,
    ⟨some 104, none, (.op (.mv (.t 11)))⟩,
    ⟨some 105, none, (.op (.ia 6 (.t 103) (.t 104)))⟩,
    ⟨some 106, none, (.op (.ldn 6 (.t 105)))⟩,
    ⟨some 107, none, (.op (.ldn 23 (.t 2)))⟩,
    ⟨some 108, none, (.op (.mv (.t 1)))⟩,
    ⟨some 109, none, (.op (.mv (.t 11)))⟩,
    ⟨some 110, none, (.op (.ia 7 (.t 108) (.t 109)))⟩,
    ⟨some 111, none, (.op (.ldn 7 (.t 110)))⟩,
    ⟨some 112, none, (.call 8 31 [(.t 107), (.t 111)])⟩,
    ⟨some 113, none, (.op (.eqa true 6 [(true, 0), (true, 1), (true, 2), (true, 3), (true, 4), (true, 5)] (.t 106) (.t 112)))⟩] [(3, 4), (3, 8), (4, 8), (3, 9)] [])
  (.cond (.t 113) (.seq (.reg [⟨some 4, none, (.op (.mv (.c (.p (.bool false)))))⟩])
  .ret) .skip)))
  (.reg [⟨some 101, none, (.op (.mv (.t 11)))⟩,
    ⟨some 102, none, (.op (.bin .add (.t 101) (.c (.p (.int .i64 1)))))⟩,
    ⟨some 11, none, (.op (.mv (.t 102)))⟩]))))))
  (.seq (.reg [⟨some 4, none, (.op (.mv (.c (.p (.bool true)))))⟩])
  .ret)))))))))))⟩
def A_law06_CountsLines : Nat → Ty := tyAt [.un, .un, .un, .un, .un, .un, .un, .un, .un]
abbrev P_law06_CountsLines : List PSh := [.agg (.pr (.int .i64) (.pr (.int .i64) (.pr (.pr (.int .i64) (.pr (.int .i64) (.int .i64))) (.pr (.pr (.int .i64) (.pr (.int .i64) (.int .i64))) (.pr (.int .i64) (.pr (.int .i64) (.pr (.pr (.int .i64) (.pr (.int .i64) (.int .i64))) (.pr (.pr (.pr (.int .i64) (.pr (.int .i64) (.int .i64))) (.pr (.pr (.int .i64) (.pr (.int .i64) (.int .i64))) (.pr (.int .i64) (.pr (.int .i64) (.int .i64))))) (.sl (.pr (.int .i64) (.int .i64))))))))))), .one (.sl (.pr (.pr (.int .i64) (.pr (.int .i64) (.int .i64))) (.pr (.int .i64) (.pr (.int .i64) (.pr (.int .i64) (.int .i64))))))]
abbrev R_law06_CountsLines : List PSh := [.one .bool]
theorem e_law06_CountsLines : cFn Try.prog 5 = some F_law06_CountsLines.erase := by kernel_rfl
theorem k_law06_CountsLines : callable Try.prog 5 = true := by kernel_rfl
/-- cloverleaf/cloverleaflaw06.awake -/
def F_law06_awake : TFn := ⟨91, 17, [.tmp 0],
  (.seq (.reg [⟨some 0, none, (.op (.mv (.c (.p (.bool false)))))⟩])
  (.seq (.reg [⟨some 12, none, (.call 0 72 [])⟩,
    ⟨some 13, none, (.call 1 73 [])⟩,
    ⟨some 14, none, (.call 2 35 [(.t 12), (.t 13)])⟩,
    ⟨some 11, none, (.op (.mv (.t 14)))⟩,
    ⟨some 15, none, (.op (.ext 0 (.t 11)))⟩,
    ⟨some 16, none, (.op (.ext 1 (.t 11)))⟩,
    ⟨some 1, none, (.op (.newz 3 [(.p (.int .i64 0)), (.p (.int .i64 0)), (.p (.int .i64 0)), (.p (.int .i64 0)), (.p (.int .i64 0)), (.p (.int .i64 0))]))⟩,
    ⟨none, none, (.op (.st 6 (.t 1) (.t 15)))⟩,
    ⟨some 2, none, (.op (.mv (.t 16)))⟩])
  (.seq (.reg [⟨some 18, none, (.call 4 72 [])⟩,
    ⟨some 19, none, (.call 5 41 [(.t 18)])⟩,
    ⟨some 17, none, (.op (.mv (.t 19)))⟩,
    ⟨some 20, none, (.op (.ext 0 (.t 17)))⟩,
    ⟨some 21, none, (.op (.ext 1 (.t 17)))⟩,
    ⟨some 3, none, (.op (.newz 6 [(.p (.int .i64 0)), (.p (.int .i64 0)), (.p (.int .i64 0)), (.p (.int .i64 0)), (.p (.int .i64 0)), (.p (.int .i64 0)), (.p (.int .i64 0)), (.p (.int .i64 0)), (.p (.int .i64 0)), (.p (.int .i64 0))]))⟩,
    ⟨none, none, (.op (.st 10 (.t 3) (.t 20)))⟩,
    ⟨some 4, none, (.op (.mv (.t 21)))⟩])
  (.seq (.reg [⟨some 23, none, (.call 7 72 [])⟩,
    ⟨some 24, none, (.call 8 73 [])⟩,
    ⟨some 25, none, (.call 9 45 [(.t 23), (.t 24)])⟩,
    ⟨some 22, none, (.op (.mv (.t 25)))⟩,
    ⟨some 26, none, (.op (.ext 0 (.t 22)))⟩,
    ⟨some 27, none, (.op (.ext 1 (.t 22)))⟩,
    ⟨some 5, none, (.op (.newz 10 [(.p (.int .i64 0)), (.p (.int .i64 0)), (.p (.int .i64 0)), (.p (.int .i64 0)), (.p (.int .i64 0)), (.p (.int .i64 0))]))⟩,
    ⟨none, none, (.op (.st 6 (.t 5) (.t 26)))⟩,
    ⟨some 6, none, (.op (.mv (.t 27)))⟩])
  (.seq (.reg [⟨some 29, none, (.op (.build [(.p (.int .i64 0)), (.p (.int .i64 0))] [(0, 1, (.c (.p (.int .i64 87003)))), (1, 1, (.c (.p (.int .i64 87007))))]))⟩,
    ⟨some 30, none, (.call 11 21 [(.t 29), (.c (.p (.int .i64 104000290))), (.c (.p (.int .i64 2)))])⟩,
    ⟨some 28, none, (.op (.mv (.t 30)))⟩,
    ⟨some 31, none, (.op (.ext 0 (.t 28)))⟩,
    ⟨some 32, none, (.op (.ext 1 (.t 28)))⟩,
    ⟨some 7, none, (.op (.newz 12 [(.p (.int .i64 0)), (.p (.int .i64 0))]))⟩,
    ⟨none, none, (.op (.st 2 (.t 7) (.t 31)))⟩,
    ⟨some 8, none, (.op (.mv (.t 32)))⟩])
  (.seq (.reg [⟨some 34, none, (.op (.bsl false 13 1 6 [(.p (.int .i64 0)), (.p (.int .i64 0)), (.p (.int .i64 0)), (.p (.int .i64 0)), (.p (.int .i64 0)), (.p (.int .i64 0))] [(0, 1, (.c (.p (.int .i64 1)))), (1, 1, (.c (.p (.int .i64 5)))), (2, 1, (.c (.p (.int .i64 2)))), (3, 1, (.c (.p (.int .i64 0)))), (4, 1, (.c (.p (.int .i64 3)))), (5, 1, (.c (.p (.int .i64 7))))]))⟩,
    ⟨some 35, none, (.call 14 52 [(.t 34), (.c (.p (.int .i64 (-2))))])⟩,
    ⟨some 33, none, (.op (.mv (.t 35)))⟩,
    ⟨some 36, none, (.op (.ext 0 (.t 33)))⟩,
    ⟨some 37, none, (.op (.ext 1 (.t 33)))⟩,
    ⟨some 9, none, (.op (.mv (.t 36)))⟩,
    ⟨some 10, none, (.op (.mv (.t 37)))⟩])
  (.seq (.reg [⟨some 38, none, (.op (.mv (.t 2)))⟩,
    ⟨some 39, none, (.op (.bin .eql (.t 38) (.c (.p (.int .i64 0)))))⟩,
    ⟨some 40, none, (.op (.mv (.t 39)))⟩,
    ⟨some 41, some (some 40, true), (.op (.ldn 6 (.t 1)))⟩,
    ⟨some 42, some (some 40, true), (.op (.build [(.p (.int .i64 0)), (.p (.int .i64 0))] [(0, 1, (.c (.p (.int .i64 136535)))), (1, 1, (.c (.p (.int .i64 136537))))]))⟩,
    ⟨some 43, some (some 40, true), (.op (.build [(.p (.int .i64 0)), (.p (.int .i64 0))] [(0, 1, (.c (.p (.int .i64 61785)))), (1, 1, (.c (.p (.int .i64 61787))))]))⟩,
    ⟨some 44, some (some 40, true), (.op (.build [(.p (.int .i64 0)), (.p (.int .i64 0))] [(0, 1, (.c (.p (.int .i64 53877)))), (1, 1, (.c (.p (.int .i64 53879))))]))⟩,
    ⟨some 45, some (some 40, true), (.op (.build [(.p (.int .i64 0)), (.p (.int .i64 0)), (.p (.int .i64 0)), (.p (.int .i64 0)), (.p (.int .i64 0)), (.p (.int .i64 0))] [(0, 2, (.t 42)), (2, 2, (.t 43)), (4, 2, (.t 44))]))⟩,
    ⟨some 46, some (some 40, true), (.op (.eqa false 6 [(true, 0), (true, 1), (true, 2), (true, 3), (true, 4), (true, 5)] (.t 41) (.t 45)))⟩,
    ⟨some 47, none, (.op (.pick (.t 40) (.t 46) (.c (.p (.bool false)))))⟩,
    ⟨some 48, none, (.op (.mv (.t 47)))⟩,
    ⟨some 49, some (some 48, true), (.op (.mv (.t 4)))⟩,
    ⟨some 50, some (some 48, true), (.op (.bin .eql (.t 49) (.c (.p (.int .i64 0)))))⟩,
    ⟨some 51, none, (.op (.pick (.t 48) (.t 50) (.c (.p (.bool false)))))⟩,
    ⟨some 52, none, (.op (.mv (.t 51)))⟩,
    ⟨some 53, some (some 52, true), (.op (.ldn 10 (.t 3)))⟩,
    ⟨some 54, some (some 52, true), (.op (.build [(.p (.int .i64 0)), (.p (.int .i64 0)), (.p (.int .i64 0))] [(0, 1, (.c (.p (.int .i64 47)))), (1, 1, (.c (.p (.int .i64 (-13))))), (2, 1, (.c (.p (.int .i64 (-3)))))]))⟩,
    ⟨some 55, some (some 52, true), (.op (.build [(.p (.int .i64 0)), (.p (.int .i64 0)), (.p (.int .i64 0))] [(0, 1, (.c (.p (.int .i64 0)))), (1, 1, (.c (.p (.int .i64 70)))), (2, 1, (.c (.p (.int .i64 (-20)))))]))⟩,
    ⟨some 56, some (some 52, true), (.op (.build [(.p (.int .i64 0)), (.p (.int .i64 0)), (.p (.int .i64 0))] [(0, 1, (.c (.p (.int .i64 0)))), (1, 1, (.c (.p (.int .i64 (-10))))), (2, 1, (.c (.p (.int .i64 70))))]))⟩,
    ⟨some 57, some (some 52, true), (.op (.build [(.p (.int .i64 0)), (.p (.int .i64 0)), (.p (.int .i64 0)), (.p (.int .i64 0)), (.p (.int .i64 0)), (.p (.int .i64 0)), (.p (.int .i64 0)), (.p (.int .i64 0)), (.p (.int .i64 0))] [(0, 3, (.t 54)), (3, 3, (.t 55)), (6, 3, (.t 56))]))⟩,
    ⟨some 58, some (some 52, true), (.op (.build [(.p (.int .i64 0)), (.p (.int .i64 0)), (.p (.int .i64 0)), (.p (.int .i64 0)), (.p (.int .i64 0)), (.p (.int .i64 0)), (.p (.int .i64 0)), (.p (.int .i64 0)), (.p (.int .i64 0)), (.p (.int .i64 0))] [(0, 9, (.t 57)), (9, 1, (.c (.p (.int .i64 47))))]))⟩,
    ⟨some 59, some (some 52, true), (.op (.eqa false 10 [(true, 0), (true, 1), (true, 2), (true, 3), (true, 4), (true, 5), (true, 6), (true, 7), (true, 8), (true, 9)] (.t 53) (.t 58)))⟩,
    ⟨some 60, none, (.op (.pick (.t 52) (.t 59) (.c (.p (.bool false)))))⟩,
    ⟨some 61, none, (.op (.mv (.t 60)))⟩,
    ⟨some 62, some (some 61, true), (.op (.mv (.t 6)))⟩,
    ⟨some 63, some (some 61, true), (.op (.bin .eql (.t 62) (.c (.p (.int .i64 0)))))⟩,
    ⟨some 64, none, (.op (.pick (.t 61) (.t 63) (.c (.p (.bool false)))))⟩,
    ⟨some 65, none, (.op (.mv (.t 64)))⟩,
    ⟨some 66, some (some 65, true), (.op (.ldn 6 (.t 5)))⟩,
    ⟨some 67, some (some 65, true), (.op (.build [(.p (.int .i64 0)), (.p (.int .i64 0))] [(0, 1, (.c (.p (.int .i64 87003)))), (1, 1, (.c (.p (.int .i64 87007))))]))⟩,
    ⟨some 68, some (some 65, true), (.op (.build [(.p (.int .i64 0)), (.p (.int .i64 0))] [(0, 1, (.c (.p (.int .i64 51819)))), (1, 1, (.c (.p (.int .i64 51823))))]))⟩,
    ⟨some 69, some (some 65, true), (.op (.build [(.p (.int .i64 0)), (.p (.int .i64 0))] [(0, 1, (.c (.p (.int .i64 50322)))), (1, 1, (.c (.p (.int .i64 50325))))]))⟩,
    ⟨some 70, some (some 65, true), (.op (.build [(.p (.int .i64 0)), (.p (.int .i64 0)), (.p (.int .i64 0)), (.p (.int .i64 0)), (.p (.int .i64 0)), (.p (.int .i64 0))] [(0, 2, (.t 67)), (2, 2, (.t 68)), (4, 2, (.t 69))]))⟩,
    ⟨some 71, some (some 65, true), (.op (.eqa false 6 [(true, 0), (true, 1), (true, 2), (true, 3), (true, 4), (true, 5)] (.t 66) (.t 70)))⟩,
    ⟨some 72, none, (.op (.pick (.t 65) (.t 71) (.c (.p (.bool false)))))⟩,
    ⟨some 73, none, (.op (.mv (.t 72)))⟩,
    ⟨some 74, some (some 73, true), (.op (.mv (.t 8)))⟩,
    ⟨some 75, some (some 73, true), (.op (.bin .eql (.t 74) (.c (.p (.int .i64 0)))))⟩,
    ⟨some 76, none, (.op (.pick (.t 73) (.t 75) (.c (.p (.bool false)))))⟩,
    ⟨some 77, none, (.op (.mv (.t 76)))⟩,
    ⟨some 78, some (some 77, true), (.op (.ldn 2 (.t 7)))⟩,
    ⟨some 79, some (some 77, true), (.op (.build [(.p (.int .i64 0)), (.p (.int .i64 0))] [(0, 1, (.c (.p (.int .i64 66605)))), (1, 1, (.c (.p (.int .i64 107405))))]))⟩,
    ⟨some 80, some (some 77, true), (.op (.eqa false 2 [(true, 0), (true, 1)] (.t 78) (.t 79)))⟩,
    ⟨some 81, none, (.op (.pick (.t 77) (.t 80) (.c (.p (.bool false)))))⟩,
    ⟨some 82, none, (.op (.mv (.t 81)))⟩,
    ⟨some 83, some (some 82, true), (.op (.mv (.t 10)))⟩,
    ⟨some 84, some (some 82, true), (.op (.bin .eql (.t 83) (.c (.p (.int .i64 0)))))⟩,
    ⟨some 85, none, (.op (.pick (.t 82) (.t 84) (.c (.p (.bool false)))))⟩,
    ⟨some 86, none, (.op (.mv (.t 85)))⟩,
    ⟨some 87, some (some 86, true), (.op (.mv (.t 9)))⟩,
    ⟨some 88, some (some 86, true), (.op (.bsl false 15 1 6 [(.p (.int .i64 0)), (.p (.int .i64 0)), (.p (.int .i64 0)), (.p (.int .i64 0)), (.p (.int .i64 0)), (.p (.int .i64 0))] [(0, 1, (.c (.p (.int .i64 8)))), (1, 1, (.c (.p (.int .i64 0)))), (2, 1, (.c (.p (.int .i64 3)))), (3, 1, (.c (.p (.int .i64 7)))), (4, 1, (.c (.p (.int .i64 0)))), (5, 1, (.c (.p (.int .i64 0))))]))⟩,
    ⟨some 89, some (some 86, true), (.call 16 53 [(.t 87), (.t 88)])⟩,
    ⟨some 90, none, (.op (.pick (.t 86) (.t 89) (.c (.p (.bool false)))))⟩,
    ⟨some 0, none, (.op (.mv (.t 90)))⟩])
  .ret)))))))⟩
def A_law06_awake : Nat → Ty := tyAt [.un, .un, .un, .un, .un, .un, .un, .un, .un, .un, .un, .un, .un, (.int .i64), .un, (.int .i64), .un]
abbrev P_law06_awake : List PSh := []
abbrev R_law06_awake : List PSh := [.one .bool]
theorem e_law06_awake : cFn Try.prog 14 = some F_law06_awake.erase := by kernel_rfl
theorem k_law06_awake : callable Try.prog 14 = true := by kernel_rfl
/-- cloverleaf/cloverleaflaw06.fewKnots -/
def F_law06_fewKnots : TFn := ⟨7, 1, [.tmp 2],
  (.seq (.reg [⟨some 1, none, (.op (.box 0 (.t 0)))⟩,
    ⟨some 2, none, (.op (.mv (.c (.p (.bool false)))))⟩])
  (.seq (.reg [⟨some 3, none, (.op (.fa 22 (.t 1)))⟩,
    ⟨some 4, none, (.op (.ld1 (.t 3)))⟩,
    ⟨some 5, none, (.op (.len false (.t 4)))⟩,
    ⟨some 6, none, (.op (.bin .leq (.t 5) (.c (.p (.int .i64 10)))))⟩,
    ⟨some 2, none, (.op (.mv (.t 6)))⟩])
  .ret))⟩
def A_law06_fewKnots : Nat → Ty := tyAt [.un]
abbrev P_law06_fewKnots : List PSh := [.agg (.pr (.int .i64) (.pr (.int .i64) (.pr (.pr (.int .i64) (.pr (.int .i64) (.int .i64))) (.pr (.pr (.int .i64) (.pr (.int .i64) (.int .i64))) (.pr (.int .i64) (.pr (.int .i64) (.pr (.pr (.int .i64) (.pr (.int .i64) (.int .i64))) (.pr (.pr (.pr (.int .i64) (.pr (.int .i64) (.int .i64))) (.pr (.pr (.int .i64) (.pr (.int .i64) (.int .i64))) (.pr (.int .i64) (.pr (.int .i64) (.int .i64))))) (.sl (.pr (.int .i64) (.int .i64)))))))))))]
abbrev R_law06_fewKnots : List PSh := [.one .bool]
theorem e_law06_fewKnots : cFn Try.prog 15 = some F_law06_fewKnots.erase := by kernel_rfl
theorem k_law06_fewKnots : callable Try.prog 15 = true := by kernel_rfl
/-- cloverleaf/cloverleafref06.CopyRules -/
def F_ref06_CopyRules : TFn := ⟨9, 4, [.celln 2 23],
  (.seq (.reg [⟨some 1, none, (.op (.box 0 (.t 0)))⟩,
    ⟨some 2, none, (.op (.newz 1 [(.p (.int .i64 0)), (.p (.int .i64 0)), (.p (.int .i64 0)), (.p (.int .i64 0)), (.p (.int .i64 0)), (.p (.int .i64 0)), (.p (.int .i64 0)), (.p (.int .i64 0)), (.p (.int .i64 0)), (.p (.int .i64 0)), (.p (.int .i64 0)), (.p (.int .i64 0)), (.p (.int .i64 0)), (.p (.int .i64 0)), (.p (.int .i64 0)), (.p (.int .i64 0)), (.p (.int .i64 0)), (.p (.int .i64 0)), (.p (.int .i64 0)), (.p (.int .i64 0)), (.p (.int .i64 0)), (.p (.int .i64 0)), (.p (.sl 0 [] true))]))⟩])
  (.seq (.reg [⟨some 3, none, (.op (.bsl true 2 2 0 [] []))⟩,
    ⟨some 4, none, (.op (.fa 22 (.t 1)))⟩,
    ⟨some 5, none, (.op (.ld1 (.t 4)))⟩,
    ⟨some 6, none, (.op (.app 3 2 16 (.t 3) (.t 5)))⟩,
    ⟨some 7, none, (.op (.fa 22 (.t 1)))⟩,
    ⟨none, none, (.op (.st 1 (.t 7) (.t 6)))⟩])
  (.seq (.reg [⟨some 8, none, (.op (.ldn 23 (.t 1)))⟩,
    ⟨none, none, (.op (.st 23 (.t 2) (.t 8)))⟩])
  .ret)))⟩
def A_ref06_CopyRules : Nat → Ty := tyAt [.un, .un, (.pr (.int .i64) (.int .i64)), (.pr (.int .i64) (.int .i64))]
abbrev P_ref06_CopyRules : List PSh := [.agg (.pr (.int .i64) (.pr (.int .i64) (.pr (.pr (.int .i64) (.pr (.int .i64) (.int .i64))) (.pr (.pr (.int .i64) (.pr (.int .i64) (.int .i64))) (.pr (.int .i64) (.pr (.int .i64) (.pr (.pr (.int .i64) (.pr (.int .i64) (.int .i64))) (.pr (.pr (.pr (.int .i64) (.pr (.int .i64) (.int .i64))) (.pr (.pr (.int .i64) (.pr (.int .i64) (.int .i64))) (.pr (.int .i64) (.pr (.int .i64) (.int .i64))))) (.sl (.pr (.int .i64) (.int .i64)))))))))))]
abbrev R_ref06_CopyRules : List PSh := [.agg (.pr (.int .i64) (.pr (.int .i64) (.pr (.pr (.int .i64) (.pr (.int .i64) (.int .i64))) (.pr (.pr (.int .i64) (.pr (.int .i64) (.int .i64))) (.pr (.int .i64) (.pr (.int .i64) (.pr (.pr (.int .i64) (.pr (.int .i64) (.int .i64))) (.pr (.pr (.pr (.int .i64) (.pr (.int .i64) (.int .i64))) (.pr (.pr (.int .i64) (.pr (.int .i64) (.int .i64))) (.pr (.int .i64) (.pr (.int .i64) (.int .i64))))) (.sl (.pr (.int .i64) (.int .i64)))))))))))]
theorem e_ref06_CopyRules : cFn Try.prog 17 = some F_ref06_CopyRules.erase := by kernel_rfl
theorem k_ref06_CopyRules : callable Try.prog 17 = true := by kernel_rfl
/-- cloverleaf/counts.CheckRules -/
def F_counts_CheckRules : TFn := ⟨125, 20, [.tmp 2, .tmp 3],
  (.seq (.reg [⟨some 1, none, (.op (.box 0 (.t 0)))⟩,
    ⟨some 2, none, (.op (.mv (.c (.p (.int .i64 0)))))⟩,
    ⟨some 3, none, (.op (.mv (.c (.p (.int .i64 0)))))⟩])
  (.seq (.seq (.reg [⟨some 14, none, (.op (.fa 0 (.t 1)))⟩,
    ⟨some 15, none, (.op (.ld1 (.t 14)))⟩,
    ⟨some 16, none, (.call 1 74 [(.t 15), (.c (.p (.int .i64 1))), (.c (.p (.int .i64 1000000)))])⟩,
    ⟨some 17, none, (.op (.unot (.t 16)))⟩,
    ⟨some 18, none, (.op (.mv (.t 17)))⟩,
    ⟨some 19, some (some 18, false), (.op (.fa 1 (.t 1)))⟩,
    ⟨some 20, some (some 18, false), (.op (.ld1 (.t 19)))⟩,
    ⟨some 21, some (some 18, false), (.call 2 74 [(.t 20), (.c (.p (.int .i64 0))), (.c (.p (.int .i64 100)))])⟩,
    ⟨some 22, some (some 18, false), (.op (.unot (.t 21)))⟩,
    ⟨some 23, none, (.op (.pick (.t 18) (.c (.p (.bool true))) (.t 22)))⟩])
  (.cond (.t 23) (.seq (.reg [⟨some 2, none, (.op (.mv (.c (.p (.int .i64 0)))))⟩,
    ⟨some 3, none, (.op (.mv (.c (.p (.int .i64 2)))))⟩])
  .ret) .skip))
  (.seq (.seq (.reg [⟨some 24, none, (.op (.mv (.c (.p (.int .i64 0)))))⟩])
  (.block 0 (.loop [.v 24 (.int .i64)] [] [] (.seq (.reg [⟨some 25, none, (.op (.bin .lss (.t 24) (.c (.p (.int .i64 3)))))⟩])
  (.seq (.cond (.t 25) .skip (.exit 0))
  (.seq (.block 1 (.seq (.reg [⟨some 26, none, (.op (.mv (.t 24)))⟩,
    ⟨some 4, none, (.op (.mv (.t 26)))⟩])
  (.seq (.reg [⟨some 27, none, (.op (.mv (.t 4)))⟩,
    ⟨some 28, none, (.op (.fa 2 (.t 1)))⟩,
    ⟨some 29, none, (.op (.iaa 1 3 (.t 28) (.t 27)))⟩,
    ⟨some 30, none, (.op (.ld1 (.t 29)))⟩,
    ⟨some 31, none, (.call 3 74 [(.t 30), (.c (.p (.int .i64 0))), (.c (.p (.int .i64 1000000)))])⟩,
    ⟨some 32, none, (.op (.unot (.t 31)))⟩,
    ⟨some 33, none, (.op (.mv (.t 32)))⟩,
    ⟨some 34, some (some 33, false), (.op (.mv (.t 4)))⟩,
    ⟨some 35, some (some 33, false), (.op (.fa 5 (.t 1)))⟩,
    ⟨some 36, some (some 33, false), (.op (.iaa 1 3 (.t 35) (.t 34)))⟩,
    ⟨some 37, some (some 33, false), (.op (.ld1 (.t 36)))⟩,
    ⟨some 38, some (some 33, false), (.call 4 74 [(.t 37), (.c (.p (.int .i64 0))), (.c (.p (.int .i64 1000)))])⟩,
    ⟨some 39, some (some 33, false), (.op (.unot (.t 38)))⟩,
    ⟨some 40, none, (.op (.pick (.t 33) (.c (.p (.bool true))) (.t 39)))⟩])
  (.cond (.t 40) (.seq (.reg [⟨some 41, none, (.op (.mv (.t 4)))⟩,
    ⟨some 2, none, (.op (.mv (.t 41)))⟩,
    ⟨some 3, none, (.op (.mv (.c (.p (.int .i64 2)))))⟩])
  .ret) .skip))))
  (.reg [⟨some 42, none, (.op (.bin .add (.t 24) (.c (.p (.int .i64 1)))))⟩,
    ⟨some 24, none, (.op (.mv (.t 42)))⟩])))))))
  (.seq (.seq (.reg [⟨some 43, none, (.op (.fa 8 (.t 1)))⟩,
    ⟨some 44, none, (.op (.ld1 (.t 43)))⟩,
    ⟨some 45, none, (.call 5 74 [(.t 44), (.c (.p (.int .i64 0))), (.c (.p (.int .i64 200)))])⟩,
    ⟨some 46, none, (.op (.unot (.t 45)))⟩,
    ⟨some 47, none, (.op (.mv (.t 46)))⟩,
    ⟨some 48, some (some 47, false), (.op (.fa 9 (.t 1)))⟩,
    ⟨some 49, some (some 47, false), (.op (.ld1 (.t 48)))⟩,
    ⟨some 50, some (some 47, false), (.op (.fa 8 (.t 1)))⟩,
    ⟨some 51, some (some 47, false), (.op (.ld1 (.t 50)))⟩,
    ⟨some 52, some (some 47, false), (.op (.bin .add (.t 51) (.c (.p (.int .i64 200)))))⟩,
    ⟨some 53, some (some 47, false), (.call 6 74 [(.t 49), (.t 52), (.c (.p (.int .i64 1000)))])⟩,
    ⟨some 54, some (some 47, false), (.op (.unot (.t 53)))⟩,
    ⟨some 55, none, (.op (.pick (.t 47) (.c (.p (.bool true))) (.t 54)))⟩])
  (.cond (.t 55) (.seq (.reg [⟨some 2, none, (.op (.mv (.c (.p (.int .i64 0)))))⟩,
    ⟨some 3, none, (.op (.mv (.c (.p (.int .i64 2)))))⟩])
  .ret) .skip))
  (.seq (.seq (.reg [⟨some 56, none, (.op (.fa 10 (.t 1)))⟩,
    ⟨some 57, none, (.op (.ldn 3 (.t 56)))⟩,
    ⟨some 58, none, (.call 7 75 [(.t 57), (.c (.p (.int .i64 1000)))])⟩,
    ⟨some 5, none, (.op (.mv (.t 58)))⟩])
  (.seq (.reg [⟨some 59, none, (.op (.mv (.t 5)))⟩,
    ⟨some 60, none, (.op (.bin .geq (.t 59) (.c (.p (.int .i64 0)))))⟩])
  (.cond (.t 60) (.seq (.reg [⟨some 61, none, (.op (.mv (.t 5)))⟩,
    ⟨some 2, none, (.op (.mv (.t 61)))⟩,
    ⟨some 3, none, (.op (.mv (.c (.p (.int .i64 2)))))⟩])
  .ret) .skip)))
  (.seq (.seq (.reg [⟨some 62, none, (.op (.fa 10 (.t 1)))⟩,
    ⟨some 63, none, (.op (.iaa 1 3 (.t 62) (.c (.p (.int .i64 1)))))⟩,
    ⟨some 64, none, (.op (.ld1 (.t 63)))⟩,
    ⟨some 65, none, (.op (.bin .neq (.t 64) (.c (.p (.int .i64 1000)))))⟩])
  (.cond (.t 65) (.seq (.reg [⟨some 2, none, (.op (.mv (.c (.p (.int .i64 1)))))⟩,
    ⟨some 3, none, (.op (.mv (.c (.p (.int .i64 3)))))⟩])
  .ret) .skip))
  (.seq (.seq (.reg [⟨some 66, none, (.op (.mv (.c (.p (.int .i64 0)))))⟩])
  (.block 2 (.loop [.v 66 (.int .i64)] [] [] (.seq (.reg [⟨some 67, none, (.op (.bin .lss (.t 66) (.c (.p (.int .i64 3)))))⟩])
  (.seq (.cond (.t 67) .skip (.exit 2))
  (.seq (.block 3 (.seq (.reg [⟨some 68, none, (.op (.mv (.t 66)))⟩,
    ⟨some 6, none, (.op (.mv (.t 68)))⟩])
  (.seq (.reg [⟨some 69, none, (.op (.fa 13 (.t 1)))⟩,
    ⟨some 70, none, (.op (.ldn 9 (.t 69)))⟩,
    ⟨some 71, none, (.op (.mv (.t 6)))⟩,
    ⟨some 72, none, (.call 8 76 [(.t 70), (.t 71)])⟩,
    ⟨some 7, none, (.op (.mv (.t 72)))⟩])
  (.seq (.reg [⟨some 73, none, (.op (.mv (.t 7)))⟩,
    ⟨some 74, none, (.op (.bin .neq (.t 73) (.c (.p (.int .i64 0)))))⟩])
  (.cond (.t 74) (.seq (.reg [⟨some 75, none, (.op (.mv (.t 6)))⟩,
    ⟨some 76, none, (.op (.mv (.t 7)))⟩,
    ⟨some 2, none, (.op (.mv (.t 75)))⟩,
    ⟨some 3, none, (.op (.mv (.t 76)))⟩])
  .ret) .skip)))))
  (.reg [⟨some 77, none, (.op (.bin .add (.t 66) (.c (.p (.int .i64 1)))))⟩,
    ⟨some 66, none, (.op (.mv (.t 77)))⟩])))))))
  (.seq (.seq (.regd [⟨some 78, none, (.op (.fa 22 (.t 1)))⟩,
    ⟨some 79, none, (.op (.ld1 (.t 78)))⟩,
    ⟨some 80, none, (.op (.len false (.t 79)))⟩,
    ⟨some 81, none, (.op (.bin .geq (.t 80) (.c (.p (.int .i64 2)))))⟩,
    ⟨some 82, none, (.call 9 78 [(.t 81), (.c (.p (.int .i64 10)))])⟩,
    ⟨some 83, none, (.op (.fa 22 (.t 1)))⟩,
    ⟨some 84, none, (.op (.ld1 (.t 83)))⟩,
    ⟨some 85, none, (.op (.len false (.t 84)))⟩,
    ⟨some 86, none, (.op (.bin .leq (.t 85) (.c (.p (.int .i64 8)))))⟩,
    ⟨some 87, none, (.call 10 78 [(.t 86), (.c (.p (.int .i64 8)))])⟩,
    ⟨some 88, none, (.op (.bsl false 11 1 2 [(.p (.int .i64 0)), (.p (.int .i64 0))] [(0, 1, (.t 82)), (1, 1, (.t 87))]))⟩,
    ⟨some 89, none, (.call 12 77 [(.t 88)])⟩,
    ⟨some 8, none, (.op (.mv (.t 89)))⟩] [(1, 6), (4, 6)] [])
  (.seq (.reg [⟨some 90, none, (.op (.mv (.t 8)))⟩,
    ⟨some 91, none, (.op (.bin .neq (.t 90) (.c (.p (.int .i64 0)))))⟩])
  (.cond (.t 91) (.seq (.reg [⟨some 92, none, (.op (.mv (.t 8)))⟩,
    ⟨some 2, none, (.op (.mv (.c (.p (.int .i64 0)))))⟩,
    ⟨some 3, none, (.op (.mv (.t 92)))⟩])
  .ret) .skip)))
  (.seq (.reg [⟨some 9, none, (.op (.mv (.c (.p (.int .i64 (-1))))))⟩])
  (.seq (.seq (.reg [⟨some 93, none, (.op (.fa 22 (.t 1)))⟩,
    ⟨some 94, none, (.op (.ld1 (.t 93)))⟩,
    ⟨some 95, none, (.op (.len false (.t 94)))⟩,
    ⟨some 96, none, (.op (.mv (.c (.p (.int .i64 0)))))⟩])
  (.block 4 (.loop [.v 96 (.int .i64), .v 9 (.int .i64)] [13] [13] (.seq (.reg [⟨some 97, none, (.op (.bin .lss (.t 96) (.t 95)))⟩])
  (.seq (.cond (.t 97) .skip (.exit 4))
  (.seq (.block 5 (.seq (.reg [⟨some 98, none, (.op (.mv (.t 96)))⟩,
    ⟨some 99, none, (.op (.ia 2 (.t 94) (.t 96)))⟩,
    ⟨some 100, none, (.op (.ldn 2 (.t 99)))⟩,
    ⟨some 11, none, (.op (.newz 13 [(.p (.int .i64 0)), (.p (.int .i64 0))]))⟩,
    ⟨some 10, none, (.op (.mv (.t 98)))⟩,
    ⟨none, none, (.op (.st 2 (.t 11) (.t 100)))⟩])
  (.seq (.reg [⟨some 101, none, (.op (.fa 0 (.t 11)))⟩,
    ⟨some 102, none, (.op (.ld1 (.t 101)))⟩,
    ⟨some 103, none, (.call 14 74 [(.t 102), (.c (.p (.int .i64 0))), (.c (.p (.int .i64 1000)))])⟩,
    ⟨some 104, none, (.op (.mv (.t 103)))⟩,
    ⟨some 105, some (some 104, true), (.op (.fa 1 (.t 11)))⟩,
    ⟨some 106, some (some 104, true), (.op (.ld1 (.t 105)))⟩,
    ⟨some 107, some (some 104, true), (.call 15 74 [(.t 106), (.c (.p (.int .i64 1))), (.c (.p (.int .i64 10000)))])⟩,
    ⟨some 108, none, (.op (.pick (.t 104) (.t 107) (.c (.p (.bool false)))))⟩,
    ⟨some 12, none, (.op (.mv (.t 108)))⟩])
  (.seq (.seq (.regd [⟨some 109, none, (.op (.mv (.t 12)))⟩,
    ⟨some 110, none, (.call 16 78 [(.t 109), (.c (.p (.int .i64 2)))])⟩,
    ⟨some 111, none, (.op (.fa 0 (.t 11)))⟩,
    ⟨some 112, none, (.op (.ld1 (.t 111)))⟩,
    ⟨some 113, none, (.op (.mv (.t 9)))⟩,
    ⟨some 114, none, (.op (.bin .gtr (.t 112) (.t 113)))⟩,
    ⟨some 115, none, (.call 17 78 [(.t 114), (.c (.p (.int .i64 9)))])⟩,
    ⟨some 116, none, (.op (.bsl false 18 1 2 [(.p (.int .i64 0)), (.p (.int .i64 0))] [(0, 1, (.t 110)), (1, 1, (.t 115))]))⟩,
    ⟨some 117, none, (.call 19 77 [(.t 116)])⟩,
    ⟨some 13, none, (.op (.mv (.t 117)))⟩] [(1, 3)] [])
  (.seq (.reg [⟨some 118, none, (.op (.mv (.t 13)))⟩,
    ⟨some 119, none, (.op (.bin .neq (.t 118) (.c (.p (.int .i64 0)))))⟩])
  (.cond (.t 119) (.seq (.reg [⟨some 120, none, (.op (.mv (.t 10)))⟩,
    ⟨some 121, none, (.op (.mv (.t 13)))⟩,
    ⟨some 2, none, (.op (.mv (.t 120)))⟩,
    ⟨some 3, none, (.op (.mv (.t 121)))⟩])
  .ret) .skip)))
  (.reg [⟨some 122, none, (.op (.fa 0 (.t 11)))⟩,
    ⟨some 123, none, (.op (.ld1 (.t 122)))⟩,
    ⟨some 9, none, (.op (.mv (.t 123)))⟩])))))
  (.reg [⟨some 124, none, (.op (.bin .add (.t 96) (.c (.p (.int .i64 1)))))⟩,
    ⟨some 96, none, (.op (.mv (.t 124)))⟩])))))))
  (.seq (.reg [⟨some 2, none, (.op (.mv (.c (.p (.int .i64 0)))))⟩,
    ⟨some 3, none, (.op (.mv (.c (.p (.int .i64 0)))))⟩])
  .ret)))))))))))⟩
def A_counts_CheckRules : Nat → Ty := tyAt [.un, .un, .un, .un, .un, .un, .un, .un, .un, .un, .un, (.int .i64), .un, .un, .un, .un, .un, .un, (.int .i64), .un]
abbrev P_counts_CheckRules : List PSh := [.agg (.pr (.int .i64) (.pr (.int .i64) (.pr (.pr (.int .i64) (.pr (.int .i64) (.int .i64))) (.pr (.pr (.int .i64) (.pr (.int .i64) (.int .i64))) (.pr (.int .i64) (.pr (.int .i64) (.pr (.pr (.int .i64) (.pr (.int .i64) (.int .i64))) (.pr (.pr (.pr (.int .i64) (.pr (.int .i64) (.int .i64))) (.pr (.pr (.int .i64) (.pr (.int .i64) (.int .i64))) (.pr (.int .i64) (.pr (.int .i64) (.int .i64))))) (.sl (.pr (.int .i64) (.int .i64)))))))))))]
abbrev R_counts_CheckRules : List PSh := [.one (.int .i64), .one (.int .i64)]
theorem e_counts_CheckRules : cFn Try.prog 16 = some F_counts_CheckRules.erase := by kernel_rfl
theorem k_counts_CheckRules : callable Try.prog 16 = true := by kernel_rfl
/-- cloverleaf/cloverleafref06.CheckRules -/
def F_ref06_CheckRules : TFn := ⟨156, 11, [.tmp 2, .tmp 3],
  (.seq (.reg [⟨some 1, none, (.op (.box 0 (.t 0)))⟩,
    ⟨some 2, none, (.op (.mv (.c (.p (.int .i64 0)))))⟩,
    ⟨some 3, none, (.op (.mv (.c (.p (.int .i64 0)))))⟩])
  (.seq (.seq (.reg [⟨some 10, none, (.op (.fa 0 (.t 1)))⟩,
    ⟨some 11, none, (.op (.ld1 (.t 10)))⟩,
    ⟨some 12, none, (.call 1 40 [(.t 11), (.c (.p (.int .i64 1))), (.c (.p (.int .i64 1000000)))])⟩,
    ⟨some 13, none, (.op (.unot (.t 12)))⟩,
    ⟨some 14, none, (.op (.mv (.t 13)))⟩,
    ⟨some 15, some (some 14, false), (.op (.fa 1 (.t 1)))⟩,
    ⟨some 16, some (some 14, false), (.op (.ld1 (.t 15)))⟩,
    ⟨some 17, some (some 14, false), (.call 2 40 [(.t 16), (.c (.p (.int .i64 0))), (.c (.p (.int .i64 100)))])⟩,
    ⟨some 18, some (some 14, false), (.op (.unot (.t 17)))⟩,
    ⟨some 19, none, (.op (.pick (.t 14) (.c (.p (.bool true))) (.t 18)))⟩])
  (.cond (.t 19) (.seq (.reg [⟨some 2, none, (.op (.mv (.c (.p (.int .i64 0)))))⟩,
    ⟨some 3, none, (.op (.mv (.c (.p (.int .i64 2)))))⟩])
  .ret) .skip))
  (.seq (.seq (.reg [⟨some 4, none, (.op (.mv (.c (.p (.int .i64 0)))))⟩])
  (.block 0 (.loop [.v 4 (.int .i64)] [] [] (.seq (.seq (.reg [⟨some 20, none, (.op (.mv (.t 4)))⟩,
    ⟨some 21, none, (.op (.bin .lss (.t 20) (.c (.p (.int .i64 3)))))⟩])
  (.cond (.t 21) .skip (.exit 0)))
  (.seq (.block 1 (.seq (.reg [⟨some 24, none, (.op (.mv (.t 4)))⟩,
    ⟨some 25, none, (.op (.fa 2 (.t 1)))⟩,
    ⟨some 26, none, (.op (.iaa 1 3 (.t 25) (.t 24)))⟩,
    ⟨some 27, none, (.op (.ld1 (.t 26)))⟩,
    ⟨some 28, none, (.call 3 40 [(.t 27), (.c (.p (.int .i64 0))), (.c (.p (.int .i64 1000000)))])⟩,
    ⟨some 29, none, (.op (.unot (.t 28)))⟩,
    ⟨some 30, none, (.op (.mv (.t 29)))⟩,
    ⟨some 31, some (some 30, false), (.op (.mv (.t 4)))⟩,
    ⟨some 32, some (some 30, false), (.op (.fa 5 (.t 1)))⟩,
    ⟨some 33, some (some 30, false), (.op (.iaa 1 3 (.t 32) (.t 31)))⟩,
    ⟨some 34, some (some 30, false), (.op (.ld1 (.t 33)))⟩,
    ⟨some 35, some (some 30, false), (.call 4 40 [(.t 34), (.c (.p (.int .i64 0))), (.c (.p (.int .i64 1000)))])⟩,
    ⟨some 36, some (some 30, false), (.op (.unot (.t 35)))⟩,
    ⟨some 37, none, (.op (.pick (.t 30) (.c (.p (.bool true))) (.t 36)))⟩])
  (.cond (.t 37) (.seq (.reg [⟨some 38, none, (.op (.mv (.t 4)))⟩,
    ⟨some 2, none, (.op (.mv (.t 38)))⟩,
    ⟨some 3, none, (.op (.mv (.c (.p (.int .i64 2)))))⟩])
  .ret) .skip)))
  (.reg [⟨some 22, none, (.op (.mv (.t 4)))⟩,
    ⟨some 23, none, (.op (.bin .add (.t 22) (.c (.p (.int .i64 1)))))⟩,
    ⟨some 4, none, (.op (.mv (.t 23)))⟩]))))))
  (.seq (.seq (.reg [⟨some 39, none, (.op (.fa 8 (.t 1)))⟩,
    ⟨some 40, none, (.op (.ld1 (.t 39)))⟩,
    ⟨some 41, none, (.call 5 40 [(.t 40), (.c (.p (.int .i64 0))), (.c (.p (.int .i64 200)))])⟩,
    ⟨some 42, none, (.op (.unot (.t 41)))⟩,
    ⟨some 43, none, (.op (.mv (.t 42)))⟩,
    ⟨some 44, some (some 43, false), (.op (.fa 9 (.t 1)))⟩,
    ⟨some 45, some (some 43, false), (.op (.ld1 (.t 44)))⟩,
    ⟨some 46, some (some 43, false), (.op (.fa 8 (.t 1)))⟩,
    ⟨some 47, some (some 43, false), (.op (.ld1 (.t 46)))⟩,
    ⟨some 48, some (some 43, false), (.op (.bin .add (.t 47) (.c (.p (.int .i64 200)))))⟩,
    ⟨some 49, some (some 43, false), (.call 6 40 [(.t 45), (.t 48), (.c (.p (.int .i64 1000)))])⟩,
    ⟨some 50, some (some 43, false), (.op (.unot (.t 49)))⟩,
    ⟨some 51, none, (.op (.pick (.t 43) (.c (.p (.bool true))) (.t 50)))⟩])
  (.cond (.t 51) (.seq (.reg [⟨some 2, none, (.op (.mv (.c (.p (.int .i64 0)))))⟩,
    ⟨some 3, none, (.op (.mv (.c (.p (.int .i64 2)))))⟩])
  .ret) .skip))
  (.seq (.seq (.reg [⟨some 5, none, (.op (.mv (.c (.p (.int .i64 0)))))⟩])
  (.block 2 (.loop [.v 5 (.int .i64)] [] [] (.seq (.seq (.reg [⟨some 52, none, (.op (.mv (.t 5)))⟩,
    ⟨some 53, none, (.op (.bin .lss (.t 52) (.c (.p (.int .i64 3)))))⟩])
  (.cond (.t 53) .skip (.exit 2)))
  (.seq (.block 3 (.seq (.reg [⟨some 56, none, (.op (.mv (.t 5)))⟩,
    ⟨some 57, none, (.op (.fa 10 (.t 1)))⟩,
    ⟨some 58, none, (.op (.iaa 1 3 (.t 57) (.t 56)))⟩,
    ⟨some 59, none, (.op (.ld1 (.t 58)))⟩,
    ⟨some 60, none, (.call 7 40 [(.t 59), (.c (.p (.int .i64 0))), (.c (.p (.int .i64 1000)))])⟩,
    ⟨some 61, none, (.op (.unot (.t 60)))⟩])
  (.cond (.t 61) (.seq (.reg [⟨some 62, none, (.op (.mv (.t 5)))⟩,
    ⟨some 2, none, (.op (.mv (.t 62)))⟩,
    ⟨some 3, none, (.op (.mv (.c (.p (.int .i64 2)))))⟩])
  .ret) .skip)))
  (.reg [⟨some 54, none, (.op (.mv (.t 5)))⟩,
    ⟨some 55, none, (.op (.bin .add (.t 54) (.c (.p (.int .i64 1)))))⟩,
    ⟨some 5, none, (.op (.mv (.t 55)))⟩]))))))
  (.seq (.seq (.reg [⟨some 63, none, (.op (.fa 10 (.t 1)))⟩,
    ⟨some 64, none, (.op (.iaa 1 3 (.t 63) (.c (.p (.int .i64 1)))))⟩,
    ⟨some 65, none, (.op (.ld1 (.t 64)))⟩,
    ⟨some 66, none, (.op (.bin .neq (.t 65) (.c (.p (.int .i64 1000)))))⟩])
  (.cond (.t 66) (.seq (.reg [⟨some 2, none, (.op (.mv (.c (.p (.int .i64 1)))))⟩,
    ⟨some 3, none, (.op (.mv (.c (.p (.int .i64 3)))))⟩])
  .ret) .skip))
  (.seq (.seq (.reg [⟨some 6, none, (.op (.mv (.c (.p (.int .i64 0)))))⟩])
  (.block 4 (.loop [.v 6 (.int .i64)] [] [] (.seq (.seq (.reg [⟨some 67, none, (.op (.mv (.t 6)))⟩,
    ⟨some 68, none, (.op (.bin .lss (.t 67) (.c (.p (.int .i64 3)))))⟩])
  (.cond (.t 68) .skip (.exit 4)))
  (.seq (.block 5 (.seq (.reg [⟨some 7, none, (.op (.mv (.c (.p (.int .i64 0)))))⟩])
  (.seq (.seq (.reg [⟨some 8, none, (.op (.mv (.c (.p (.int .i64 0)))))⟩])
  (.block 6 (.loop [.v 8 (.int .i64), .v 7 (.int .i64)] [] [] (.seq (.seq (.reg [⟨some 71, none, (.op (.mv (.t 8)))⟩,
    ⟨some 72, none, (.op (.bin .lss (.t 71) (.c (.p (.int .i64 3)))))⟩])
  (.cond (.t 72) .skip (.exit 6)))
  (.seq (.block 7 (.seq (.seq (.reg [⟨some 75, none, (.op (.mv (.t 8)))⟩,
    ⟨some 76, none, (.op (.mv (.t 6)))⟩,
    ⟨some 77, none, (.op (.fa 13 (.t 1)))⟩,
    ⟨some 78, none, (.op (.iaa 3 3 (.t 77) (.t 75)))⟩,
    ⟨some 79, none, (.op (.iaa 1 3 (.t 78) (.t 76)))⟩,
    ⟨some 80, none, (.op (.ld1 (.t 79)))⟩,
    ⟨some 81, none, (.call 8 40 [(.t 80), (.c (.p (.int .i64 0))), (.c (.p (.int .i64 1000)))])⟩,
    ⟨some 82, none, (.op (.unot (.t 81)))⟩])
  (.cond (.t 82) (.seq (.reg [⟨some 83, none, (.op (.mv (.t 6)))⟩,
    ⟨some 2, none, (.op (.mv (.t 83)))⟩,
    ⟨some 3, none, (.op (.mv (.c (.p (.int .i64 2)))))⟩])
  .ret) .skip))
  (.reg [⟨some 84, none, (.op (.mv (.t 7)))⟩,
    ⟨some 85, none, (.op (.mv (.t 8)))⟩,
    ⟨some 86, none, (.op (.mv (.t 6)))⟩,
    ⟨some 87, none, (.op (.fa 13 (.t 1)))⟩,
    ⟨some 88, none, (.op (.iaa 3 3 (.t 87) (.t 85)))⟩,
    ⟨some 89, none, (.op (.iaa 1 3 (.t 88) (.t 86)))⟩,
    ⟨some 90, none, (.op (.ld1 (.t 89)))⟩,
    ⟨some 91, none, (.op (.bin .add (.t 84) (.t 90)))⟩,
    ⟨some 7, none, (.op (.mv (.t 91)))⟩])))
  (.reg [⟨some 73, none, (.op (.mv (.t 8)))⟩,
    ⟨some 74, none, (.op (.bin .add (.t 73) (.c (.p (.int .i64 1)))))⟩,
    ⟨some 8, none, (.op (.mv (.t 74)))⟩]))))))
  (.seq (.seq (.reg [⟨some 92, none, (.op (.mv (.t 7)))⟩,
    ⟨some 93, none, (.op (.bin .neq (.t 92) (.c (.p (.int .i64 1000)))))⟩])
  (.cond (.t 93) (.seq (.reg [⟨some 94, none, (.op (.mv (.t 6)))⟩,
    ⟨some 2, none, (.op (.mv (.t 94)))⟩,
    ⟨some 3, none, (.op (.mv (.c (.p (.int .i64 3)))))⟩])
  .ret) .skip))
  (.seq (.reg [⟨some 95, none, (.op (.mv (.t 6)))⟩,
    ⟨some 96, none, (.op (.mv (.t 6)))⟩,
    ⟨some 97, none, (.op (.fa 13 (.t 1)))⟩,
    ⟨some 98, none, (.op (.iaa 3 3 (.t 97) (.t 95)))⟩,
    ⟨some 99, none, (.op (.iaa 1 3 (.t 98) (.t 96)))⟩,
    ⟨some 100, none, (.op (.ld1 (.t 99)))⟩,
    ⟨some 101, none, (.op (.bin .lss (.t 100) (.c (.p (.int .i64 600)))))⟩])
  (.cond (.t 101) (.seq (.reg [⟨some 102, none, (.op (.mv (.t 6)))⟩,
    ⟨some 2, none, (.op (.mv (.t 102)))⟩,
    ⟨some 3, none, (.op (.mv (.c (.p (.int .i64 22)))))⟩])
  .ret) .skip))))))
  (.reg [⟨some 69, none, (.op (.mv (.t 6)))⟩,
    ⟨some 70, none, (.op (.bin .add (.t 69) (.c (.p (.int .i64 1)))))⟩,
    ⟨some 6, none, (.op (.mv (.t 70)))⟩]))))))
  (.seq (.seq (.reg [⟨some 103, none, (.op (.fa 22 (.t 1)))⟩,
    ⟨some 104, none, (.op (.ld1 (.t 103)))⟩,
    ⟨some 105, none, (.op (.len false (.t 104)))⟩,
    ⟨some 106, none, (.op (.bin .lss (.t 105) (.c (.p (.int .i64 2)))))⟩])
  (.cond (.t 106) (.seq (.reg [⟨some 2, none, (.op (.mv (.c (.p (.int .i64 0)))))⟩,
    ⟨some 3, none, (.op (.mv (.c (.p (.int .i64 10)))))⟩])
  .ret) .skip))
  (.seq (.seq (.reg [⟨some 107, none, (.op (.fa 22 (.t 1)))⟩,
    ⟨some 108, none, (.op (.ld1 (.t 107)))⟩,
    ⟨some 109, none, (.op (.len false (.t 108)))⟩,
    ⟨some 110, none, (.op (.bin .gtr (.t 109) (.c (.p (.int .i64 8)))))⟩])
  (.cond (.t 110) (.seq (.reg [⟨some 2, none, (.op (.mv (.c (.p (.int .i64 0)))))⟩,
    ⟨some 3, none, (.op (.mv (.c (.p (.int .i64 8)))))⟩])
  .ret) .skip))
  (.seq (.seq (.reg [⟨some 9, none, (.op (.mv (.c (.p (.int .i64 0)))))⟩])
  (.block 8 (.loop [.v 9 (.int .i64)] [] [] (.seq (.seq (.reg [⟨some 111, none, (.op (.mv (.t 9)))⟩,
    ⟨some 112, none, (.op (.fa 22 (.t 1)))⟩,
    ⟨some 113, none, (.op (.ld1 (.t 112)))⟩,
    ⟨some 114, none, (.op (.len false (.t 113)))⟩,
    ⟨some 115, none, (.op (.bin .lss (.t 111) (.t 114)))⟩])
  (.cond (.t 115) .skip (.exit 8)))
  (.seq (.block 9 (.seq (.seq (.reg [⟨some 118, none, (.op (.fa 22 (.t 1)))⟩,
    ⟨some 119, none, (.op (.ld1 (.t 118)))⟩,
    ⟨some 120, none, (.op (.mv (.t 9)))⟩,
    ⟨some 121, none, (.op (.ia 2 (.t 119) (.t 120)))⟩,
    ⟨some 122, none, (.op (.fa 0 (.t 121)))⟩,
    ⟨some 123, none, (.op (.ld1 (.t 122)))⟩,
    ⟨some 124, none, (.call 9 40 [(.t 123), (.c (.p (.int .i64 0))), (.c (.p (.int .i64 1000)))])⟩,
    ⟨some 125, none, (.op (.unot (.t 124)))⟩,
    ⟨some 126, none, (.op (.mv (.t 125)))⟩,
    ⟨some 127, some (some 126, false), (.op (.fa 22 (.t 1)))⟩,
    ⟨some 128, some (some 126, false), (.op (.ld1 (.t 127)))⟩,
    ⟨some 129, some (some 126, false), (.op (.mv (.t 9)))⟩,
    ⟨some 130, some (some 126, false), (.op (.ia 2 (.t 128) (.t 129)))⟩,
    ⟨some 131, some (some 126, false), (.op (.fa 1 (.t 130)))⟩,
    ⟨some 132, some (some 126, false), (.op (.ld1 (.t 131)))⟩,
    ⟨some 133, some (some 126, false), (.call 10 40 [(.t 132), (.c (.p (.int .i64 1))), (.c (.p (.int .i64 10000)))])⟩,
    ⟨some 134, some (some 126, false), (.op (.unot (.t 133)))⟩,
    ⟨some 135, none, (.op (.pick (.t 126) (.c (.p (.bool true))) (.t 134)))⟩])
  (.cond (.t 135) (.seq (.reg [⟨some 136, none, (.op (.mv (.t 9)))⟩,
    ⟨some 2, none, (.op (.mv (.t 136)))⟩,
    ⟨some 3, none, (.op (.mv (.c (.p (.int .i64 2)))))⟩])
  .ret) .skip))
  (.seq (.regd [⟨some 137, none, (.op (.mv (.t 9)))⟩,
    ⟨some 138, none, (.op (.bin .gtr (.t 137) (.c (.p (.int .i64 0)))))⟩,
    ⟨some 139, none, (.op (.mv (.t 138)))⟩,
    ⟨some 140, some (some 139, true), (.op (.fa 22 (.t 1)))⟩,
    ⟨some 141, some (some 139, true), (.op (.ld1 (.t 140)))⟩,
    ⟨some 142, some (some 139, true), (.op (.mv (.t 9)))⟩,
    ⟨some 143, some (some 139, true), (.op (.ia 2 (.t 141) (.t 142)))⟩,
    ⟨some 144, some (some 139, true), (.op (.fa 0 (.t 143)))⟩,
    ⟨some 145, some (some 139, true), (.op (.ld1 (.t 144)))⟩,
    ⟨some 146, some (some 139, true), (.op (.fa 22 (.t 1)))⟩,
    ⟨some 147, some (some 139, true), (.op (.ld1 (.t 146)))⟩,
    ⟨some 148, some (some 139, true), (.op (.mv (.t 9)))⟩,
    ⟨some 149, some (some 139, true), (.op (.bin .sub (.t 148) (.c (.p (.int .i64 1)))))⟩,
    ⟨some 150, some (some 139, true), (.op (.ia 2 (.t 147) (.t 149)))⟩,
    ⟨some 151, some (some 139, true), (.op (.fa 0 (.t 150)))⟩,
    ⟨some 152, some (some 139, true), (.op (.ld1 (.t 151)))⟩,
    ⟨some 153, some (some 139, true), (.op (.bin .leq (.t 145) (.t 152)))⟩,
    ⟨some 154, none, (.op (.pick (.t 139) (.t 153) (.c (.p (.bool false)))))⟩] [(4, 10), (8, 10), (4, 15), (8, 15)] [])
  (.cond (.t 154) (.seq (.reg [⟨some 155, none, (.op (.mv (.t 9)))⟩,
    ⟨some 2, none, (.op (.mv (.t 155)))⟩,
    ⟨some 3, none, (.op (.mv (.c (.p (.int .i64 9)))))⟩])
  .ret) .skip))))
  (.reg [⟨some 116, none, (.op (.mv (.t 9)))⟩,
    ⟨some 117, none, (.op (.bin .add (.t 116) (.c (.p (.int .i64 1)))))⟩,
    ⟨some 9, none, (.op (.mv (.t 117)))⟩]))))))
  (.seq (.reg [⟨some 2, none, (.op (.mv (.c (.p (.int .i64 0)))))⟩,
    ⟨some 3, none, (.op (.mv (.c (.p (.int .i64 0)))))⟩])
  .ret)))))))))))⟩
def A_ref06_CheckRules : Nat → Ty := tyAt [.un, .un, .un, .un, .un, .un, .un, .un, .un, .un, .un]
abbrev P_ref06_CheckRules : List PSh := [.agg (.pr (.int .i64) (.pr (.int .i64) (.pr (.pr (.int .i64) (.pr (.int .i64) (.int .i64))) (.pr (.pr (.int .i64) (.pr (.int .i64) (.int .i64))) (.pr (.int .i64) (.pr (.int .i64) (.pr (.pr (.int .i64) (.pr (.int .i64) (.int .i64))) (.pr (.pr (.pr (.int .i64) (.pr (.int .i64) (.int .i64))) (.pr (.pr (.int .i64) (.pr (.int .i64) (.int .i64))) (.pr (.int .i64) (.pr (.int .i64) (.int .i64))))) (.sl (.pr (.int .i64) (.int .i64)))))))))))]
abbrev R_ref06_CheckRules : List PSh := [.one (.int .i64), .one (.int .i64)]
theorem e_ref06_CheckRules : cFn Try.prog 19 = some F_ref06_CheckRules.erase := by kernel_rfl
theorem k_ref06_CheckRules : callable Try.prog 19 = true := by kernel_rfl
/-- cloverleaf/counts.BandOf -/
def F_counts_BandOf : TFn := ⟨40, 9, [.celln 6 2, .tmp 7],
  (.seq (.reg [⟨some 3, none, (.op (.box 0 (.t 0)))⟩,
    ⟨some 6, none, (.op (.newz 1 [(.p (.int .i64 0)), (.p (.int .i64 0))]))⟩,
    ⟨some 7, none, (.op (.mv (.c (.p (.int .i64 0)))))⟩])
  (.seq (.reg [⟨some 11, none, (.op (.mv (.t 1)))⟩,
    ⟨some 12, none, (.call 2 74 [(.t 11), (.c (.p (.int .i64 0))), (.c (.p (.int .i64 1000000000000)))])⟩,
    ⟨some 13, none, (.op (.mv (.t 12)))⟩,
    ⟨some 14, some (some 13, true), (.op (.mv (.t 2)))⟩,
    ⟨some 15, some (some 13, true), (.call 3 74 [(.t 14), (.c (.p (.int .i64 0))), (.c (.p (.int .i64 5)))])⟩,
    ⟨some 16, none, (.op (.pick (.t 13) (.t 15) (.c (.p (.bool false)))))⟩,
    ⟨some 8, none, (.op (.mv (.t 16)))⟩])
  (.seq (.seq (.reg [⟨some 17, none, (.op (.ldn 2 (.t 3)))⟩,
    ⟨some 18, none, (.call 4 80 [(.t 17)])⟩,
    ⟨some 19, none, (.op (.mv (.t 8)))⟩,
    ⟨some 20, none, (.call 5 78 [(.t 19), (.c (.p (.int .i64 2)))])⟩,
    ⟨some 21, none, (.op (.bsl false 6 1 2 [(.p (.int .i64 0)), (.p (.int .i64 0))] [(0, 1, (.t 18)), (1, 1, (.t 20))]))⟩,
    ⟨some 22, none, (.call 7 77 [(.t 21)])⟩,
    ⟨some 9, none, (.op (.mv (.t 22)))⟩])
  (.seq (.reg [⟨some 23, none, (.op (.mv (.t 9)))⟩,
    ⟨some 24, none, (.op (.bin .neq (.t 23) (.c (.p (.int .i64 0)))))⟩])
  (.cond (.t 24) (.seq (.reg [⟨some 25, none, (.op (.build [(.p (.int .i64 0)), (.p (.int .i64 0))] []))⟩,
    ⟨some 26, none, (.op (.mv (.t 9)))⟩,
    ⟨none, none, (.op (.st 2 (.t 6) (.t 25)))⟩,
    ⟨some 7, none, (.op (.mv (.t 26)))⟩])
  .ret) .skip)))
  (.seq (.reg [⟨some 27, none, (.op (.mv (.t 2)))⟩,
    ⟨some 28, none, (.op (.mv (.t 1)))⟩,
    ⟨some 29, none, (.call 8 81 [(.t 28)])⟩,
    ⟨some 30, none, (.op (.bin .mul (.t 27) (.t 29)))⟩,
    ⟨some 10, none, (.op (.mv (.t 30)))⟩])
  (.seq (.reg [⟨some 31, none, (.op (.fa 0 (.t 3)))⟩,
    ⟨some 32, none, (.op (.ld1 (.t 31)))⟩,
    ⟨some 33, none, (.op (.mv (.t 10)))⟩,
    ⟨some 34, none, (.op (.bin .sub (.t 32) (.t 33)))⟩,
    ⟨some 35, none, (.op (.fa 1 (.t 3)))⟩,
    ⟨some 36, none, (.op (.ld1 (.t 35)))⟩,
    ⟨some 37, none, (.op (.mv (.t 10)))⟩,
    ⟨some 38, none, (.op (.bin .add (.t 36) (.t 37)))⟩,
    ⟨some 39, none, (.op (.build [(.p (.int .i64 0)), (.p (.int .i64 0))] [(0, 1, (.t 34)), (1, 1, (.t 38))]))⟩,
    ⟨none, none, (.op (.st 2 (.t 6) (.t 39)))⟩,
    ⟨some 7, none, (.op (.mv (.c (.p (.int .i64 0)))))⟩])
  .ret)))))⟩
def A_counts_BandOf : Nat → Ty := tyAt [.un, .un, .un, .un, .un, .un, (.int .i64), .un, .un]
abbrev P_counts_BandOf : List PSh := [.agg (.pr (.int .i64) (.int .i64)), .one (.int .i64), .one (.int .i64)]
abbrev R_counts_BandOf : List PSh := [.agg (.pr (.int .i64) (.int .i64)), .one (.int .i64)]
theorem e_counts_BandOf : cFn Try.prog 21 = some F_counts_BandOf.erase := by kernel_rfl
theorem k_counts_BandOf : callable Try.prog 21 = true := by kernel_rfl
/-- cloverleaf/counts.FactorAt -/
def F_counts_FactorAt : TFn := ⟨42, 8, [.celln 4 2, .tmp 5],
  (.seq (.reg [⟨some 2, none, (.op (.box 0 (.t 0)))⟩,
    ⟨some 4, none, (.op (.newz 1 [(.p (.int .i64 0)), (.p (.int .i64 0))]))⟩,
    ⟨some 5, none, (.op (.mv (.c (.p (.int .i64 0)))))⟩])
  (.seq (.reg [⟨some 12, none, (.op (.ldn 23 (.t 2)))⟩,
    ⟨some 13, none, (.call 2 82 [(.t 12)])⟩,
    ⟨some 11, none, (.op (.mv (.t 13)))⟩,
    ⟨some 14, none, (.op (.ext 0 (.t 11)))⟩,
    ⟨some 15, none, (.op (.ext 1 (.t 11)))⟩,
    ⟨some 6, none, (.op (.newz 3 [(.p (.int .i64 0)), (.p (.int .i64 0)), (.p (.int .i64 0)), (.p (.int .i64 0)), (.p (.int .i64 0)), (.p (.int .i64 0)), (.p (.int .i64 0)), (.p (.int .i64 0)), (.p (.int .i64 0)), (.p (.int .i64 0)), (.p (.int .i64 0)), (.p (.int .i64 0)), (.p (.int .i64 0)), (.p (.int .i64 0)), (.p (.int .i64 0)), (.p (.int .i64 0)), (.p (.int .i64 0)), (.p (.int .i64 0)), (.p (.int .i64 0)), (.p (.int .i64 0)), (.p (.int .i64 0)), (.p (.int .i64 0)), (.p (.sl 0 [] true))]))⟩,
    ⟨none, none, (.op (.st 23 (.t 6) (.t 14)))⟩,
    ⟨some 7, none, (.op (.mv (.t 15)))⟩])
  (.seq (.seq (.reg [⟨some 16, none, (.op (.mv (.t 7)))⟩,
    ⟨some 17, none, (.op (.bin .eql (.t 16) (.c (.p (.int .i64 0)))))⟩])
  (.cond (.t 17) (.reg [⟨some 18, none, (.op (.ldn 23 (.t 6)))⟩,
    ⟨some 19, none, (.op (.mv (.t 1)))⟩,
    ⟨some 20, none, (.call 4 83 [(.t 18), (.t 19)])⟩,
    ⟨some 21, none, (.call 5 78 [(.t 20), (.c (.p (.int .i64 2)))])⟩,
    ⟨some 7, none, (.op (.mv (.t 21)))⟩]) .skip))
  (.seq (.seq (.reg [⟨some 22, none, (.op (.mv (.t 7)))⟩,
    ⟨some 23, none, (.op (.bin .neq (.t 22) (.c (.p (.int .i64 0)))))⟩])
  (.cond (.t 23) (.seq (.reg [⟨some 24, none, (.op (.build [(.p (.int .i64 0)), (.p (.int .i64 0))] []))⟩,
    ⟨some 25, none, (.op (.mv (.t 7)))⟩,
    ⟨none, none, (.op (.st 2 (.t 4) (.t 24)))⟩,
    ⟨some 5, none, (.op (.mv (.t 25)))⟩])
  .ret) .skip))
  (.seq (.reg [⟨some 27, none, (.op (.ldn 23 (.t 6)))⟩,
    ⟨some 28, none, (.op (.mv (.t 1)))⟩,
    ⟨some 29, none, (.call 6 84 [(.t 27), (.t 28)])⟩,
    ⟨some 26, none, (.op (.mv (.t 29)))⟩,
    ⟨some 30, none, (.op (.ext 0 (.t 26)))⟩,
    ⟨some 31, none, (.op (.ext 1 (.t 26)))⟩,
    ⟨some 8, none, (.op (.mv (.t 30)))⟩,
    ⟨some 9, none, (.op (.mv (.t 31)))⟩])
  (.seq (.reg [⟨some 32, none, (.op (.mv (.t 8)))⟩,
    ⟨some 33, none, (.op (.mv (.t 9)))⟩,
    ⟨some 34, none, (.call 7 85 [(.t 32), (.t 33)])⟩,
    ⟨some 10, none, (.op (.mv (.t 34)))⟩])
  (.seq (.regd [⟨some 35, none, (.op (.mv (.t 8)))⟩,
    ⟨some 36, none, (.op (.mv (.t 10)))⟩,
    ⟨some 37, none, (.op (.bin .quo (.t 35) (.t 36)))⟩,
    ⟨some 38, none, (.op (.mv (.t 9)))⟩,
    ⟨some 39, none, (.op (.mv (.t 10)))⟩,
    ⟨some 40, none, (.op (.bin .quo (.t 38) (.t 39)))⟩,
    ⟨some 41, none, (.op (.build [(.p (.int .i64 0)), (.p (.int .i64 0))] [(0, 1, (.t 37)), (1, 1, (.t 40))]))⟩,
    ⟨none, none, (.op (.st 2 (.t 4) (.t 41)))⟩,
    ⟨some 5, none, (.op (.mv (.c (.p (.int .i64 0)))))⟩] [] [])
  .ret)))))))⟩
def A_counts_FactorAt : Nat → Ty := tyAt [.un, .un, .un, .un, .un, .un, .un, .un]
abbrev P_counts_FactorAt : List PSh := [.agg (.pr (.int .i64) (.pr (.int .i64) (.pr (.pr (.int .i64) (.pr (.int .i64) (.int .i64))) (.pr (.pr (.int .i64) (.pr (.int .i64) (.int .i64))) (.pr (.int .i64) (.pr (.int .i64) (.pr (.pr (.int .i64) (.pr (.int .i64) (.int .i64))) (.pr (.pr (.pr (.int .i64) (.pr (.int .i64) (.int .i64))) (.pr (.pr (.int .i64) (.pr (.int .i64) (.int .i64))) (.pr (.int .i64) (.pr (.int .i64) (.int .i64))))) (.sl (.pr (.int .i64) (.int .i64))))))))))), .one (.int .i64)]
abbrev R_counts_FactorAt : List PSh := [.agg (.pr (.int .i64) (.int .i64)), .one (.int .i64)]
theorem e_counts_FactorAt : cFn Try.prog 22 = some F_counts_FactorAt.erase := by kernel_rfl
theorem k_counts_FactorAt : callable Try.prog 22 = true := by kernel_rfl
/-- cloverleaf/cloverleafref06.RulesErr -/
def F_ref06_RulesErr : TFn := ⟨11, 2, [.tmp 2],
  (.seq (.reg [⟨some 1, none, (.op (.box 0 (.t 0)))⟩,
    ⟨some 2, none, (.op (.mv (.c (.p (.int .i64 0)))))⟩])
  (.seq (.reg [⟨some 6, none, (.op (.ldn 23 (.t 1)))⟩,
    ⟨some 7, none, (.call 1 19 [(.t 6)])⟩,
    ⟨some 5, none, (.op (.mv (.t 7)))⟩,
    ⟨some 8, none, (.op (.ext 0 (.t 5)))⟩,
    ⟨some 9, none, (.op (.ext 1 (.t 5)))⟩,
    ⟨some 3, none, (.op (.mv (.t 8)))⟩,
    ⟨some 4, none, (.op (.mv (.t 9)))⟩])
  (.seq (.reg [⟨some 10, none, (.op (.mv (.t 4)))⟩,
    ⟨some 2, none, (.op (.mv (.t 10)))⟩])
  .ret)))⟩
def A_ref06_RulesErr : Nat → Ty := tyAt [.un, .un]
abbrev P_ref06_RulesErr : List PSh := [.agg (.pr (.int .i64) (.pr (.int .i64) (.pr (.pr (.int .i64) (.pr (.int .i64) (.int .i64))) (.pr (.pr (.int .i64) (.pr (.int .i64) (.int .i64))) (.pr (.int .i64) (.pr (.int .i64) (.pr (.pr (.int .i64) (.pr (.int .i64) (.int .i64))) (.pr (.pr (.pr (.int .i64) (.pr (.int .i64) (.int .i64))) (.pr (.pr (.int .i64) (.pr (.int .i64) (.int .i64))) (.pr (.int .i64) (.pr (.int .i64) (.int .i64))))) (.sl (.pr (.int .i64) (.int .i64)))))))))))]
abbrev R_ref06_RulesErr : List PSh := [.one (.int .i64)]
theorem e_ref06_RulesErr : cFn Try.prog 23 = some F_ref06_RulesErr.erase := by kernel_rfl
theorem k_ref06_RulesErr : callable Try.prog 23 = true := by kernel_rfl
/-- cloverleaf/cloverleafref06.IsHeight -/
def F_ref06_IsHeight : TFn := ⟨21, 2, [.tmp 4],
  (.seq (.reg [⟨some 2, none, (.op (.box 0 (.t 0)))⟩,
    ⟨some 4, none, (.op (.mv (.c (.p (.bool false)))))⟩])
  (.seq (.regd [⟨some 5, none, (.op (.mv (.t 1)))⟩,
    ⟨some 6, none, (.op (.fa 22 (.t 2)))⟩,
    ⟨some 7, none, (.op (.ld1 (.t 6)))⟩,
    ⟨some 8, none, (.op (.ia 2 (.t 7) (.c (.p (.int .i64 0)))))⟩,
    ⟨some 9, none, (.op (.fa 0 (.t 8)))⟩,
    ⟨some 10, none, (.op (.ld1 (.t 9)))⟩,
    ⟨some 11, none, (.op (.fa 22 (.t 2)))⟩,
    ⟨some 12, none, (.op (.ld1 (.t 11)))⟩,
    ⟨some 13, none, (.op (.fa 22 (.t 2)))⟩,
    ⟨some 14, none, (.op (.ld1 (.t 13)))⟩,
    ⟨some 15, none, (.op (.len false (.t 14)))⟩,
    ⟨some 16, none, (.op (.bin .sub (.t 15) (.c (.p (.int .i64 1)))))⟩,
    ⟨some 17, none, (.op (.ia 2 (.t 12) (.t 16)))⟩,
    ⟨some 18, none, (.op (.fa 0 (.t 17)))⟩,
    ⟨some 19, none, (.op (.ld1 (.t 18)))⟩,
    ⟨some 20, none, (.call 1 40 [(.t 5), (.t 10), (.t 19)])⟩,
    ⟨some 4, none, (.op (.mv (.t 20)))⟩] [(2, 7), (5, 7), (2, 9), (5, 9), (7, 9), (2, 14), (5, 14)] [])
  .ret))⟩
def A_ref06_IsHeight : Nat → Ty := tyAt [.un, .un]
abbrev P_ref06_IsHeight : List PSh := [.agg (.pr (.int .i64) (.pr (.int .i64) (.pr (.pr (.int .i64) (.pr (.int .i64) (.int .i64))) (.pr (.pr (.int .i64) (.pr (.int .i64) (.int .i64))) (.pr (.int .i64) (.pr (.int .i64) (.pr (.pr (.int .i64) (.pr (.int .i64) (.int .i64))) (.pr (.pr (.pr (.int .i64) (.pr (.int .i64) (.int .i64))) (.pr (.pr (.int .i64) (.pr (.int .i64) (.int .i64))) (.pr (.int .i64) (.pr (.int .i64) (.int .i64))))) (.sl (.pr (.int .i64) (.int .i64))))))))))), .one (.int .i64)]
abbrev R_ref06_IsHeight : List PSh := [.one .bool]
theorem e_ref06_IsHeight : cFn Try.prog 24 = some F_ref06_IsHeight.erase := by kernel_rfl
theorem k_ref06_IsHeight : callable Try.prog 24 = true := by kernel_rfl
/-- cloverleaf/cloverleafref06.CopySamples -/
def F_ref06_CopySamples : TFn := ⟨6, 2, [.tmp 2],
  (.seq (.reg [⟨some 2, none, (.op (.mv (.c (.p (.sl 0 [] true)))))⟩])
  (.seq (.reg [⟨some 3, none, (.op (.bsl true 0 7 0 [] []))⟩,
    ⟨some 4, none, (.op (.mv (.t 0)))⟩,
    ⟨some 5, none, (.op (.app 1 7 56 (.t 3) (.t 4)))⟩,
    ⟨some 2, none, (.op (.mv (.t 5)))⟩])
  .ret))⟩
def A_ref06_CopySamples : Nat → Ty := tyAt [(.pr (.pr (.int .i64) (.pr (.int .i64) (.int .i64))) (.pr (.int .i64) (.pr (.int .i64) (.pr (.int .i64) (.int .i64))))), (.pr (.pr (.int .i64) (.pr (.int .i64) (.int .i64))) (.pr (.int .i64) (.pr (.int .i64) (.pr (.int .i64) (.int .i64)))))]
abbrev P_ref06_CopySamples : List PSh := [.one (.sl (.pr (.pr (.int .i64) (.pr (.int .i64) (.int .i64))) (.pr (.int .i64) (.pr (.int .i64) (.pr (.int .i64) (.int .i64))))))]
abbrev R_ref06_CopySamples : List PSh := [.one (.sl (.pr (.pr (.int .i64) (.pr (.int .i64) (.int .i64))) (.pr (.int .i64) (.pr (.int .i64) (.pr (.int .i64) (.int .i64))))))]
theorem e_ref06_CopySamples : cFn Try.prog 29 = some F_ref06_CopySamples.erase := by kernel_rfl
theorem k_ref06_CopySamples : callable Try.prog 29 = true := by kernel_rfl
/-- cloverleaf/counts.LineOf -/
def F_counts_LineOf : TFn := ⟨50, 11, [.tmp 4, .tmp 5, .tmp 6],
  (.seq (.reg [⟨some 2, none, (.op (.box 0 (.t 0)))⟩,
    ⟨some 4, none, (.op (.mv (.c (.p (.sl 0 [] true)))))⟩,
    ⟨some 5, none, (.op (.mv (.c (.p (.int .i64 0)))))⟩,
    ⟨some 6, none, (.op (.mv (.c (.p (.int .i64 0)))))⟩])
  (.seq (.reg [⟨some 14, none, (.op (.ldn 23 (.t 2)))⟩,
    ⟨some 15, none, (.call 1 82 [(.t 14)])⟩,
    ⟨some 13, none, (.op (.mv (.t 15)))⟩,
    ⟨some 16, none, (.op (.ext 0 (.t 13)))⟩,
    ⟨some 17, none, (.op (.ext 1 (.t 13)))⟩,
    ⟨some 7, none, (.op (.newz 2 [(.p (.int .i64 0)), (.p (.int .i64 0)), (.p (.int .i64 0)), (.p (.int .i64 0)), (.p (.int .i64 0)), (.p (.int .i64 0)), (.p (.int .i64 0)), (.p (.int .i64 0)), (.p (.int .i64 0)), (.p (.int .i64 0)), (.p (.int .i64 0)), (.p (.int .i64 0)), (.p (.int .i64 0)), (.p (.int .i64 0)), (.p (.int .i64 0)), (.p (.int .i64 0)), (.p (.int .i64 0)), (.p (.int .i64 0)), (.p (.int .i64 0)), (.p (.int .i64 0)), (.p (.int .i64 0)), (.p (.int .i64 0)), (.p (.sl 0 [] true))]))⟩,
    ⟨none, none, (.op (.st 23 (.t 7) (.t 16)))⟩,
    ⟨some 8, none, (.op (.mv (.t 17)))⟩])
  (.seq (.seq (.reg [⟨some 18, none, (.op (.mv (.t 8)))⟩,
    ⟨some 19, none, (.op (.mv (.t 1)))⟩,
    ⟨some 20, none, (.op (.len false (.t 19)))⟩,
    ⟨some 21, none, (.op (.bin .leq (.t 20) (.c (.p (.int .i64 100)))))⟩,
    ⟨some 22, none, (.call 3 78 [(.t 21), (.c (.p (.int .i64 8)))])⟩,
    ⟨some 23, none, (.op (.bsl false 4 1 2 [(.p (.int .i64 0)), (.p (.int .i64 0))] [(0, 1, (.t 18)), (1, 1, (.t 22))]))⟩,
    ⟨some 24, none, (.call 5 77 [(.t 23)])⟩,
    ⟨some 8, none, (.op (.mv (.t 24)))⟩])
  (.seq (.reg [⟨some 25, none, (.op (.mv (.t 8)))⟩,
    ⟨some 26, none, (.op (.bin .neq (.t 25) (.c (.p (.int .i64 0)))))⟩])
  (.cond (.t 26) (.seq (.reg [⟨some 27, none, (.op (.mv (.t 8)))⟩,
    ⟨some 4, none, (.op (.mv (.c (.p (.sl 0 [] true)))))⟩,
    ⟨some 5, none, (.op (.mv (.c (.p (.int .i64 0)))))⟩,
    ⟨some 6, none, (.op (.mv (.t 27)))⟩])
  .ret) .skip)))
  (.seq (.reg [⟨some 9, none, (.op (.mv (.c (.p (.sl 0 [] true)))))⟩])
  (.seq (.seq (.reg [⟨some 28, none, (.op (.mv (.t 1)))⟩,
    ⟨some 29, none, (.op (.len false (.t 28)))⟩,
    ⟨some 30, none, (.op (.mv (.c (.p (.int .i64 0)))))⟩])
  (.block 0 (.loop [.v 30 (.int .i64), .o 9 10 (.pr (.pr (.int .i64) (.int .i64)) (.pr (.pr (.int .i64) (.int .i64)) (.pr (.int .i64) (.int .i64))))] [6, 10] [6, 10] (.seq (.reg [⟨some 31, none, (.op (.bin .lss (.t 30) (.t 29)))⟩])
  (.seq (.cond (.t 31) .skip (.exit 0))
  (.seq (.block 1 (.seq (.reg [⟨some 32, none, (.op (.mv (.t 30)))⟩,
    ⟨some 33, none, (.op (.ia 7 (.t 28) (.t 30)))⟩,
    ⟨some 34, none, (.op (.ldn 7 (.t 33)))⟩,
    ⟨some 11, none, (.op (.newz 6 [(.p (.int .i64 0)), (.p (.int .i64 0)), (.p (.int .i64 0)), (.p (.int .i64 0)), (.p (.int .i64 0)), (.p (.int .i64 0)), (.p (.int .i64 0))]))⟩,
    ⟨some 10, none, (.op (.mv (.t 32)))⟩,
    ⟨none, none, (.op (.st 7 (.t 11) (.t 34)))⟩])
  (.seq (.seq (.reg [⟨some 35, none, (.op (.ldn 23 (.t 7)))⟩,
    ⟨some 36, none, (.op (.ldn 7 (.t 11)))⟩,
    ⟨some 37, none, (.call 7 89 [(.t 35), (.t 36)])⟩,
    ⟨some 12, none, (.op (.mv (.t 37)))⟩])
  (.seq (.reg [⟨some 38, none, (.op (.mv (.t 12)))⟩,
    ⟨some 39, none, (.op (.bin .neq (.t 38) (.c (.p (.int .i64 0)))))⟩])
  (.cond (.t 39) (.seq (.reg [⟨some 40, none, (.op (.mv (.t 10)))⟩,
    ⟨some 41, none, (.op (.mv (.t 12)))⟩,
    ⟨some 4, none, (.op (.mv (.c (.p (.sl 0 [] true)))))⟩,
    ⟨some 5, none, (.op (.mv (.t 40)))⟩,
    ⟨some 6, none, (.op (.mv (.t 41)))⟩])
  .ret) .skip)))
  (.reg [⟨some 42, none, (.op (.mv (.t 9)))⟩,
    ⟨some 43, none, (.op (.ldn 23 (.t 7)))⟩,
    ⟨some 44, none, (.op (.ldn 7 (.t 11)))⟩,
    ⟨some 45, none, (.call 8 90 [(.t 43), (.t 44)])⟩,
    ⟨some 46, none, (.op (.bsl false 9 6 1 [(.p (.int .i64 0)), (.p (.int .i64 0)), (.p (.int .i64 0)), (.p (.int .i64 0)), (.p (.int .i64 0)), (.p (.int .i64 0))] [(0, 6, (.t 45))]))⟩,
    ⟨some 47, none, (.op (.app 10 6 48 (.t 42) (.t 46)))⟩,
    ⟨some 9, none, (.op (.mv (.t 47)))⟩]))))
  (.reg [⟨some 48, none, (.op (.bin .add (.t 30) (.c (.p (.int .i64 1)))))⟩,
    ⟨some 30, none, (.op (.mv (.t 48)))⟩])))))))
  (.seq (.reg [⟨some 49, none, (.op (.mv (.t 9)))⟩,
    ⟨some 4, none, (.op (.mv (.t 49)))⟩,
    ⟨some 5, none, (.op (.mv (.c (.p (.int .i64 0)))))⟩,
    ⟨some 6, none, (.op (.mv (.c (.p (.int .i64 0)))))⟩])
  .ret))))))⟩
def A_counts_LineOf : Nat → Ty := tyAt [.un, .un, .un, .un, (.int .i64), .un, .un, .un, .un, (.pr (.pr (.int .i64) (.int .i64)) (.pr (.pr (.int .i64) (.int .i64)) (.pr (.int .i64) (.int .i64)))), (.pr (.pr (.int .i64) (.int .i64)) (.pr (.pr (.int .i64) (.int .i64)) (.pr (.int .i64) (.int .i64))))]
abbrev P_counts_LineOf : List PSh := [.agg (.pr (.int .i64) (.pr (.int .i64) (.pr (.pr (.int .i64) (.pr (.int .i64) (.int .i64))) (.pr (.pr (.int .i64) (.pr (.int .i64) (.int .i64))) (.pr (.int .i64) (.pr (.int .i64) (.pr (.pr (.int .i64) (.pr (.int .i64) (.int .i64))) (.pr (.pr (.pr (.int .i64) (.pr (.int .i64) (.int .i64))) (.pr (.pr (.int .i64) (.pr (.int .i64) (.int .i64))) (.pr (.int .i64) (.pr (.int .i64) (.int .i64))))) (.sl (.pr (.int .i64) (.int .i64))))))))))), .one (.sl (.pr (.pr (.int .i64) (.pr (.int .i64) (.int .i64))) (.pr (.int .i64) (.pr (.int .i64) (.pr (.int .i64) (.int .i64))))))]
abbrev R_counts_LineOf : List PSh := [.one (.sl (.pr (.pr (.int .i64) (.int .i64)) (.pr (.pr (.int .i64) (.int .i64)) (.pr (.int .i64) (.int .i64))))), .one (.int .i64), .one (.int .i64)]
theorem e_counts_LineOf : cFn Try.prog 28 = some F_counts_LineOf.erase := by kernel_rfl
theorem k_counts_LineOf : callable Try.prog 28 = true := by kernel_rfl
/-- cloverleaf/cloverleafref06.SampleErr -/
def F_ref06_SampleErr : TFn := ⟨62, 7, [.tmp 4],
  (.seq (.reg [⟨some 2, none, (.op (.box 0 (.t 0)))⟩,
    ⟨some 3, none, (.op (.box 1 (.t 1)))⟩,
    ⟨some 4, none, (.op (.mv (.c (.p (.int .i64 0)))))⟩])
  (.seq (.seq (.reg [⟨some 5, none, (.op (.mv (.c (.p (.int .i64 0)))))⟩])
  (.block 0 (.loop [.v 5 (.int .i64)] [] [] (.seq (.seq (.reg [⟨some 6, none, (.op (.mv (.t 5)))⟩,
    ⟨some 7, none, (.op (.bin .lss (.t 6) (.c (.p (.int .i64 3)))))⟩])
  (.cond (.t 7) .skip (.exit 0)))
  (.seq (.block 1 (.seq (.reg [⟨some 10, none, (.op (.mv (.t 5)))⟩,
    ⟨some 11, none, (.op (.fa 0 (.t 3)))⟩,
    ⟨some 12, none, (.op (.iaa 1 3 (.t 11) (.t 10)))⟩,
    ⟨some 13, none, (.op (.ld1 (.t 12)))⟩,
    ⟨some 14, none, (.call 2 40 [(.t 13), (.c (.p (.int .i64 0))), (.c (.p (.int .i64 100000)))])⟩,
    ⟨some 15, none, (.op (.unot (.t 14)))⟩])
  (.cond (.t 15) (.seq (.reg [⟨some 4, none, (.op (.mv (.c (.p (.int .i64 2)))))⟩])
  .ret) .skip)))
  (.reg [⟨some 8, none, (.op (.mv (.t 5)))⟩,
    ⟨some 9, none, (.op (.bin .add (.t 8) (.c (.p (.int .i64 1)))))⟩,
    ⟨some 5, none, (.op (.mv (.t 9)))⟩]))))))
  (.seq (.seq (.reg [⟨some 16, none, (.op (.fa 4 (.t 3)))⟩,
    ⟨some 17, none, (.op (.ld1 (.t 16)))⟩,
    ⟨some 18, none, (.call 3 40 [(.t 17), (.c (.p (.int .i64 0))), (.c (.p (.int .i64 100000)))])⟩,
    ⟨some 19, none, (.op (.unot (.t 18)))⟩,
    ⟨some 20, none, (.op (.mv (.t 19)))⟩,
    ⟨some 21, some (some 20, false), (.op (.fa 3 (.t 3)))⟩,
    ⟨some 22, some (some 20, false), (.op (.ld1 (.t 21)))⟩,
    ⟨some 23, some (some 20, false), (.call 4 40 [(.t 22), (.c (.p (.int .i64 0))), (.c (.p (.int .i64 1000000)))])⟩,
    ⟨some 24, some (some 20, false), (.op (.unot (.t 23)))⟩,
    ⟨some 25, none, (.op (.pick (.t 20) (.c (.p (.bool true))) (.t 24)))⟩,
    ⟨some 26, none, (.op (.mv (.t 25)))⟩,
    ⟨some 27, some (some 26, false), (.op (.fa 5 (.t 3)))⟩,
    ⟨some 28, some (some 26, false), (.op (.ld1 (.t 27)))⟩,
    ⟨some 29, some (some 26, false), (.call 5 40 [(.t 28), (.c (.p (.int .i64 0))), (.c (.p (.int .i64 10000)))])⟩,
    ⟨some 30, some (some 26, false), (.op (.unot (.t 29)))⟩,
    ⟨some 31, none, (.op (.pick (.t 26) (.c (.p (.bool true))) (.t 30)))⟩,
    ⟨some 32, none, (.op (.mv (.t 31)))⟩,
    ⟨some 33, some (some 32, false), (.op (.ldn 23 (.t 2)))⟩,
    ⟨some 34, some (some 32, false), (.op (.fa 6 (.t 3)))⟩,
    ⟨some 35, some (some 32, false), (.op (.ld1 (.t 34)))⟩,
    ⟨some 36, some (some 32, false), (.call 6 24 [(.t 33), (.t 35)])⟩,
    ⟨some 37, some (some 32, false), (.op (.unot (.t 36)))⟩,
    ⟨some 38, none, (.op (.pick (.t 32) (.c (.p (.bool true))) (.t 37)))⟩])
  (.cond (.t 38) (.seq (.reg [⟨some 4, none, (.op (.mv (.c (.p (.int .i64 2)))))⟩])
  .ret) .skip))
  (.seq (.seq (.reg [⟨some 39, none, (.op (.fa 0 (.t 3)))⟩,
    ⟨some 40, none, (.op (.iaa 1 3 (.t 39) (.c (.p (.int .i64 0)))))⟩,
    ⟨some 41, none, (.op (.ld1 (.t 40)))⟩,
    ⟨some 42, none, (.op (.fa 0 (.t 3)))⟩,
    ⟨some 43, none, (.op (.iaa 1 3 (.t 42) (.c (.p (.int .i64 1)))))⟩,
    ⟨some 44, none, (.op (.ld1 (.t 43)))⟩,
    ⟨some 45, none, (.op (.bin .add (.t 41) (.t 44)))⟩,
    ⟨some 46, none, (.op (.fa 0 (.t 3)))⟩,
    ⟨some 47, none, (.op (.iaa 1 3 (.t 46) (.c (.p (.int .i64 2)))))⟩,
    ⟨some 48, none, (.op (.ld1 (.t 47)))⟩,
    ⟨some 49, none, (.op (.bin .add (.t 45) (.t 48)))⟩,
    ⟨some 50, none, (.op (.fa 3 (.t 3)))⟩,
    ⟨some 51, none, (.op (.ld1 (.t 50)))⟩,
    ⟨some 52, none, (.op (.bin .gtr (.t 49) (.t 51)))⟩])
  (.cond (.t 52) (.seq (.reg [⟨some 4, none, (.op (.mv (.c (.p (.int .i64 13)))))⟩])
  .ret) .skip))
  (.seq (.seq (.reg [⟨some 53, none, (.op (.fa 1 (.t 2)))⟩,
    ⟨some 54, none, (.op (.ld1 (.t 53)))⟩,
    ⟨some 55, none, (.op (.bin .mul (.c (.p (.int .i64 2))) (.t 54)))⟩,
    ⟨some 56, none, (.op (.fa 3 (.t 3)))⟩,
    ⟨some 57, none, (.op (.ld1 (.t 56)))⟩,
    ⟨some 58, none, (.op (.bin .mul (.t 55) (.t 57)))⟩,
    ⟨some 59, none, (.op (.fa 0 (.t 2)))⟩,
    ⟨some 60, none, (.op (.ld1 (.t 59)))⟩,
    ⟨some 61, none, (.op (.bin .gtr (.t 58) (.t 60)))⟩])
  (.cond (.t 61) (.seq (.reg [⟨some 4, none, (.op (.mv (.c (.p (.int .i64 22)))))⟩])
  .ret) .skip))
  (.seq (.reg [⟨some 4, none, (.op (.mv (.c (.p (.int .i64 0)))))⟩])
  .ret))))))⟩
def A_ref06_SampleErr : Nat → Ty := tyAt [.un, .un, .un, .un, .un, .un, .un]
abbrev P_ref06_SampleErr : List PSh := [.agg (.pr (.int .i64) (.pr (.int .i64) (.pr (.pr (.int .i64) (.pr (.int .i64) (.int .i64))) (.pr (.pr (.int .i64) (.pr (.int .i64) (.int .i64))) (.pr (.int .i64) (.pr (.int .i64) (.pr (.pr (.int .i64) (.pr (.int .i64) (.int .i64))) (.pr (.pr (.pr (.int .i64) (.pr (.int .i64) (.int .i64))) (.pr (.pr (.int .i64) (.pr (.int .i64) (.int .i64))) (.pr (.int .i64) (.pr (.int .i64) (.int .i64))))) (.sl (.pr (.int .i64) (.int .i64))))))))))), .agg (.pr (.pr (.int .i64) (.pr (.int .i64) (.int .i64))) (.pr (.int .i64) (.pr (.int .i64) (.pr (.int .i64) (.int .i64)))))]
abbrev R_ref06_SampleErr : List PSh := [.one (.int .i64)]
theorem e_ref06_SampleErr : cFn Try.prog 30 = some F_ref06_SampleErr.erase := by kernel_rfl
theorem k_ref06_SampleErr : callable Try.prog 30 = true := by kernel_rfl
/-- cloverleaf/cloverleafref06.Reduced -/
def F_ref06_Reduced : TFn := ⟨42, 8, [.celln 4 6],
  (.seq (.reg [⟨some 2, none, (.op (.box 0 (.t 0)))⟩,
    ⟨some 3, none, (.op (.box 1 (.t 1)))⟩,
    ⟨some 4, none, (.op (.newz 2 [(.p (.int .i64 0)), (.p (.int .i64 0)), (.p (.int .i64 0)), (.p (.int .i64 0)), (.p (.int .i64 0)), (.p (.int .i64 0))]))⟩])
  (.seq (.regd [⟨some 9, none, (.op (.ldn 23 (.t 2)))⟩,
    ⟨some 10, none, (.op (.ldn 23 (.t 2)))⟩,
    ⟨some 11, none, (.op (.ldn 7 (.t 3)))⟩,
    ⟨some 12, none, (.call 3 39 [(.t 10), (.t 11)])⟩,
    ⟨some 13, none, (.call 4 71 [(.t 9), (.t 12)])⟩,
    ⟨some 5, none, (.op (.newz 5 [(.p (.int .i64 0)), (.p (.int .i64 0)), (.p (.int .i64 0)), (.p (.int .i64 0)), (.p (.int .i64 0)), (.p (.int .i64 0))]))⟩,
    ⟨none, none, (.op (.st 6 (.t 5) (.t 13)))⟩] [(0, 1), (0, 2), (1, 2), (0, 3), (0, 5), (1, 5), (2, 5), (3, 5), (4, 5)] [])
  (.seq (.reg [⟨some 15, none, (.op (.ldn 23 (.t 2)))⟩,
    ⟨some 16, none, (.op (.fa 6 (.t 3)))⟩,
    ⟨some 17, none, (.op (.ld1 (.t 16)))⟩,
    ⟨some 18, none, (.call 6 87 [(.t 15), (.t 17)])⟩,
    ⟨some 14, none, (.op (.mv (.t 18)))⟩,
    ⟨some 19, none, (.op (.ext 0 (.t 14)))⟩,
    ⟨some 20, none, (.op (.ext 1 (.t 14)))⟩,
    ⟨some 6, none, (.op (.mv (.t 19)))⟩,
    ⟨some 7, none, (.op (.mv (.t 20)))⟩])
  (.seq (.seq (.reg [⟨some 8, none, (.op (.mv (.c (.p (.int .i64 0)))))⟩])
  (.block 0 (.loop [.v 8 (.int .i64), .c 5 (.pr (.int .i64) (.pr (.int .i64) (.pr (.int .i64) (.pr (.int .i64) (.pr (.int .i64) (.int .i64))))))] [5] [] (.seq (.seq (.reg [⟨some 21, none, (.op (.mv (.t 8)))⟩,
    ⟨some 22, none, (.op (.bin .lss (.t 21) (.c (.p (.int .i64 3)))))⟩])
  (.cond (.t 22) .skip (.exit 0)))
  (.seq (.block 1 (.regd [⟨some 25, none, (.op (.mv (.t 8)))⟩,
    ⟨some 26, none, (.op (.mv (.t 6)))⟩,
    ⟨some 27, none, (.op (.mv (.t 8)))⟩,
    ⟨some 28, none, (.op (.iaa 2 3 (.t 5) (.t 27)))⟩,
    ⟨some 29, none, (.op (.fa 0 (.t 28)))⟩,
    ⟨some 30, none, (.op (.ld1 (.t 29)))⟩,
    ⟨some 31, none, (.op (.bin .mul (.t 26) (.t 30)))⟩,
    ⟨some 32, none, (.op (.mv (.t 6)))⟩,
    ⟨some 33, none, (.op (.mv (.t 8)))⟩,
    ⟨some 34, none, (.op (.iaa 2 3 (.t 5) (.t 33)))⟩,
    ⟨some 35, none, (.op (.fa 1 (.t 34)))⟩,
    ⟨some 36, none, (.op (.ld1 (.t 35)))⟩,
    ⟨some 37, none, (.op (.bin .mul (.t 32) (.t 36)))⟩,
    ⟨some 38, none, (.op (.mv (.t 7)))⟩,
    ⟨some 39, none, (.call 7 91 [(.t 31), (.t 37), (.t 38)])⟩,
    ⟨some 40, none, (.op (.iaa 2 3 (.t 5) (.t 25)))⟩,
    ⟨none, none, (.op (.st 2 (.t 40) (.t 39)))⟩] [(5, 11)] []))
  (.reg [⟨some 23, none, (.op (.mv (.t 8)))⟩,
    ⟨some 24, none, (.op (.bin .add (.t 23) (.c (.p (.int .i64 1)))))⟩,
    ⟨some 8, none, (.op (.mv (.t 24)))⟩]))))))
  (.seq (.reg [⟨some 41, none, (.op (.ldn 6 (.t 5)))⟩,
    ⟨none, none, (.op (.st 6 (.t 4) (.t 41)))⟩])
  .ret)))))⟩
def A_ref06_Reduced : Nat → Ty := tyAt [.un, .un, .un, .un, .un, .un, .un, .un]
abbrev P_ref06_Reduced : List PSh := [.agg (.pr (.int .i64) (.pr (.int .i64) (.pr (.pr (.int .i64) (.pr (.int .i64) (.int .i64))) (.pr (.pr (.int .i64) (.pr (.int .i64) (.int .i64))) (.pr (.int .i64) (.pr (.int .i64) (.pr (.pr (.int .i64) (.pr (.int .i64) (.int .i64))) (.pr (.pr (.pr (.int .i64) (.pr (.int .i64) (.int .i64))) (.pr (.pr (.int .i64) (.pr (.int .i64) (.int .i64))) (.pr (.int .i64) (.pr (.int .i64) (.int .i64))))) (.sl (.pr (.int .i64) (.int .i64))))))))))), .agg (.pr (.pr (.int .i64) (.pr (.int .i64) (.int .i64))) (.pr (.int .i64) (.pr (.int .i64) (.pr (.int .i64) (.int .i64)))))]
abbrev R_ref06_Reduced : List PSh := [.agg (.pr (.pr (.int .i64) (.int .i64)) (.pr (.pr (.int .i64) (.int .i64)) (.pr (.int .i64) (.int .i64))))]
theorem e_ref06_Reduced : cFn Try.prog 31 = some F_ref06_Reduced.erase := by kernel_rfl
theorem k_ref06_Reduced : callable Try.prog 31 = true := by kernel_rfl
/-- cloverleaf/counts.NetOf -/
def F_counts_NetOf : TFn := ⟨21, 6, [.celln 4 6, .tmp 5],
  (.seq (.reg [⟨some 2, none, (.op (.box 0 (.t 0)))⟩,
    ⟨some 3, none, (.op (.box 1 (.t 1)))⟩,
    ⟨some 4, none, (.op (.newz 2 [(.p (.int .i64 0)), (.p (.int .i64 0)), (.p (.int .i64 0)), (.p (.int .i64 0)), (.p (.int .i64 0)), (.p (.int .i64 0))]))⟩,
    ⟨some 5, none, (.op (.mv (.c (.p (.int .i64 0)))))⟩])
  (.seq (.reg [⟨some 9, none, (.op (.ldn 23 (.t 2)))⟩,
    ⟨some 10, none, (.op (.ldn 7 (.t 3)))⟩,
    ⟨some 11, none, (.call 3 79 [(.t 9), (.t 10)])⟩,
    ⟨some 8, none, (.op (.mv (.t 11)))⟩,
    ⟨some 12, none, (.op (.ext 0 (.t 8)))⟩,
    ⟨some 13, none, (.op (.ext 1 (.t 8)))⟩,
    ⟨some 6, none, (.op (.newz 4 [(.p (.int .i64 0)), (.p (.int .i64 0)), (.p (.int .i64 0)), (.p (.int .i64 0)), (.p (.int .i64 0)), (.p (.int .i64 0)), (.p (.int .i64 0)), (.p (.int .i64 0)), (.p (.int .i64 0)), (.p (.int .i64 0)), (.p (.int .i64 0)), (.p (.int .i64 0)), (.p (.int .i64 0)), (.p (.int .i64 0)), (.p (.int .i64 0)), (.p (.int .i64 0)), (.p (.int .i64 0)), (.p (.int .i64 0)), (.p (.int .i64 0)), (.p (.int .i64 0)), (.p (.int .i64 0)), (.p (.int .i64 0)), (.p (.sl 0 [] true))]))⟩,
    ⟨none, none, (.op (.st 23 (.t 6) (.t 12)))⟩,
    ⟨some 7, none, (.op (.mv (.t 13)))⟩])
  (.seq (.seq (.reg [⟨some 14, none, (.op (.mv (.t 7)))⟩,
    ⟨some 15, none, (.op (.bin .neq (.t 14) (.c (.p (.int .i64 0)))))⟩])
  (.cond (.t 15) (.seq (.reg [⟨some 16, none, (.op (.build [(.p (.int .i64 0)), (.p (.int .i64 0)), (.p (.int .i64 0)), (.p (.int .i64 0)), (.p (.int .i64 0)), (.p (.int .i64 0))] []))⟩,
    ⟨some 17, none, (.op (.mv (.t 7)))⟩,
    ⟨none, none, (.op (.st 6 (.t 4) (.t 16)))⟩,
    ⟨some 5, none, (.op (.mv (.t 17)))⟩])
  .ret) .skip))
  (.seq (.reg [⟨some 18, none, (.op (.ldn 23 (.t 6)))⟩,
    ⟨some 19, none, (.op (.ldn 7 (.t 3)))⟩,
    ⟨some 20, none, (.call 5 95 [(.t 18), (.t 19)])⟩,
    ⟨none, none, (.op (.st 6 (.t 4) (.t 20)))⟩,
    ⟨some 5, none, (.op (.mv (.c (.p (.int .i64 0)))))⟩])
  .ret))))⟩
def A_counts_NetOf : Nat → Ty := tyAt [.un, .un, .un, .un, .un, .un]
abbrev P_counts_NetOf : List PSh := [.agg (.pr (.int .i64) (.pr (.int .i64) (.pr (.pr (.int .i64) (.pr (.int .i64) (.int .i64))) (.pr (.pr (.int .i64) (.pr (.int .i64) (.int .i64))) (.pr (.int .i64) (.pr (.int .i64) (.pr (.pr (.int .i64) (.pr (.int .i64) (.int .i64))) (.pr (.pr (.pr (.int .i64) (.pr (.int .i64) (.int .i64))) (.pr (.pr (.int .i64) (.pr (.int .i64) (.int .i64))) (.pr (.int .i64) (.pr (.int .i64) (.int .i64))))) (.sl (.pr (.int .i64) (.int .i64))))))))))), .agg (.pr (.pr (.int .i64) (.pr (.int .i64) (.int .i64))) (.pr (.int .i64) (.pr (.int .i64) (.pr (.int .i64) (.int .i64)))))]
abbrev R_counts_NetOf : List PSh := [.agg (.pr (.pr (.int .i64) (.int .i64)) (.pr (.pr (.int .i64) (.int .i64)) (.pr (.int .i64) (.int .i64)))), .one (.int .i64)]
theorem e_counts_NetOf : cFn Try.prog 35 = some F_counts_NetOf.erase := by kernel_rfl
theorem k_counts_NetOf : callable Try.prog 35 = true := by kernel_rfl
/-- cloverleaf/cloverleafref06.Live -/
def F_ref06_Live : TFn := ⟨34, 5, [.celln 4 6],
  (.seq (.reg [⟨some 2, none, (.op (.box 0 (.t 0)))⟩,
    ⟨some 3, none, (.op (.box 1 (.t 1)))⟩,
    ⟨some 4, none, (.op (.newz 2 [(.p (.int .i64 0)), (.p (.int .i64 0)), (.p (.int .i64 0)), (.p (.int .i64 0)), (.p (.int .i64 0)), (.p (.int .i64 0))]))⟩])
  (.seq (.reg [⟨some 5, none, (.op (.newz 3 [(.p (.int .i64 0)), (.p (.int .i64 0)), (.p (.int .i64 0)), (.p (.int .i64 0)), (.p (.int .i64 0)), (.p (.int .i64 0))]))⟩])
  (.seq (.seq (.reg [⟨some 6, none, (.op (.mv (.c (.p (.int .i64 0)))))⟩])
  (.block 0 (.loop [.v 6 (.int .i64), .c 3 (.pr (.int .i64) (.pr (.int .i64) (.pr (.int .i64) (.pr (.int .i64) (.pr (.int .i64) (.int .i64))))))] [3] [] (.seq (.seq (.reg [⟨some 8, none, (.op (.mv (.t 6)))⟩,
    ⟨some 9, none, (.op (.bin .lss (.t 8) (.c (.p (.int .i64 3)))))⟩])
  (.cond (.t 9) .skip (.exit 0)))
  (.seq (.block 1 (.seq (.regd [⟨some 12, none, (.op (.mv (.t 6)))⟩,
    ⟨some 13, none, (.op (.fa 0 (.t 3)))⟩,
    ⟨some 14, none, (.op (.iaa 1 3 (.t 13) (.t 12)))⟩,
    ⟨some 15, none, (.op (.ld1 (.t 14)))⟩,
    ⟨some 16, none, (.op (.bin .mul (.c (.p (.int .i64 1000))) (.t 15)))⟩,
    ⟨some 17, none, (.op (.fa 0 (.t 2)))⟩,
    ⟨some 18, none, (.op (.ld1 (.t 17)))⟩,
    ⟨some 19, none, (.op (.bin .mul (.t 16) (.t 18)))⟩,
    ⟨some 7, none, (.op (.mv (.t 19)))⟩] [(3, 6)] [])
  (.reg [⟨some 20, none, (.op (.mv (.t 6)))⟩,
    ⟨some 21, none, (.op (.mv (.t 7)))⟩,
    ⟨some 22, none, (.op (.mv (.t 7)))⟩,
    ⟨some 23, none, (.op (.fa 0 (.t 2)))⟩,
    ⟨some 24, none, (.op (.ld1 (.t 23)))⟩,
    ⟨some 25, none, (.op (.fa 1 (.t 2)))⟩,
    ⟨some 26, none, (.op (.ld1 (.t 25)))⟩,
    ⟨some 27, none, (.op (.fa 3 (.t 3)))⟩,
    ⟨some 28, none, (.op (.ld1 (.t 27)))⟩,
    ⟨some 29, none, (.op (.bin .mul (.t 26) (.t 28)))⟩,
    ⟨some 30, none, (.op (.bin .sub (.t 24) (.t 29)))⟩,
    ⟨some 31, none, (.call 4 91 [(.t 21), (.t 22), (.t 30)])⟩,
    ⟨some 32, none, (.op (.iaa 2 3 (.t 5) (.t 20)))⟩,
    ⟨none, none, (.op (.st 2 (.t 32) (.t 31)))⟩])))
  (.reg [⟨some 10, none, (.op (.mv (.t 6)))⟩,
    ⟨some 11, none, (.op (.bin .add (.t 10) (.c (.p (.int .i64 1)))))⟩,
    ⟨some 6, none, (.op (.mv (.t 11)))⟩]))))))
  (.seq (.reg [⟨some 33, none, (.op (.ldn 6 (.t 5)))⟩,
    ⟨none, none, (.op (.st 6 (.t 4) (.t 33)))⟩])
  .ret))))⟩
def A_ref06_Live : Nat → Ty := tyAt [.un, .un, .un, .un, .un]
abbrev P_ref06_Live : List PSh := [.agg (.pr (.int .i64) (.pr (.int .i64) (.pr (.pr (.int .i64) (.pr (.int .i64) (.int .i64))) (.pr (.pr (.int .i64) (.pr (.int .i64) (.int .i64))) (.pr (.int .i64) (.pr (.int .i64) (.pr (.pr (.int .i64) (.pr (.int .i64) (.int .i64))) (.pr (.pr (.pr (.int .i64) (.pr (.int .i64) (.int .i64))) (.pr (.pr (.int .i64) (.pr (.int .i64) (.int .i64))) (.pr (.int .i64) (.pr (.int .i64) (.int .i64))))) (.sl (.pr (.int .i64) (.int .i64))))))))))), .agg (.pr (.pr (.int .i64) (.pr (.int .i64) (.int .i64))) (.pr (.int .i64) (.pr (.int .i64) (.pr (.int .i64) (.int .i64)))))]
abbrev R_ref06_Live : List PSh := [.agg (.pr (.pr (.int .i64) (.int .i64)) (.pr (.pr (.int .i64) (.int .i64)) (.pr (.int .i64) (.int .i64))))]
theorem e_ref06_Live : cFn Try.prog 36 = some F_ref06_Live.erase := by kernel_rfl
theorem k_ref06_Live : callable Try.prog 36 = true := by kernel_rfl
/-- cloverleaf/cloverleafref06.Background -/
def F_ref06_Background : TFn := ⟨26, 4, [.celln 4 3],
  (.seq (.reg [⟨some 2, none, (.op (.box 0 (.t 0)))⟩,
    ⟨some 3, none, (.op (.box 1 (.t 1)))⟩,
    ⟨some 4, none, (.op (.newz 2 [(.p (.int .i64 0)), (.p (.int .i64 0)), (.p (.int .i64 0))]))⟩])
  (.seq (.reg [⟨some 5, none, (.op (.newz 3 [(.p (.int .i64 0)), (.p (.int .i64 0)), (.p (.int .i64 0))]))⟩])
  (.seq (.seq (.reg [⟨some 6, none, (.op (.mv (.c (.p (.int .i64 0)))))⟩])
  (.block 0 (.loop [.v 6 (.int .i64), .c 3 (.pr (.int .i64) (.pr (.int .i64) (.int .i64)))] [3] [] (.seq (.seq (.reg [⟨some 7, none, (.op (.mv (.t 6)))⟩,
    ⟨some 8, none, (.op (.bin .lss (.t 7) (.c (.p (.int .i64 3)))))⟩])
  (.cond (.t 8) .skip (.exit 0)))
  (.seq (.block 1 (.regd [⟨some 11, none, (.op (.mv (.t 6)))⟩,
    ⟨some 12, none, (.op (.mv (.t 6)))⟩,
    ⟨some 13, none, (.op (.fa 2 (.t 2)))⟩,
    ⟨some 14, none, (.op (.iaa 1 3 (.t 13) (.t 12)))⟩,
    ⟨some 15, none, (.op (.ld1 (.t 14)))⟩,
    ⟨some 16, none, (.op (.mv (.t 6)))⟩,
    ⟨some 17, none, (.op (.fa 5 (.t 2)))⟩,
    ⟨some 18, none, (.op (.iaa 1 3 (.t 17) (.t 16)))⟩,
    ⟨some 19, none, (.op (.ld1 (.t 18)))⟩,
    ⟨some 20, none, (.op (.fa 4 (.t 3)))⟩,
    ⟨some 21, none, (.op (.ld1 (.t 20)))⟩,
    ⟨some 22, none, (.op (.bin .mul (.t 19) (.t 21)))⟩,
    ⟨some 23, none, (.op (.bin .add (.t 15) (.t 22)))⟩,
    ⟨some 24, none, (.op (.iaa 1 3 (.t 5) (.t 11)))⟩,
    ⟨none, none, (.op (.st 1 (.t 24) (.t 23)))⟩] [(4, 8), (4, 10), (8, 10)] []))
  (.reg [⟨some 9, none, (.op (.mv (.t 6)))⟩,
    ⟨some 10, none, (.op (.bin .add (.t 9) (.c (.p (.int .i64 1)))))⟩,
    ⟨some 6, none, (.op (.mv (.t 10)))⟩]))))))
  (.seq (.reg [⟨some 25, none, (.op (.ldn 3 (.t 5)))⟩,
    ⟨none, none, (.op (.st 3 (.t 4) (.t 25)))⟩])
  .ret))))⟩
def A_ref06_Background : Nat → Ty := tyAt [.un, .un, .un, .un]
abbrev P_ref06_Background : List PSh := [.agg (.pr (.int .i64) (.pr (.int .i64) (.pr (.pr (.int .i64) (.pr (.int .i64) (.int .i64))) (.pr (.pr (.int .i64) (.pr (.int .i64) (.int .i64))) (.pr (.int .i64) (.pr (.int .i64) (.pr (.pr (.int .i64) (.pr (.int .i64) (.int .i64))) (.pr (.pr (.pr (.int .i64) (.pr (.int .i64) (.int .i64))) (.pr (.pr (.int .i64) (.pr (.int .i64) (.int .i64))) (.pr (.int .i64) (.pr (.int .i64) (.int .i64))))) (.sl (.pr (.int .i64) (.int .i64))))))))))), .agg (.pr (.pr (.int .i64) (.pr (.int .i64) (.int .i64))) (.pr (.int .i64) (.pr (.int .i64) (.pr (.int .i64) (.int .i64)))))]
abbrev R_ref06_Background : List PSh := [.agg (.pr (.int .i64) (.pr (.int .i64) (.int .i64)))]
theorem e_ref06_Background : cFn Try.prog 37 = some F_ref06_Background.erase := by kernel_rfl
theorem k_ref06_Background : callable Try.prog 37 = true := by kernel_rfl
/-- cloverleaf/cloverleafref06.Radon -/
def F_ref06_Radon : TFn := ⟨43, 7, [.celln 4 2],
  (.seq (.reg [⟨some 2, none, (.op (.box 0 (.t 0)))⟩,
    ⟨some 3, none, (.op (.box 1 (.t 1)))⟩,
    ⟨some 4, none, (.op (.newz 2 [(.p (.int .i64 0)), (.p (.int .i64 0))]))⟩])
  (.seq (.regd [⟨some 8, none, (.op (.ldn 23 (.t 2)))⟩,
    ⟨some 9, none, (.op (.ldn 7 (.t 3)))⟩,
    ⟨some 10, none, (.call 3 36 [(.t 8), (.t 9)])⟩,
    ⟨some 11, none, (.op (.idx 2 3 true (.t 10) (.c (.p (.int .i64 1)))))⟩,
    ⟨some 12, none, (.op (.ldn 23 (.t 2)))⟩,
    ⟨some 13, none, (.op (.ldn 7 (.t 3)))⟩,
    ⟨some 14, none, (.call 4 37 [(.t 12), (.t 13)])⟩,
    ⟨some 15, none, (.op (.idx 1 3 false (.t 14) (.c (.p (.int .i64 1)))))⟩,
    ⟨some 5, none, (.op (.newz 5 [(.p (.int .i64 0)), (.p (.int .i64 0))]))⟩,
    ⟨none, none, (.op (.st 2 (.t 5) (.t 11)))⟩,
    ⟨some 6, none, (.op (.mv (.t 15)))⟩] [(0, 1), (0, 4), (1, 4), (2, 4), (0, 5), (1, 5), (2, 5), (4, 5), (0, 8), (1, 8), (2, 8), (4, 8), (5, 8), (6, 8)] [])
  (.seq (.reg [⟨some 16, none, (.op (.fa 5 (.t 3)))⟩,
    ⟨some 17, none, (.op (.ld1 (.t 16)))⟩,
    ⟨some 18, none, (.op (.bin .mul (.c (.p (.int .i64 1000000))) (.t 17)))⟩,
    ⟨some 7, none, (.op (.mv (.t 18)))⟩])
  (.seq (.reg [⟨some 19, none, (.op (.mv (.t 7)))⟩,
    ⟨some 20, none, (.op (.fa 8 (.t 2)))⟩,
    ⟨some 21, none, (.op (.ld1 (.t 20)))⟩,
    ⟨some 22, none, (.op (.fa 1 (.t 5)))⟩,
    ⟨some 23, none, (.op (.ld1 (.t 22)))⟩,
    ⟨some 24, none, (.op (.mv (.t 6)))⟩,
    ⟨some 25, none, (.op (.bin .sub (.t 23) (.t 24)))⟩,
    ⟨some 26, none, (.op (.bin .mul (.t 21) (.t 25)))⟩,
    ⟨some 27, none, (.op (.bin .sub (.t 19) (.t 26)))⟩,
    ⟨some 28, none, (.op (.mv (.t 7)))⟩,
    ⟨some 29, none, (.op (.fa 8 (.t 2)))⟩,
    ⟨some 30, none, (.op (.ld1 (.t 29)))⟩,
    ⟨some 31, none, (.op (.fa 0 (.t 5)))⟩,
    ⟨some 32, none, (.op (.ld1 (.t 31)))⟩,
    ⟨some 33, none, (.op (.mv (.t 6)))⟩,
    ⟨some 34, none, (.op (.bin .sub (.t 32) (.t 33)))⟩,
    ⟨some 35, none, (.op (.bin .mul (.t 30) (.t 34)))⟩,
    ⟨some 36, none, (.op (.bin .sub (.t 28) (.t 35)))⟩,
    ⟨some 37, none, (.op (.fa 9 (.t 2)))⟩,
    ⟨some 38, none, (.op (.ld1 (.t 37)))⟩,
    ⟨some 39, none, (.op (.fa 8 (.t 2)))⟩,
    ⟨some 40, none, (.op (.ld1 (.t 39)))⟩,
    ⟨some 41, none, (.op (.bin .sub (.t 38) (.t 40)))⟩,
    ⟨some 42, none, (.call 6 91 [(.t 27), (.t 36), (.t 41)])⟩,
    ⟨none, none, (.op (.st 2 (.t 4) (.t 42)))⟩])
  .ret))))⟩
def A_ref06_Radon : Nat → Ty := tyAt [.un, .un, .un, .un, .un, .un, .un]
abbrev P_ref06_Radon : List PSh := [.agg (.pr (.int .i64) (.pr (.int .i64) (.pr (.pr (.int .i64) (.pr (.int .i64) (.int .i64))) (.pr (.pr (.int .i64) (.pr (.int .i64) (.int .i64))) (.pr (.int .i64) (.pr (.int .i64) (.pr (.pr (.int .i64) (.pr (.int .i64) (.int .i64))) (.pr (.pr (.pr (.int .i64) (.pr (.int .i64) (.int .i64))) (.pr (.pr (.int .i64) (.pr (.int .i64) (.int .i64))) (.pr (.int .i64) (.pr (.int .i64) (.int .i64))))) (.sl (.pr (.int .i64) (.int .i64))))))))))), .agg (.pr (.pr (.int .i64) (.pr (.int .i64) (.int .i64))) (.pr (.int .i64) (.pr (.int .i64) (.pr (.int .i64) (.int .i64)))))]
abbrev R_ref06_Radon : List PSh := [.agg (.pr (.int .i64) (.int .i64))]
theorem e_ref06_Radon : cFn Try.prog 38 = some F_ref06_Radon.erase := by kernel_rfl
theorem k_ref06_Radon : callable Try.prog 38 = true := by kernel_rfl
/-- cloverleaf/cloverleafref06.Net -/
def F_ref06_Net : TFn := ⟨65, 12, [.celln 4 6],
  (.seq (.reg [⟨some 2, none, (.op (.box 0 (.t 0)))⟩,
    ⟨some 3, none, (.op (.box 1 (.t 1)))⟩,
    ⟨some 4, none, (.op (.newz 2 [(.p (.int .i64 0)), (.p (.int .i64 0)), (.p (.int .i64 0)), (.p (.int .i64 0)), (.p (.int .i64 0)), (.p (.int .i64 0))]))⟩])
  (.seq (.regd [⟨some 11, none, (.op (.ldn 23 (.t 2)))⟩,
    ⟨some 12, none, (.op (.ldn 7 (.t 3)))⟩,
    ⟨some 13, none, (.call 3 36 [(.t 11), (.t 12)])⟩,
    ⟨some 14, none, (.op (.ldn 23 (.t 2)))⟩,
    ⟨some 15, none, (.op (.ldn 7 (.t 3)))⟩,
    ⟨some 16, none, (.call 4 37 [(.t 14), (.t 15)])⟩,
    ⟨some 17, none, (.op (.ldn 23 (.t 2)))⟩,
    ⟨some 18, none, (.op (.ldn 7 (.t 3)))⟩,
    ⟨some 19, none, (.call 5 38 [(.t 17), (.t 18)])⟩,
    ⟨some 5, none, (.op (.newz 6 [(.p (.int .i64 0)), (.p (.int .i64 0)), (.p (.int .i64 0)), (.p (.int .i64 0)), (.p (.int .i64 0)), (.p (.int .i64 0))]))⟩,
    ⟨some 6, none, (.op (.newz 7 [(.p (.int .i64 0)), (.p (.int .i64 0)), (.p (.int .i64 0))]))⟩,
    ⟨some 7, none, (.op (.newz 8 [(.p (.int .i64 0)), (.p (.int .i64 0))]))⟩,
    ⟨none, none, (.op (.st 6 (.t 5) (.t 13)))⟩,
    ⟨none, none, (.op (.st 3 (.t 6) (.t 16)))⟩,
    ⟨none, none, (.op (.st 2 (.t 7) (.t 19)))⟩] [(0, 1), (0, 3), (1, 3), (2, 3), (0, 4), (1, 4), (2, 4), (3, 4), (0, 6), (1, 6), (2, 6), (3, 6), (4, 6), (5, 6), (0, 7), (1, 7), (2, 7), (3, 7), (4, 7), (5, 7), (6, 7), (0, 9), (1, 9), (2, 9), (3, 9), (4, 9), (5, 9), (6, 9), (7, 9), (8, 9), (0, 10), (1, 10), (2, 10), (3, 10), (4, 10), (5, 10), (6, 10), (7, 10), (8, 10), (9, 10), (0, 11), (1, 11), (2, 11), (3, 11), (4, 11), (5, 11), (6, 11), (7, 11), (8, 11), (9, 11), (10, 11)] [])
  (.seq (.reg [⟨some 8, none, (.op (.newz 9 [(.p (.int .i64 0)), (.p (.int .i64 0)), (.p (.int .i64 0)), (.p (.int .i64 0)), (.p (.int .i64 0)), (.p (.int .i64 0))]))⟩])
  (.seq (.seq (.reg [⟨some 9, none, (.op (.mv (.c (.p (.int .i64 0)))))⟩])
  (.block 0 (.loop [.v 9 (.int .i64), .c 9 (.pr (.int .i64) (.pr (.int .i64) (.pr (.int .i64) (.pr (.int .i64) (.pr (.int .i64) (.int .i64))))))] [9, 11] [11] (.seq (.seq (.reg [⟨some 20, none, (.op (.mv (.t 9)))⟩,
    ⟨some 21, none, (.op (.bin .lss (.t 20) (.c (.p (.int .i64 3)))))⟩])
  (.cond (.t 21) .skip (.exit 0)))
  (.seq (.block 1 (.seq (.regd [⟨some 24, none, (.op (.mv (.t 9)))⟩,
    ⟨some 25, none, (.op (.fa 10 (.t 2)))⟩,
    ⟨some 26, none, (.op (.iaa 1 3 (.t 25) (.t 24)))⟩,
    ⟨some 27, none, (.op (.ld1 (.t 26)))⟩,
    ⟨some 28, none, (.op (.fa 0 (.t 7)))⟩,
    ⟨some 29, none, (.op (.ld1 (.t 28)))⟩,
    ⟨some 30, none, (.op (.bin .mul (.t 27) (.t 29)))⟩,
    ⟨some 31, none, (.op (.mv (.t 9)))⟩,
    ⟨some 32, none, (.op (.fa 10 (.t 2)))⟩,
    ⟨some 33, none, (.op (.iaa 1 3 (.t 32) (.t 31)))⟩,
    ⟨some 34, none, (.op (.ld1 (.t 33)))⟩,
    ⟨some 35, none, (.op (.fa 1 (.t 7)))⟩,
    ⟨some 36, none, (.op (.ld1 (.t 35)))⟩,
    ⟨some 37, none, (.op (.bin .mul (.t 34) (.t 36)))⟩,
    ⟨some 38, none, (.call 10 91 [(.t 30), (.t 37), (.c (.p (.int .i64 1000)))])⟩,
    ⟨some 10, none, (.op (.newz 11 [(.p (.int .i64 0)), (.p (.int .i64 0))]))⟩,
    ⟨none, none, (.op (.st 2 (.t 10) (.t 38)))⟩] [(3, 5), (3, 10), (5, 10), (3, 12), (5, 12), (10, 12), (3, 15), (5, 15), (10, 15), (12, 15), (14, 15)] [])
  (.regd [⟨some 39, none, (.op (.mv (.t 9)))⟩,
    ⟨some 40, none, (.op (.mv (.t 9)))⟩,
    ⟨some 41, none, (.op (.iaa 2 3 (.t 5) (.t 40)))⟩,
    ⟨some 42, none, (.op (.fa 0 (.t 41)))⟩,
    ⟨some 43, none, (.op (.ld1 (.t 42)))⟩,
    ⟨some 44, none, (.op (.mv (.t 9)))⟩,
    ⟨some 45, none, (.op (.iaa 1 3 (.t 6) (.t 44)))⟩,
    ⟨some 46, none, (.op (.ld1 (.t 45)))⟩,
    ⟨some 47, none, (.op (.bin .sub (.t 43) (.t 46)))⟩,
    ⟨some 48, none, (.op (.fa 1 (.t 10)))⟩,
    ⟨some 49, none, (.op (.ld1 (.t 48)))⟩,
    ⟨some 50, none, (.op (.bin .sub (.t 47) (.t 49)))⟩,
    ⟨some 51, none, (.op (.mv (.t 9)))⟩,
    ⟨some 52, none, (.op (.iaa 2 3 (.t 5) (.t 51)))⟩,
    ⟨some 53, none, (.op (.fa 1 (.t 52)))⟩,
    ⟨some 54, none, (.op (.ld1 (.t 53)))⟩,
    ⟨some 55, none, (.op (.mv (.t 9)))⟩,
    ⟨some 56, none, (.op (.iaa 1 3 (.t 6) (.t 55)))⟩,
    ⟨some 57, none, (.op (.ld1 (.t 56)))⟩,
    ⟨some 58, none, (.op (.bin .sub (.t 54) (.t 57)))⟩,
    ⟨some 59, none, (.op (.fa 0 (.t 10)))⟩,
    ⟨some 60, none, (.op (.ld1 (.t 59)))⟩,
    ⟨some 61, none, (.op (.bin .sub (.t 58) (.t 60)))⟩,
    ⟨some 62, none, (.op (.build [(.p (.int .i64 0)), (.p (.int .i64 0))] [(0, 1, (.t 50)), (1, 1, (.t 61))]))⟩,
    ⟨some 63, none, (.op (.iaa 2 3 (.t 8) (.t 39)))⟩,
    ⟨none, none, (.op (.st 2 (.t 63) (.t 62)))⟩] [(4, 7), (4, 10), (7, 10), (4, 15), (7, 15), (10, 15), (4, 18), (7, 18), (10, 18), (15, 18), (4, 21), (7, 21), (10, 21), (15, 21), (18, 21)] [])))
  (.reg [⟨some 22, none, (.op (.mv (.t 9)))⟩,
    ⟨some 23, none, (.op (.bin .add (.t 22) (.c (.p (.int .i64 1)))))⟩,
    ⟨some 9, none, (.op (.mv (.t 23)))⟩]))))))
  (.seq (.reg [⟨some 64, none, (.op (.ldn 6 (.t 8)))⟩,
    ⟨none, none, (.op (.st 6 (.t 4) (.t 64)))⟩])
  .ret)))))⟩
def A_ref06_Net : Nat → Ty := tyAt [.un, .un, .un, .un, .un, .un, .un, .un, .un, .un, .un, .un]
abbrev P_ref06_Net : List PSh := [.agg (.pr (.int .i64) (.pr (.int .i64) (.pr (.pr (.int .i64) (.pr (.int .i64) (.int .i64))) (.pr (.pr (.int .i64) (.pr (.int .i64) (.int .i64))) (.pr (.int .i64) (.pr (.int .i64) (.pr (.pr (.int .i64) (.pr (.int .i64) (.int .i64))) (.pr (.pr (.pr (.int .i64) (.pr (.int .i64) (.int .i64))) (.pr (.pr (.int .i64) (.pr (.int .i64) (.int .i64))) (.pr (.int .i64) (.pr (.int .i64) (.int .i64))))) (.sl (.pr (.int .i64) (.int .i64))))))))))), .agg (.pr (.pr (.int .i64) (.pr (.int .i64) (.int .i64))) (.pr (.int .i64) (.pr (.int .i64) (.pr (.int .i64) (.int .i64)))))]
abbrev R_ref06_Net : List PSh := [.agg (.pr (.pr (.int .i64) (.int .i64)) (.pr (.pr (.int .i64) (.int .i64)) (.pr (.int .i64) (.int .i64))))]
theorem e_ref06_Net : cFn Try.prog 39 = some F_ref06_Net.erase := by kernel_rfl
theorem k_ref06_Net : callable Try.prog 39 = true := by kernel_rfl
/-- cloverleaf/cloverleafbase.Within -/
def F_base_Within : TFn := ⟨15, 0, [.tmp 6],
  (.seq (.reg [⟨some 6, none, (.op (.mv (.c (.p (.bool false)))))⟩])
  (.seq (.reg [⟨some 7, none, (.op (.mv (.t 1)))⟩,
    ⟨some 8, none, (.op (.mv (.t 0)))⟩,
    ⟨some 9, none, (.op (.bin .leq (.t 7) (.t 8)))⟩,
    ⟨some 10, none, (.op (.mv (.t 9)))⟩,
    ⟨some 11, some (some 10, true), (.op (.mv (.t 0)))⟩,
    ⟨some 12, some (some 10, true), (.op (.mv (.t 2)))⟩,
    ⟨some 13, some (some 10, true), (.op (.bin .leq (.t 11) (.t 12)))⟩,
    ⟨some 14, none, (.op (.pick (.t 10) (.t 13) (.c (.p (.bool false)))))⟩,
    ⟨some 6, none, (.op (.mv (.t 14)))⟩])
  .ret))⟩
def A_base_Within : Nat → Ty := tyAt []
abbrev P_base_Within : List PSh := [.one (.int .i64), .one (.int .i64), .one (.int .i64)]
abbrev R_base_Within : List PSh := [.one .bool]
theorem e_base_Within : cFn Try.prog 40 = some F_base_Within.erase := by kernel_rfl
theorem k_base_Within : callable Try.prog 40 = true := by kernel_rfl
/-- cloverleaf/counts.InverseOf -/
def F_counts_InverseOf : TFn := ⟨17, 5, [.celln 2 10, .tmp 3],
  (.seq (.reg [⟨some 1, none, (.op (.box 0 (.t 0)))⟩,
    ⟨some 2, none, (.op (.newz 1 [(.p (.int .i64 0)), (.p (.int .i64 0)), (.p (.int .i64 0)), (.p (.int .i64 0)), (.p (.int .i64 0)), (.p (.int .i64 0)), (.p (.int .i64 0)), (.p (.int .i64 0)), (.p (.int .i64 0)), (.p (.int .i64 0))]))⟩,
    ⟨some 3, none, (.op (.mv (.c (.p (.int .i64 0)))))⟩])
  (.seq (.reg [⟨some 7, none, (.op (.ldn 23 (.t 1)))⟩,
    ⟨some 8, none, (.call 2 82 [(.t 7)])⟩,
    ⟨some 6, none, (.op (.mv (.t 8)))⟩,
    ⟨some 9, none, (.op (.ext 0 (.t 6)))⟩,
    ⟨some 10, none, (.op (.ext 1 (.t 6)))⟩,
    ⟨some 4, none, (.op (.newz 3 [(.p (.int .i64 0)), (.p (.int .i64 0)), (.p (.int .i64 0)), (.p (.int .i64 0)), (.p (.int .i64 0)), (.p (.int .i64 0)), (.p (.int .i64 0)), (.p (.int .i64 0)), (.p (.int .i64 0)), (.p (.int .i64 0)), (.p (.int .i64 0)), (.p (.int .i64 0)), (.p (.int .i64 0)), (.p (.int .i64 0)), (.p (.int .i64 0)), (.p (.int .i64 0)), (.p (.int .i64 0)), (.p (.int .i64 0)), (.p (.int .i64 0)), (.p (.int .i64 0)), (.p (.int .i64 0)), (.p (.int .i64 0)), (.p (.sl 0 [] true))]))⟩,
    ⟨none, none, (.op (.st 23 (.t 4) (.t 9)))⟩,
    ⟨some 5, none, (.op (.mv (.t 10)))⟩])
  (.seq (.seq (.reg [⟨some 11, none, (.op (.mv (.t 5)))⟩,
    ⟨some 12, none, (.op (.bin .neq (.t 11) (.c (.p (.int .i64 0)))))⟩])
  (.cond (.t 12) (.seq (.reg [⟨some 13, none, (.op (.build [(.p (.int .i64 0)), (.p (.int .i64 0)), (.p (.int .i64 0)), (.p (.int .i64 0)), (.p (.int .i64 0)), (.p (.int .i64 0)), (.p (.int .i64 0)), (.p (.int .i64 0)), (.p (.int .i64 0)), (.p (.int .i64 0))] []))⟩,
    ⟨some 14, none, (.op (.mv (.t 5)))⟩,
    ⟨none, none, (.op (.st 10 (.t 2) (.t 13)))⟩,
    ⟨some 3, none, (.op (.mv (.t 14)))⟩])
  .ret) .skip))
  (.seq (.reg [⟨some 15, none, (.op (.ldn 23 (.t 4)))⟩,
    ⟨some 16, none, (.call 4 96 [(.t 15)])⟩,
    ⟨none, none, (.op (.st 10 (.t 2) (.t 16)))⟩,
    ⟨some 3, none, (.op (.mv (.c (.p (.int .i64 0)))))⟩])
  .ret))))⟩
def A_counts_InverseOf : Nat → Ty := tyAt [.un, .un, .un, .un, .un]
abbrev P_counts_InverseOf : List PSh := [.agg (.pr (.int .i64) (.pr (.int .i64) (.pr (.pr (.int .i64) (.pr (.int .i64) (.int .i64))) (.pr (.pr (.int .i64) (.pr (.int .i64) (.int .i64))) (.pr (.int .i64) (.pr (.int .i64) (.pr (.pr (.int .i64) (.pr (.int .i64) (.int .i64))) (.pr (.pr (.pr (.int .i64) (.pr (.int .i64) (.int .i64))) (.pr (.pr (.int .i64) (.pr (.int .i64) (.int .i64))) (.pr (.int .i64) (.pr (.int .i64) (.int .i64))))) (.sl (.pr (.int .i64) (.int .i64)))))))))))]
abbrev R_counts_InverseOf : List PSh := [.agg (.pr (.pr (.pr (.int .i64) (.pr (.int .i64) (.int .i64))) (.pr (.pr (.int .i64) (.pr (.int .i64) (.int .i64))) (.pr (.int .i64) (.pr (.int .i64) (.int .i64))))) (.int .i64)), .one (.int .i64)]
theorem e_counts_InverseOf : cFn Try.prog 41 = some F_counts_InverseOf.erase := by kernel_rfl
theorem k_counts_InverseOf : callable Try.prog 41 = true := by kernel_rfl
/-- cloverleaf/counts.ReducedOf -/
def F_counts_ReducedOf : TFn := ⟨21, 6, [.celln 4 6, .tmp 5],
  (.seq (.reg [⟨some 2, none, (.op (.box 0 (.t 0)))⟩,
    ⟨some 3, none, (.op (.box 1 (.t 1)))⟩,
    ⟨some 4, none, (.op (.newz 2 [(.p (.int .i64 0)), (.p (.int .i64 0)), (.p (.int .i64 0)), (.p (.int .i64 0)), (.p (.int .i64 0)), (.p (.int .i64 0))]))⟩,
    ⟨some 5, none, (.op (.mv (.c (.p (.int .i64 0)))))⟩])
  (.seq (.reg [⟨some 9, none, (.op (.ldn 23 (.t 2)))⟩,
    ⟨some 10, none, (.op (.ldn 7 (.t 3)))⟩,
    ⟨some 11, none, (.call 3 79 [(.t 9), (.t 10)])⟩,
    ⟨some 8, none, (.op (.mv (.t 11)))⟩,
    ⟨some 12, none, (.op (.ext 0 (.t 8)))⟩,
    ⟨some 13, none, (.op (.ext 1 (.t 8)))⟩,
    ⟨some 6, none, (.op (.newz 4 [(.p (.int .i64 0)), (.p (.int .i64 0)), (.p (.int .i64 0)), (.p (.int .i64 0)), (.p (.int .i64 0)), (.p (.int .i64 0)), (.p (.int .i64 0)), (.p (.int .i64 0)), (.p (.int .i64 0)), (.p (.int .i64 0)), (.p (.int .i64 0)), (.p (.int .i64 0)), (.p (.int .i64 0)), (.p (.int .i64 0)), (.p (.int .i64 0)), (.p (.int .i64 0)), (.p (.int .i64 0)), (.p (.int .i64 0)), (.p (.int .i64 0)), (.p (.int .i64 0)), (.p (.int .i64 0)), (.p (.int .i64 0)), (.p (.sl 0 [] true))]))⟩,
    ⟨none, none, (.op (.st 23 (.t 6) (.t 12)))⟩,
    ⟨some 7, none, (.op (.mv (.t 13)))⟩])
  (.seq (.seq (.reg [⟨some 14, none, (.op (.mv (.t 7)))⟩,
    ⟨some 15, none, (.op (.bin .neq (.t 14) (.c (.p (.int .i64 0)))))⟩])
  (.cond (.t 15) (.seq (.reg [⟨some 16, none, (.op (.build [(.p (.int .i64 0)), (.p (.int .i64 0)), (.p (.int .i64 0)), (.p (.int .i64 0)), (.p (.int .i64 0)), (.p (.int .i64 0))] []))⟩,
    ⟨some 17, none, (.op (.mv (.t 7)))⟩,
    ⟨none, none, (.op (.st 6 (.t 4) (.t 16)))⟩,
    ⟨some 5, none, (.op (.mv (.t 17)))⟩])
  .ret) .skip))
  (.seq (.reg [⟨some 18, none, (.op (.ldn 23 (.t 6)))⟩,
    ⟨some 19, none, (.op (.ldn 7 (.t 3)))⟩,
    ⟨some 20, none, (.call 5 90 [(.t 18), (.t 19)])⟩,
    ⟨none, none, (.op (.st 6 (.t 4) (.t 20)))⟩,
    ⟨some 5, none, (.op (.mv (.c (.p (.int .i64 0)))))⟩])
  .ret))))⟩
def A_counts_ReducedOf : Nat → Ty := tyAt [.un, .un, .un, .un, .un, .un]
abbrev P_counts_ReducedOf : List PSh := [.agg (.pr (.int .i64) (.pr (.int .i64) (.pr (.pr (.int .i64) (.pr (.int .i64) (.int .i64))) (.pr (.pr (.int .i64) (.pr (.int .i64) (.int .i64))) (.pr (.int .i64) (.pr (.int .i64) (.pr (.pr (.int .i64) (.pr (.int .i64) (.int .i64))) (.pr (.pr (.pr (.int .i64) (.pr (.int .i64) (.int .i64))) (.pr (.pr (.int .i64) (.pr (.int .i64) (.int .i64))) (.pr (.int .i64) (.pr (.int .i64) (.int .i64))))) (.sl (.pr (.int .i64) (.int .i64))))))))))), .agg (.pr (.pr (.int .i64) (.pr (.int .i64) (.int .i64))) (.pr (.int .i64) (.pr (.int .i64) (.pr (.int .i64) (.int .i64)))))]
abbrev R_counts_ReducedOf : List PSh := [.agg (.pr (.pr (.int .i64) (.int .i64)) (.pr (.pr (.int .i64) (.int .i64)) (.pr (.int .i64) (.int .i64)))), .one (.int .i64)]
theorem e_counts_ReducedOf : cFn Try.prog 45 = some F_counts_ReducedOf.erase := by kernel_rfl
theorem k_counts_ReducedOf : callable Try.prog 45 = true := by kernel_rfl
/-- cloverleaf/cloverleafbase.Floor -/
def F_base_Floor : TFn := ⟨16, 0, [.tmp 4],
  (.seq (.reg [⟨some 4, none, (.op (.mv (.c (.p (.int .i64 0)))))⟩])
  (.seq (.reg [⟨some 6, none, (.op (.mv (.t 0)))⟩,
    ⟨some 7, none, (.op (.mv (.t 1)))⟩,
    ⟨some 8, none, (.op (.bin .quo (.t 6) (.t 7)))⟩,
    ⟨some 5, none, (.op (.mv (.t 8)))⟩])
  (.seq (.seq (.reg [⟨some 9, none, (.op (.mv (.t 0)))⟩,
    ⟨some 10, none, (.op (.mv (.t 1)))⟩,
    ⟨some 11, none, (.op (.bin .rem (.t 9) (.t 10)))⟩,
    ⟨some 12, none, (.op (.bin .lss (.t 11) (.c (.p (.int .i64 0)))))⟩])
  (.cond (.t 12) (.reg [⟨some 13, none, (.op (.mv (.t 5)))⟩,
    ⟨some 14, none, (.op (.bin .sub (.t 13) (.c (.p (.int .i64 1)))))⟩,
    ⟨some 5, none, (.op (.mv (.t 14)))⟩]) .skip))
  (.seq (.reg [⟨some 15, none, (.op (.mv (.t 5)))⟩,
    ⟨some 4, none, (.op (.mv (.t 15)))⟩])
  .ret))))⟩
def A_base_Floor : Nat → Ty := tyAt []
abbrev P_base_Floor : List PSh := [.one (.int .i64), .one (.int .i64)]
abbrev R_base_Floor : List PSh := [.one (.int .i64)]
theorem e_base_Floor : cFn Try.prog 46 = some F_base_Floor.erase := by kernel_rfl
theorem k_base_Floor : callable Try.prog 46 = true := by kernel_rfl
/-- cloverleaf/cloverleafbase.Ceil -/
def F_base_Ceil : TFn := ⟨10, 1, [.tmp 4],
  (.seq (.reg [⟨some 4, none, (.op (.mv (.c (.p (.int .i64 0)))))⟩])
  (.seq (.reg [⟨some 5, none, (.op (.mv (.t 0)))⟩,
    ⟨some 6, none, (.op (.uneg (.t 5)))⟩,
    ⟨some 7, none, (.op (.mv (.t 1)))⟩,
    ⟨some 8, none, (.call 0 46 [(.t 6), (.t 7)])⟩,
    ⟨some 9, none, (.op (.uneg (.t 8)))⟩,
    ⟨some 4, none, (.op (.mv (.t 9)))⟩])
  .ret))⟩
def A_base_Ceil : Nat → Ty := tyAt [.un]
abbrev P_base_Ceil : List PSh := [.one (.int .i64), .one (.int .i64)]
abbrev R_base_Ceil : List PSh := [.one (.int .i64)]
theorem e_base_Ceil : cFn Try.prog 47 = some F_base_Ceil.erase := by kernel_rfl
theorem k_base_Ceil : callable Try.prog 47 = true := by kernel_rfl
/-- cloverleaf/counts.Shifted -/
def F_counts_Shifted : TFn := ⟨46, 6, [.tmp 4, .tmp 5],
  (.seq (.reg [⟨some 4, none, (.op (.mv (.c (.p (.sl 0 [] true)))))⟩,
    ⟨some 5, none, (.op (.mv (.c (.p (.int .i64 0)))))⟩])
  (.seq (.seq (.reg [⟨some 10, none, (.op (.mv (.t 0)))⟩,
    ⟨some 11, none, (.call 0 101 [(.t 10)])⟩,
    ⟨some 12, none, (.op (.mv (.t 1)))⟩,
    ⟨some 13, none, (.call 1 74 [(.t 12), (.c (.p (.int .i64 (-64)))), (.c (.p (.int .i64 64)))])⟩,
    ⟨some 14, none, (.call 2 78 [(.t 13), (.c (.p (.int .i64 2)))])⟩,
    ⟨some 15, none, (.op (.bsl false 3 1 2 [(.p (.int .i64 0)), (.p (.int .i64 0))] [(0, 1, (.t 11)), (1, 1, (.t 14))]))⟩,
    ⟨some 16, none, (.call 4 77 [(.t 15)])⟩,
    ⟨some 6, none, (.op (.mv (.t 16)))⟩])
  (.seq (.reg [⟨some 17, none, (.op (.mv (.t 6)))⟩,
    ⟨some 18, none, (.op (.bin .neq (.t 17) (.c (.p (.int .i64 0)))))⟩])
  (.cond (.t 18) (.seq (.reg [⟨some 19, none, (.op (.mv (.t 6)))⟩,
    ⟨some 4, none, (.op (.mv (.c (.p (.sl 0 [] true)))))⟩,
    ⟨some 5, none, (.op (.mv (.t 19)))⟩])
  .ret) .skip)))
  (.seq (.reg [⟨some 20, none, (.op (.mv (.t 0)))⟩,
    ⟨some 21, none, (.op (.len false (.t 20)))⟩,
    ⟨some 22, none, (.op (.mk 5 1 8 [(.p (.int .i64 0))] (.t 21)))⟩,
    ⟨some 7, none, (.op (.mv (.t 22)))⟩])
  (.seq (.seq (.reg [⟨some 23, none, (.op (.mv (.t 0)))⟩,
    ⟨some 24, none, (.op (.len false (.t 23)))⟩,
    ⟨some 25, none, (.op (.mv (.c (.p (.int .i64 0)))))⟩])
  (.block 0 (.loop [.v 25 (.int .i64), .d 5 (.int .i64)] [5] [] (.seq (.reg [⟨some 26, none, (.op (.bin .lss (.t 25) (.t 24)))⟩])
  (.seq (.cond (.t 26) .skip (.exit 0))
  (.seq (.block 1 (.seq (.reg [⟨some 27, none, (.op (.mv (.t 25)))⟩,
    ⟨some 28, none, (.op (.ia 1 (.t 23) (.t 25)))⟩,
    ⟨some 29, none, (.op (.ld1 (.t 28)))⟩,
    ⟨some 8, none, (.op (.mv (.t 27)))⟩,
    ⟨some 9, none, (.op (.mv (.t 29)))⟩])
  (.reg [⟨some 30, none, (.op (.mv (.t 7)))⟩,
    ⟨some 31, none, (.op (.mv (.t 0)))⟩,
    ⟨some 32, none, (.op (.len false (.t 31)))⟩,
    ⟨some 33, none, (.op (.bin .sub (.t 32) (.c (.p (.int .i64 1)))))⟩,
    ⟨some 34, none, (.op (.mv (.t 8)))⟩,
    ⟨some 35, none, (.op (.mv (.t 1)))⟩,
    ⟨some 36, none, (.op (.bin .add (.t 34) (.t 35)))⟩,
    ⟨some 37, none, (.op (.mm true (.c (.p (.int .i64 0))) (.t 36)))⟩,
    ⟨some 38, none, (.op (.mm false (.t 33) (.t 37)))⟩,
    ⟨some 39, none, (.op (.ia 1 (.t 30) (.t 38)))⟩,
    ⟨some 40, none, (.op (.ld1 (.t 39)))⟩,
    ⟨some 41, none, (.op (.mv (.t 9)))⟩,
    ⟨some 42, none, (.op (.bin .add (.t 40) (.t 41)))⟩,
    ⟨some 43, none, (.op (.ia 1 (.t 30) (.t 38)))⟩,
    ⟨none, none, (.op (.st 1 (.t 43) (.t 42)))⟩])))
  (.reg [⟨some 44, none, (.op (.bin .add (.t 25) (.c (.p (.int .i64 1)))))⟩,
    ⟨some 25, none, (.op (.mv (.t 44)))⟩])))))))
  (.seq (.reg [⟨some 45, none, (.op (.mv (.t 7)))⟩,
    ⟨some 4, none, (.op (.mv (.t 45)))⟩,
    ⟨some 5, none, (.op (.mv (.c (.p (.int .i64 0)))))⟩])
  .ret)))))⟩
def A_counts_Shifted : Nat → Ty := tyAt [.un, .un, .un, (.int .i64), .un, (.int .i64)]
abbrev P_counts_Shifted : List PSh := [.one (.sl (.int .i64)), .one (.int .i64)]
abbrev R_counts_Shifted : List PSh := [.one (.sl (.int .i64)), .one (.int .i64)]
theorem e_counts_Shifted : cFn Try.prog 52 = some F_counts_Shifted.erase := by kernel_rfl
theorem k_counts_Shifted : callable Try.prog 52 = true := by kernel_rfl
/-- cloverleaf/cloverleafbase.Ints -/
def F_base_Ints : TFn := ⟨26, 0, [.tmp 4],
  (.seq (.reg [⟨some 4, none, (.op (.mv (.c (.p (.bool false)))))⟩])
  (.seq (.seq (.reg [⟨some 6, none, (.op (.mv (.t 0)))⟩,
    ⟨some 7, none, (.op (.len false (.t 6)))⟩,
    ⟨some 8, none, (.op (.mv (.t 1)))⟩,
    ⟨some 9, none, (.op (.len false (.t 8)))⟩,
    ⟨some 10, none, (.op (.bin .neq (.t 7) (.t 9)))⟩])
  (.cond (.t 10) (.seq (.reg [⟨some 4, none, (.op (.mv (.c (.p (.bool false)))))⟩])
  .ret) .skip))
  (.seq (.seq (.reg [⟨some 5, none, (.op (.mv (.c (.p (.int .i64 0)))))⟩])
  (.block 0 (.loop [.v 5 (.int .i64)] [] [] (.seq (.seq (.reg [⟨some 11, none, (.op (.mv (.t 5)))⟩,
    ⟨some 12, none, (.op (.mv (.t 0)))⟩,
    ⟨some 13, none, (.op (.len false (.t 12)))⟩,
    ⟨some 14, none, (.op (.bin .lss (.t 11) (.t 13)))⟩])
  (.cond (.t 14) .skip (.exit 0)))
  (.seq (.block 1 (.seq (.regd [⟨some 17, none, (.op (.mv (.t 0)))⟩,
    ⟨some 18, none, (.op (.mv (.t 5)))⟩,
    ⟨some 19, none, (.op (.ia 1 (.t 17) (.t 18)))⟩,
    ⟨some 20, none, (.op (.ld1 (.t 19)))⟩,
    ⟨some 21, none, (.op (.mv (.t 1)))⟩,
    ⟨some 22, none, (.op (.mv (.t 5)))⟩,
    ⟨some 23, none, (.op (.ia 1 (.t 21) (.t 22)))⟩,
    ⟨some 24, none, (.op (.ld1 (.t 23)))⟩,
    ⟨some 25, none, (.op (.bin .neq (.t 20) (.t 24)))⟩] [(3, 7)] [])
  (.cond (.t 25) (.seq (.reg [⟨some 4, none, (.op (.mv (.c (.p (.bool false)))))⟩])
  .ret) .skip)))
  (.reg [⟨some 15, none, (.op (.mv (.t 5)))⟩,
    ⟨some 16, none, (.op (.bin .add (.t 15) (.c (.p (.int .i64 1)))))⟩,
    ⟨some 5, none, (.op (.mv (.t 16)))⟩]))))))
  (.seq (.reg [⟨some 4, none, (.op (.mv (.c (.p (.bool true)))))⟩])
  .ret))))⟩
def A_base_Ints : Nat → Ty := tyAt []
abbrev P_base_Ints : List PSh := [.one (.sl (.int .i64)), .one (.sl (.int .i64))]
abbrev R_base_Ints : List PSh := [.one .bool]
theorem e_base_Ints : cFn Try.prog 53 = some F_base_Ints.erase := by kernel_rfl
theorem k_base_Ints : callable Try.prog 53 = true := by kernel_rfl
/-- cloverleaf/counts.CheckSpectrum -/
def F_counts_CheckSpectrum : TFn := ⟨24, 5, [.tmp 2, .tmp 3],
  (.seq (.reg [⟨some 2, none, (.op (.mv (.c (.p (.int .i64 0)))))⟩,
    ⟨some 3, none, (.op (.mv (.c (.p (.int .i64 0)))))⟩])
  (.seq (.seq (.reg [⟨some 6, none, (.op (.mv (.t 0)))⟩,
    ⟨some 7, none, (.op (.len false (.t 6)))⟩,
    ⟨some 8, none, (.op (.bin .gtr (.t 7) (.c (.p (.int .i64 0)))))⟩,
    ⟨some 9, none, (.call 0 78 [(.t 8), (.c (.p (.int .i64 10)))])⟩,
    ⟨some 10, none, (.op (.mv (.t 0)))⟩,
    ⟨some 11, none, (.op (.len false (.t 10)))⟩,
    ⟨some 12, none, (.op (.bin .leq (.t 11) (.c (.p (.int .i64 64)))))⟩,
    ⟨some 13, none, (.call 1 78 [(.t 12), (.c (.p (.int .i64 8)))])⟩,
    ⟨some 14, none, (.op (.bsl false 2 1 2 [(.p (.int .i64 0)), (.p (.int .i64 0))] [(0, 1, (.t 9)), (1, 1, (.t 13))]))⟩,
    ⟨some 15, none, (.call 3 77 [(.t 14)])⟩,
    ⟨some 4, none, (.op (.mv (.t 15)))⟩])
  (.seq (.reg [⟨some 16, none, (.op (.mv (.t 4)))⟩,
    ⟨some 17, none, (.op (.bin .neq (.t 16) (.c (.p (.int .i64 0)))))⟩])
  (.cond (.t 17) (.seq (.reg [⟨some 18, none, (.op (.mv (.t 4)))⟩,
    ⟨some 2, none, (.op (.mv (.c (.p (.int .i64 0)))))⟩,
    ⟨some 3, none, (.op (.mv (.t 18)))⟩])
  .ret) .skip)))
  (.seq (.seq (.reg [⟨some 19, none, (.op (.mv (.t 0)))⟩,
    ⟨some 20, none, (.call 4 102 [(.t 19), (.c (.clo 103 []))])⟩,
    ⟨some 5, none, (.op (.mv (.t 20)))⟩])
  (.seq (.reg [⟨some 21, none, (.op (.mv (.t 5)))⟩,
    ⟨some 22, none, (.op (.bin .geq (.t 21) (.c (.p (.int .i64 0)))))⟩])
  (.cond (.t 22) (.seq (.reg [⟨some 23, none, (.op (.mv (.t 5)))⟩,
    ⟨some 2, none, (.op (.mv (.t 23)))⟩,
    ⟨some 3, none, (.op (.mv (.c (.p (.int .i64 2)))))⟩])
  .ret) .skip)))
  (.seq (.reg [⟨some 2, none, (.op (.mv (.c (.p (.int .i64 0)))))⟩,
    ⟨some 3, none, (.op (.mv (.c (.p (.int .i64 0)))))⟩])
  .ret))))⟩
def A_counts_CheckSpectrum : Nat → Ty := tyAt [.un, .un, (.int .i64), .un, .un]
abbrev P_counts_CheckSpectrum : List PSh := [.one (.sl (.int .i64))]
abbrev R_counts_CheckSpectrum : List PSh := [.one (.int .i64), .one (.int .i64)]
theorem e_counts_CheckSpectrum : cFn Try.prog 54 = some F_counts_CheckSpectrum.erase := by kernel_rfl
theorem k_counts_CheckSpectrum : callable Try.prog 54 = true := by kernel_rfl
/-- cloverleaf/cloverleafref06.Inverse -/
def F_ref06_Inverse : TFn := ⟨114, 5, [.celln 2 10],
  (.seq (.reg [⟨some 1, none, (.op (.box 0 (.t 0)))⟩,
    ⟨some 2, none, (.op (.newz 1 [(.p (.int .i64 0)), (.p (.int .i64 0)), (.p (.int .i64 0)), (.p (.int .i64 0)), (.p (.int .i64 0)), (.p (.int .i64 0)), (.p (.int .i64 0)), (.p (.int .i64 0)), (.p (.int .i64 0)), (.p (.int .i64 0))]))⟩])
  (.seq (.reg [⟨some 15, none, (.op (.fa 13 (.t 1)))⟩,
    ⟨some 16, none, (.op (.ldn 9 (.t 15)))⟩,
    ⟨some 3, none, (.op (.newz 2 [(.p (.int .i64 0)), (.p (.int .i64 0)), (.p (.int .i64 0)), (.p (.int .i64 0)), (.p (.int .i64 0)), (.p (.int .i64 0)), (.p (.int .i64 0)), (.p (.int .i64 0)), (.p (.int .i64 0))]))⟩,
    ⟨none, none, (.op (.st 9 (.t 3) (.t 16)))⟩])
  (.seq (.reg [⟨some 4, none, (.op (.newz 3 [(.p (.int .i64 0)), (.p (.int .i64 0)), (.p (.int .i64 0)), (.p (.int .i64 0)), (.p (.int .i64 0)), (.p (.int .i64 0)), (.p (.int .i64 0)), (.p (.int .i64 0)), (.p (.int .i64 0)), (.p (.int .i64 0))]))⟩])
  (.seq (.seq (.reg [⟨some 5, none, (.op (.mv (.c (.p (.int .i64 0)))))⟩])
  (.block 0 (.loop [.v 5 (.int .i64), .c 3 (.pr (.int .i64) (.pr (.int .i64) (.pr (.int .i64) (.pr (.int .i64) (.pr (.int .i64) (.pr (.int .i64) (.pr (.int .i64) (.pr (.int .i64) (.pr (.int .i64) (.int .i64))))))))))] [3] [] (.seq (.seq (.reg [⟨some 17, none, (.op (.mv (.t 5)))⟩,
    ⟨some 18, none, (.op (.bin .lss (.t 17) (.c (.p (.int .i64 3)))))⟩])
  (.cond (.t 18) .skip (.exit 0)))
  (.seq (.block 1 (.seq (.reg [⟨some 6, none, (.op (.mv (.c (.p (.int .i64 0)))))⟩])
  (.block 2 (.loop [.v 6 (.int .i64), .c 3 (.pr (.int .i64) (.pr (.int .i64) (.pr (.int .i64) (.pr (.int .i64) (.pr (.int .i64) (.pr (.int .i64) (.pr (.int .i64) (.pr (.int .i64) (.pr (.int .i64) (.int .i64))))))))))] [3] [] (.seq (.seq (.reg [⟨some 21, none, (.op (.mv (.t 6)))⟩,
    ⟨some 22, none, (.op (.bin .lss (.t 21) (.c (.p (.int .i64 3)))))⟩])
  (.cond (.t 22) .skip (.exit 2)))
  (.seq (.block 3 (.seq (.reg [⟨some 25, none, (.op (.mv (.t 6)))⟩,
    ⟨some 26, none, (.op (.bin .add (.t 25) (.c (.p (.int .i64 1)))))⟩,
    ⟨some 27, none, (.op (.bin .rem (.t 26) (.c (.p (.int .i64 3)))))⟩,
    ⟨some 28, none, (.op (.mv (.t 6)))⟩,
    ⟨some 29, none, (.op (.bin .add (.t 28) (.c (.p (.int .i64 2)))))⟩,
    ⟨some 30, none, (.op (.bin .rem (.t 29) (.c (.p (.int .i64 3)))))⟩,
    ⟨some 31, none, (.op (.mv (.t 5)))⟩,
    ⟨some 32, none, (.op (.bin .add (.t 31) (.c (.p (.int .i64 1)))))⟩,
    ⟨some 33, none, (.op (.bin .rem (.t 32) (.c (.p (.int .i64 3)))))⟩,
    ⟨some 34, none, (.op (.mv (.t 5)))⟩,
    ⟨some 35, none, (.op (.bin .add (.t 34) (.c (.p (.int .i64 2)))))⟩,
    ⟨some 36, none, (.op (.bin .rem (.t 35) (.c (.p (.int .i64 3)))))⟩,
    ⟨some 7, none, (.op (.mv (.t 27)))⟩,
    ⟨some 8, none, (.op (.mv (.t 30)))⟩,
    ⟨some 9, none, (.op (.mv (.t 33)))⟩,
    ⟨some 10, none, (.op (.mv (.t 36)))⟩])
  (.regd [⟨some 37, none, (.op (.mv (.t 5)))⟩,
    ⟨some 38, none, (.op (.mv (.t 6)))⟩,
    ⟨some 39, none, (.op (.mv (.t 7)))⟩,
    ⟨some 40, none, (.op (.mv (.t 9)))⟩,
    ⟨some 41, none, (.op (.iaa 3 3 (.t 3) (.t 39)))⟩,
    ⟨some 42, none, (.op (.iaa 1 3 (.t 41) (.t 40)))⟩,
    ⟨some 43, none, (.op (.ld1 (.t 42)))⟩,
    ⟨some 44, none, (.op (.mv (.t 8)))⟩,
    ⟨some 45, none, (.op (.mv (.t 10)))⟩,
    ⟨some 46, none, (.op (.iaa 3 3 (.t 3) (.t 44)))⟩,
    ⟨some 47, none, (.op (.iaa 1 3 (.t 46) (.t 45)))⟩,
    ⟨some 48, none, (.op (.ld1 (.t 47)))⟩,
    ⟨some 49, none, (.op (.bin .mul (.t 43) (.t 48)))⟩,
    ⟨some 50, none, (.op (.mv (.t 7)))⟩,
    ⟨some 51, none, (.op (.mv (.t 10)))⟩,
    ⟨some 52, none, (.op (.iaa 3 3 (.t 3) (.t 50)))⟩,
    ⟨some 53, none, (.op (.iaa 1 3 (.t 52) (.t 51)))⟩,
    ⟨some 54, none, (.op (.ld1 (.t 53)))⟩,
    ⟨some 55, none, (.op (.mv (.t 8)))⟩,
    ⟨some 56, none, (.op (.mv (.t 9)))⟩,
    ⟨some 57, none, (.op (.iaa 3 3 (.t 3) (.t 55)))⟩,
    ⟨some 58, none, (.op (.iaa 1 3 (.t 57) (.t 56)))⟩,
    ⟨some 59, none, (.op (.ld1 (.t 58)))⟩,
    ⟨some 60, none, (.op (.bin .mul (.t 54) (.t 59)))⟩,
    ⟨some 61, none, (.op (.bin .sub (.t 49) (.t 60)))⟩,
    ⟨some 62, none, (.op (.bin .mul (.c (.p (.int .i64 1000))) (.t 61)))⟩,
    ⟨some 63, none, (.op (.fa 0 (.t 4)))⟩,
    ⟨some 64, none, (.op (.iaa 3 3 (.t 63) (.t 37)))⟩,
    ⟨some 65, none, (.op (.iaa 1 3 (.t 64) (.t 38)))⟩,
    ⟨none, none, (.op (.st 1 (.t 65) (.t 62)))⟩] [(6, 11), (6, 17), (11, 17), (6, 22), (11, 22), (17, 22)] [])))
  (.reg [⟨some 23, none, (.op (.mv (.t 6)))⟩,
    ⟨some 24, none, (.op (.bin .add (.t 23) (.c (.p (.int .i64 1)))))⟩,
    ⟨some 6, none, (.op (.mv (.t 24)))⟩])))))))
  (.reg [⟨some 19, none, (.op (.mv (.t 5)))⟩,
    ⟨some 20, none, (.op (.bin .add (.t 19) (.c (.p (.int .i64 1)))))⟩,
    ⟨some 5, none, (.op (.mv (.t 20)))⟩]))))))
  (.seq (.seq (.reg [⟨some 11, none, (.op (.mv (.c (.p (.int .i64 0)))))⟩])
  (.block 4 (.loop [.v 11 (.int .i64), .c 3 (.pr (.int .i64) (.pr (.int .i64) (.pr (.int .i64) (.pr (.int .i64) (.pr (.int .i64) (.pr (.int .i64) (.pr (.int .i64) (.pr (.int .i64) (.pr (.int .i64) (.int .i64))))))))))] [3] [] (.seq (.seq (.reg [⟨some 66, none, (.op (.mv (.t 11)))⟩,
    ⟨some 67, none, (.op (.bin .lss (.t 66) (.c (.p (.int .i64 3)))))⟩])
  (.cond (.t 67) .skip (.exit 4)))
  (.seq (.block 5 (.regd [⟨some 70, none, (.op (.fa 9 (.t 4)))⟩,
    ⟨some 71, none, (.op (.ld1 (.t 70)))⟩,
    ⟨some 72, none, (.op (.mv (.t 11)))⟩,
    ⟨some 73, none, (.op (.iaa 3 3 (.t 3) (.c (.p (.int .i64 0)))))⟩,
    ⟨some 74, none, (.op (.iaa 1 3 (.t 73) (.t 72)))⟩,
    ⟨some 75, none, (.op (.ld1 (.t 74)))⟩,
    ⟨some 76, none, (.op (.mv (.t 11)))⟩,
    ⟨some 77, none, (.op (.fa 0 (.t 4)))⟩,
    ⟨some 78, none, (.op (.iaa 3 3 (.t 77) (.t 76)))⟩,
    ⟨some 79, none, (.op (.iaa 1 3 (.t 78) (.c (.p (.int .i64 0)))))⟩,
    ⟨some 80, none, (.op (.ld1 (.t 79)))⟩,
    ⟨some 81, none, (.op (.bin .mul (.t 75) (.t 80)))⟩,
    ⟨some 82, none, (.op (.bin .quo (.t 81) (.c (.p (.int .i64 1000)))))⟩,
    ⟨some 83, none, (.op (.bin .add (.t 71) (.t 82)))⟩,
    ⟨some 84, none, (.op (.fa 9 (.t 4)))⟩,
    ⟨none, none, (.op (.st 1 (.t 84) (.t 83)))⟩] [(1, 5), (1, 10), (5, 10)] []))
  (.reg [⟨some 68, none, (.op (.mv (.t 11)))⟩,
    ⟨some 69, none, (.op (.bin .add (.t 68) (.c (.p (.int .i64 1)))))⟩,
    ⟨some 11, none, (.op (.mv (.t 69)))⟩]))))))
  (.seq (.reg [⟨some 85, none, (.op (.ldn 10 (.t 4)))⟩,
    ⟨some 86, none, (.call 4 113 [(.t 85)])⟩,
    ⟨some 12, none, (.op (.mv (.t 86)))⟩])
  (.seq (.seq (.reg [⟨some 13, none, (.op (.mv (.c (.p (.int .i64 0)))))⟩])
  (.block 6 (.loop [.v 13 (.int .i64), .c 3 (.pr (.int .i64) (.pr (.int .i64) (.pr (.int .i64) (.pr (.int .i64) (.pr (.int .i64) (.pr (.int .i64) (.pr (.int .i64) (.pr (.int .i64) (.pr (.int .i64) (.int .i64))))))))))] [3] [] (.seq (.seq (.reg [⟨some 87, none, (.op (.mv (.t 13)))⟩,
    ⟨some 88, none, (.op (.bin .lss (.t 87) (.c (.p (.int .i64 3)))))⟩])
  (.cond (.t 88) .skip (.exit 6)))
  (.seq (.block 7 (.seq (.reg [⟨some 14, none, (.op (.mv (.c (.p (.int .i64 0)))))⟩])
  (.block 8 (.loop [.v 14 (.int .i64), .c 3 (.pr (.int .i64) (.pr (.int .i64) (.pr (.int .i64) (.pr (.int .i64) (.pr (.int .i64) (.pr (.int .i64) (.pr (.int .i64) (.pr (.int .i64) (.pr (.int .i64) (.int .i64))))))))))] [3] [] (.seq (.seq (.reg [⟨some 91, none, (.op (.mv (.t 14)))⟩,
    ⟨some 92, none, (.op (.bin .lss (.t 91) (.c (.p (.int .i64 3)))))⟩])
  (.cond (.t 92) .skip (.exit 8)))
  (.seq (.block 9 (.regd [⟨some 95, none, (.op (.mv (.t 13)))⟩,
    ⟨some 96, none, (.op (.mv (.t 14)))⟩,
    ⟨some 97, none, (.op (.mv (.t 13)))⟩,
    ⟨some 98, none, (.op (.mv (.t 14)))⟩,
    ⟨some 99, none, (.op (.fa 0 (.t 4)))⟩,
    ⟨some 100, none, (.op (.iaa 3 3 (.t 99) (.t 97)))⟩,
    ⟨some 101, none, (.op (.iaa 1 3 (.t 100) (.t 98)))⟩,
    ⟨some 102, none, (.op (.ld1 (.t 101)))⟩,
    ⟨some 103, none, (.op (.mv (.t 12)))⟩,
    ⟨some 104, none, (.op (.bin .quo (.t 102) (.t 103)))⟩,
    ⟨some 105, none, (.op (.fa 0 (.t 4)))⟩,
    ⟨some 106, none, (.op (.iaa 3 3 (.t 105) (.t 95)))⟩,
    ⟨some 107, none, (.op (.iaa 1 3 (.t 106) (.t 96)))⟩,
    ⟨none, none, (.op (.st 1 (.t 107) (.t 104)))⟩] [] []))
  (.reg [⟨some 93, none, (.op (.mv (.t 14)))⟩,
    ⟨some 94, none, (.op (.bin .add (.t 93) (.c (.p (.int .i64 1)))))⟩,
    ⟨some 14, none, (.op (.mv (.t 94)))⟩])))))))
  (.reg [⟨some 89, none, (.op (.mv (.t 13)))⟩,
    ⟨some 90, none, (.op (.bin .add (.t 89) (.c (.p (.int .i64 1)))))⟩,
    ⟨some 13, none, (.op (.mv (.t 90)))⟩]))))))
  (.seq (.reg [⟨some 108, none, (.op (.fa 9 (.t 4)))⟩,
    ⟨some 109, none, (.op (.ld1 (.t 108)))⟩,
    ⟨some 110, none, (.op (.mv (.t 12)))⟩,
    ⟨some 111, none, (.op (.bin .quo (.t 109) (.t 110)))⟩,
    ⟨some 112, none, (.op (.fa 9 (.t 4)))⟩,
    ⟨none, none, (.op (.st 1 (.t 112) (.t 111)))⟩])
  (.seq (.reg [⟨some 113, none, (.op (.ldn 10 (.t 4)))⟩,
    ⟨none, none, (.op (.st 10 (.t 2) (.t 113)))⟩])
  .ret)))))))))⟩
def A_ref06_Inverse : Nat → Ty := tyAt [.un, .un, .un, .un, .un]
abbrev P_ref06_Inverse : List PSh := [.agg (.pr (.int .i64) (.pr (.int .i64) (.pr (.pr (.int .i64) (.pr (.int .i64) (.int .i64))) (.pr (.pr (.int .i64) (.pr (.int .i64) (.int .i64))) (.pr (.int .i64) (.pr (.int .i64) (.pr (.pr (.int .i64) (.pr (.int .i64) (.int .i64))) (.pr (.pr (.pr (.int .i64) (.pr (.int .i64) (.int .i64))) (.pr (.pr (.int .i64) (.pr (.int .i64) (.int .i64))) (.pr (.int .i64) (.pr (.int .i64) (.int .i64))))) (.sl (.pr (.int .i64) (.int .i64)))))))))))]
abbrev R_ref06_Inverse : List PSh := [.agg (.pr (.pr (.pr (.int .i64) (.pr (.int .i64) (.int .i64))) (.pr (.pr (.int .i64) (.pr (.int .i64) (.int .i64))) (.pr (.int .i64) (.pr (.int .i64) (.int .i64))))) (.int .i64))]
theorem e_ref06_Inverse : cFn Try.prog 67 = some F_ref06_Inverse.erase := by kernel_rfl
theorem k_ref06_Inverse : callable Try.prog 67 = true := by kernel_rfl
/-- cloverleaf/cloverleafref06.Stripped -/
def F_ref06_Stripped : TFn := ⟨14, 6, [.celln 4 6],
  (.seq (.reg [⟨some 2, none, (.op (.box 0 (.t 0)))⟩,
    ⟨some 3, none, (.op (.box 1 (.t 1)))⟩,
    ⟨some 4, none, (.op (.newz 2 [(.p (.int .i64 0)), (.p (.int .i64 0)), (.p (.int .i64 0)), (.p (.int .i64 0)), (.p (.int .i64 0)), (.p (.int .i64 0))]))⟩])
  (.seq (.reg [⟨some 6, none, (.op (.ldn 23 (.t 2)))⟩,
    ⟨some 7, none, (.call 3 67 [(.t 6)])⟩,
    ⟨some 5, none, (.op (.newz 4 [(.p (.int .i64 0)), (.p (.int .i64 0)), (.p (.int .i64 0)), (.p (.int .i64 0)), (.p (.int .i64 0)), (.p (.int .i64 0)), (.p (.int .i64 0)), (.p (.int .i64 0)), (.p (.int .i64 0)), (.p (.int .i64 0))]))⟩,
    ⟨none, none, (.op (.st 10 (.t 5) (.t 7)))⟩])
  (.seq (.reg [⟨some 8, none, (.op (.fa 0 (.t 5)))⟩,
    ⟨some 9, none, (.op (.ldn 9 (.t 8)))⟩,
    ⟨some 10, none, (.op (.ldn 6 (.t 3)))⟩,
    ⟨some 11, none, (.op (.fa 9 (.t 5)))⟩,
    ⟨some 12, none, (.op (.ld1 (.t 11)))⟩,
    ⟨some 13, none, (.call 5 115 [(.t 9), (.t 10), (.t 12)])⟩,
    ⟨none, none, (.op (.st 6 (.t 4) (.t 13)))⟩])
  .ret)))⟩
def A_ref06_Stripped : Nat → Ty := tyAt [.un, .un, .un, .un, .un, .un]
abbrev P_ref06_Stripped : List PSh := [.agg (.pr (.int .i64) (.pr (.int .i64) (.pr (.pr (.int .i64) (.pr (.int .i64) (.int .i64))) (.pr (.pr (.int .i64) (.pr (.int .i64) (.int .i64))) (.pr (.int .i64) (.pr (.int .i64) (.pr (.pr (.int .i64) (.pr (.int .i64) (.int .i64))) (.pr (.pr (.pr (.int .i64) (.pr (.int .i64) (.int .i64))) (.pr (.pr (.int .i64) (.pr (.int .i64) (.int .i64))) (.pr (.int .i64) (.pr (.int .i64) (.int .i64))))) (.sl (.pr (.int .i64) (.int .i64))))))))))), .agg (.pr (.pr (.int .i64) (.int .i64)) (.pr (.pr (.int .i64) (.int .i64)) (.pr (.int .i64) (.int .i64))))]
abbrev R_ref06_Stripped : List PSh := [.agg (.pr (.pr (.int .i64) (.int .i64)) (.pr (.pr (.int .i64) (.int .i64)) (.pr (.int .i64) (.int .i64))))]
theorem e_ref06_Stripped : cFn Try.prog 71 = some F_ref06_Stripped.erase := by kernel_rfl
theorem k_ref06_Stripped : callable Try.prog 71 = true := by kernel_rfl
/-- cloverleaf/cloverleaflaw06.Rules -/
def F_law06_Rules : TFn := ⟨12, 2, [.celln 0 23],
  (.seq (.reg [⟨some 0, none, (.op (.newz 0 [(.p (.int .i64 0)), (.p (.int .i64 0)), (.p (.int .i64 0)), (.p (.int .i64 0)), (.p (.int .i64 0)), (.p (.int .i64 0)), (.p (.int .i64 0)), (.p (.int .i64 0)), (.p (.int .i64 0)), (.p (.int .i64 0)), (.p (.int .i64 0)), (.p (.int .i64 0)), (.p (.int .i64 0)), (.p (.int .i64 0)), (.p (.int .i64 0)), (.p (.int .i64 0)), (.p (.int .i64 0)), (.p (.int .i64 0)), (.p (.int .i64 0)), (.p (.int .i64 0)), (.p (.int .i64 0)), (.p (.int .i64 0)), (.p (.sl 0 [] true))]))⟩])
  (.seq (.reg [⟨some 1, none, (.op (.build [(.p (.int .i64 0)), (.p (.int .i64 0)), (.p (.int .i64 0))] [(0, 1, (.c (.p (.int .i64 2000)))), (1, 1, (.c (.p (.int .i64 1000)))), (2, 1, (.c (.p (.int .i64 1000))))]))⟩,
    ⟨some 2, none, (.op (.build [(.p (.int .i64 0)), (.p (.int .i64 0)), (.p (.int .i64 0))] [(0, 1, (.c (.p (.int .i64 10)))), (1, 1, (.c (.p (.int .i64 20)))), (2, 1, (.c (.p (.int .i64 30))))]))⟩,
    ⟨some 3, none, (.op (.build [(.p (.int .i64 0)), (.p (.int .i64 0)), (.p (.int .i64 0))] [(0, 1, (.c (.p (.int .i64 500)))), (1, 1, (.c (.p (.int .i64 1000)))), (2, 1, (.c (.p (.int .i64 100))))]))⟩,
    ⟨some 4, none, (.op (.build [(.p (.int .i64 0)), (.p (.int .i64 0)), (.p (.int .i64 0))] [(0, 1, (.c (.p (.int .i64 1000)))), (1, 1, (.c (.p (.int .i64 200)))), (2, 1, (.c (.p (.int .i64 100))))]))⟩,
    ⟨some 5, none, (.op (.build [(.p (.int .i64 0)), (.p (.int .i64 0)), (.p (.int .i64 0))] [(0, 1, (.c (.p (.int .i64 0)))), (1, 1, (.c (.p (.int .i64 700)))), (2, 1, (.c (.p (.int .i64 200))))]))⟩,
    ⟨some 6, none, (.op (.build [(.p (.int .i64 0)), (.p (.int .i64 0)), (.p (.int .i64 0))] [(0, 1, (.c (.p (.int .i64 0)))), (1, 1, (.c (.p (.int .i64 100)))), (2, 1, (.c (.p (.int .i64 700))))]))⟩,
    ⟨some 7, none, (.op (.build [(.p (.int .i64 0)), (.p (.int .i64 0)), (.p (.int .i64 0)), (.p (.int .i64 0)), (.p (.int .i64 0)), (.p (.int .i64 0)), (.p (.int .i64 0)), (.p (.int .i64 0)), (.p (.int .i64 0))] [(0, 3, (.t 4)), (3, 3, (.t 5)), (6, 3, (.t 6))]))⟩,
    ⟨some 8, none, (.op (.build [(.p (.int .i64 0)), (.p (.int .i64 0))] [(0, 1, (.c (.p (.int .i64 60)))), (1, 1, (.c (.p (.int .i64 500))))]))⟩,
    ⟨some 9, none, (.op (.build [(.p (.int .i64 0)), (.p (.int .i64 0))] [(0, 1, (.c (.p (.int .i64 120)))), (1, 1, (.c (.p (.int .i64 1000))))]))⟩,
    ⟨some 10, none, (.op (.bsl false 1 2 2 [(.p (.int .i64 0)), (.p (.int .i64 0)), (.p (.int .i64 0)), (.p (.int .i64 0))] [(0, 2, (.t 8)), (2, 2, (.t 9))]))⟩,
    ⟨some 11, none, (.op (.build [(.p (.int .i64 0)), (.p (.int .i64 0)), (.p (.int .i64 0)), (.p (.int .i64 0)), (.p (.int .i64 0)), (.p (.int .i64 0)), (.p (.int .i64 0)), (.p (.int .i64 0)), (.p (.int .i64 0)), (.p (.int .i64 0)), (.p (.int .i64 0)), (.p (.int .i64 0)), (.p (.int .i64 0)), (.p (.int .i64 0)), (.p (.int .i64 0)), (.p (.int .i64 0)), (.p (.int .i64 0)), (.p (.int .i64 0)), (.p (.int .i64 0)), (.p (.int .i64 0)), (.p (.int .i64 0)), (.p (.int .i64 0)), (.p (.sl 0 [] true))] [(0, 1, (.c (.p (.int .i64 1000)))), (1, 1, (.c (.p (.int .i64 1)))), (2, 3, (.t 1)), (5, 3, (.t 2)), (8, 1, (.c (.p (.int .i64 100)))), (9, 1, (.c (.p (.int .i64 500)))), (10, 3, (.t 3)), (13, 9, (.t 7)), (22, 1, (.t 10))]))⟩,
    ⟨none, none, (.op (.st 23 (.t 0) (.t 11)))⟩])
  .ret))⟩
def A_law06_Rules : Nat → Ty := tyAt [.un, (.pr (.int .i64) (.int .i64))]
abbrev P_law06_Rules : List PSh := []
abbrev R_law06_Rules : List PSh := [.agg (.pr (.int .i64) (.pr (.int .i64) (.pr (.pr (.int .i64) (.pr (.int .i64) (.int .i64))) (.pr (.pr (.int .i64) (.pr (.int .i64) (.int .i64))) (.pr (.int .i64) (.pr (.int .i64) (.pr (.pr (.int .i64) (.pr (.int .i64) (.int .i64))) (.pr (.pr (.pr (.int .i64) (.pr (.int .i64) (.int .i64))) (.pr (.pr (.int .i64) (.pr (.int .i64) (.int .i64))) (.pr (.int .i64) (.pr (.int .i64) (.int .i64))))) (.sl (.pr (.int .i64) (.int .i64)))))))))))]
theorem e_law06_Rules : cFn Try.prog 72 = some F_law06_Rules.erase := by kernel_rfl
theorem k_law06_Rules : callable Try.prog 72 = true := by kernel_rfl
/-- cloverleaf/cloverleaflaw06.Sample -/
def F_law06_Sample : TFn := ⟨3, 1, [.celln 0 7],
  (.seq (.reg [⟨some 0, none, (.op (.newz 0 [(.p (.int .i64 0)), (.p (.int .i64 0)), (.p (.int .i64 0)), (.p (.int .i64 0)), (.p (.int .i64 0)), (.p (.int .i64 0)), (.p (.int .i64 0))]))⟩])
  (.seq (.reg [⟨some 1, none, (.op (.build [(.p (.int .i64 0)), (.p (.int .i64 0)), (.p (.int .i64 0))] [(0, 1, (.c (.p (.int .i64 100)))), (1, 1, (.c (.p (.int .i64 50)))), (2, 1, (.c (.p (.int .i64 40))))]))⟩,
    ⟨some 2, none, (.op (.build [(.p (.int .i64 0)), (.p (.int .i64 0)), (.p (.int .i64 0)), (.p (.int .i64 0)), (.p (.int .i64 0)), (.p (.int .i64 0)), (.p (.int .i64 0))] [(0, 3, (.t 1)), (3, 1, (.c (.p (.int .i64 300)))), (4, 1, (.c (.p (.int .i64 50)))), (5, 1, (.c (.p (.int .i64 10)))), (6, 1, (.c (.p (.int .i64 90))))]))⟩,
    ⟨none, none, (.op (.st 7 (.t 0) (.t 2)))⟩])
  .ret))⟩
def A_law06_Sample : Nat → Ty := tyAt [.un]
abbrev P_law06_Sample : List PSh := []
abbrev R_law06_Sample : List PSh := [.agg (.pr (.pr (.int .i64) (.pr (.int .i64) (.int .i64))) (.pr (.int .i64) (.pr (.int .i64) (.pr (.int .i64) (.int .i64)))))]
theorem e_law06_Sample : cFn Try.prog 73 = some F_law06_Sample.erase := by kernel_rfl
theorem k_law06_Sample : callable Try.prog 73 = true := by kernel_rfl
/-- cloverleaf/counts.within -/
def F_counts_within : TFn := ⟨15, 0, [.tmp 6],
  (.seq (.reg [⟨some 6, none, (.op (.mv (.c (.p (.bool false)))))⟩])
  (.seq (.reg [⟨some 7, none, (.op (.mv (.t 1)))⟩,
    ⟨some 8, none, (.op (.mv (.t 0)))⟩,
    ⟨some 9, none, (.op (.bin .leq (.t 7) (.t 8)))⟩,
    ⟨some 10, none, (.op (.mv (.t 9)))⟩,
    ⟨some 11, some (some 10, true), (.op (.mv (.t 0)))⟩,
    ⟨some 12, some (some 10, true), (.op (.mv (.t 2)))⟩,
    ⟨some 13, some (some 10, true), (.op (.bin .leq (.t 11) (.t 12)))⟩,
    ⟨some 14, none, (.op (.pick (.t 10) (.t 13) (.c (.p (.bool false)))))⟩,
    ⟨some 6, none, (.op (.mv (.t 14)))⟩])
  .ret))⟩
def A_counts_within : Nat → Ty := tyAt []
abbrev P_counts_within : List PSh := [.one (.int .i64), .one (.int .i64), .one (.int .i64)]
abbrev R_counts_within : List PSh := [.one .bool]
theorem e_counts_within : cFn Try.prog 74 = some F_counts_within.erase := by kernel_rfl
theorem k_counts_within : callable Try.prog 74 = true := by kernel_rfl
/-- cloverleaf/counts.allWithin -/
def F_counts_allWithin : TFn := ⟨8, 3, [.tmp 4],
  (.seq (.reg [⟨some 2, none, (.op (.box 0 (.t 0)))⟩,
    ⟨some 3, none, (.op (.box 1 (.t 1)))⟩,
    ⟨some 4, none, (.op (.mv (.c (.p (.int .i64 0)))))⟩])
  (.seq (.reg [⟨some 5, none, (.op (.sla 1 3 (.t 2) none none))⟩,
    ⟨some 6, none, (.op (.clo 116 [(.t 3)]))⟩,
    ⟨some 7, none, (.call 2 102 [(.t 5), (.t 6)])⟩,
    ⟨some 4, none, (.op (.mv (.t 7)))⟩])
  .ret))⟩
def A_counts_allWithin : Nat → Ty := tyAt [.un, .un, .un]
abbrev P_counts_allWithin : List PSh := [.agg (.pr (.int .i64) (.pr (.int .i64) (.int .i64))), .one (.int .i64)]
abbrev R_counts_allWithin : List PSh := [.one (.int .i64)]
theorem e_counts_allWithin : cFn Try.prog 75 = some F_counts_allWithin.erase := by kernel_rfl
theorem k_counts_allWithin : callable Try.prog 75 = true := by kernel_rfl
/-- cloverleaf/counts.columnErr -/
def F_counts_columnErr : TFn := ⟨33, 9, [.tmp 4],
  (.seq (.reg [⟨some 2, none, (.op (.box 0 (.t 0)))⟩,
    ⟨some 4, none, (.op (.mv (.c (.p (.int .i64 0)))))⟩])
  (.seq (.reg [⟨some 5, none, (.op (.newz 1 [(.p (.int .i64 0)), (.p (.int .i64 0)), (.p (.int .i64 0))]))⟩])
  (.seq (.seq (.reg [⟨some 7, none, (.op (.mv (.c (.p (.int .i64 0)))))⟩])
  (.block 0 (.loop [.v 7 (.int .i64), .c 1 (.pr (.int .i64) (.pr (.int .i64) (.int .i64)))] [1] [] (.seq (.reg [⟨some 8, none, (.op (.bin .lss (.t 7) (.c (.p (.int .i64 3)))))⟩])
  (.seq (.cond (.t 8) .skip (.exit 0))
  (.seq (.block 1 (.seq (.reg [⟨some 9, none, (.op (.mv (.t 7)))⟩,
    ⟨some 6, none, (.op (.mv (.t 9)))⟩])
  (.reg [⟨some 10, none, (.op (.mv (.t 6)))⟩,
    ⟨some 11, none, (.op (.mv (.t 6)))⟩,
    ⟨some 12, none, (.op (.mv (.t 1)))⟩,
    ⟨some 13, none, (.op (.iaa 3 3 (.t 2) (.t 11)))⟩,
    ⟨some 14, none, (.op (.iaa 1 3 (.t 13) (.t 12)))⟩,
    ⟨some 15, none, (.op (.ld1 (.t 14)))⟩,
    ⟨some 16, none, (.op (.iaa 1 3 (.t 5) (.t 10)))⟩,
    ⟨none, none, (.op (.st 1 (.t 16) (.t 15)))⟩])))
  (.reg [⟨some 17, none, (.op (.bin .add (.t 7) (.c (.p (.int .i64 1)))))⟩,
    ⟨some 7, none, (.op (.mv (.t 17)))⟩])))))))
  (.seq (.regd [⟨some 18, none, (.op (.ldn 3 (.t 5)))⟩,
    ⟨some 19, none, (.call 2 75 [(.t 18), (.c (.p (.int .i64 1000)))])⟩,
    ⟨some 20, none, (.op (.bin .lss (.t 19) (.c (.p (.int .i64 0)))))⟩,
    ⟨some 21, none, (.call 3 78 [(.t 20), (.c (.p (.int .i64 2)))])⟩,
    ⟨some 22, none, (.op (.sla 1 3 (.t 5) none none))⟩,
    ⟨some 23, none, (.call 4 100 [(.t 22)])⟩,
    ⟨some 24, none, (.op (.bin .eql (.t 23) (.c (.p (.int .i64 1000)))))⟩,
    ⟨some 25, none, (.call 5 78 [(.t 24), (.c (.p (.int .i64 3)))])⟩,
    ⟨some 26, none, (.op (.mv (.t 1)))⟩,
    ⟨some 27, none, (.op (.iaa 1 3 (.t 5) (.t 26)))⟩,
    ⟨some 28, none, (.op (.ld1 (.t 27)))⟩,
    ⟨some 29, none, (.op (.bin .geq (.t 28) (.c (.p (.int .i64 600)))))⟩,
    ⟨some 30, none, (.call 6 78 [(.t 29), (.c (.p (.int .i64 22)))])⟩,
    ⟨some 31, none, (.op (.bsl false 7 1 3 [(.p (.int .i64 0)), (.p (.int .i64 0)), (.p (.int .i64 0))] [(0, 1, (.t 21)), (1, 1, (.t 25)), (2, 1, (.t 30))]))⟩,
    ⟨some 32, none, (.call 8 77 [(.t 31)])⟩,
    ⟨some 4, none, (.op (.mv (.t 32)))⟩] [(0, 4), (1, 4), (3, 4), (0, 10), (1, 10), (3, 10), (4, 10), (5, 10), (7, 10)] [1])
  .ret))))⟩
def A_counts_columnErr : Nat → Ty := tyAt [.un, .un, .un, .un, .un, .un, .un, (.int .i64), .un]
abbrev P_counts_columnErr : List PSh := [.agg (.pr (.pr (.int .i64) (.pr (.int .i64) (.int .i64))) (.pr (.pr (.int .i64) (.pr (.int .i64) (.int .i64))) (.pr (.int .i64) (.pr (.int .i64) (.int .i64))))), .one (.int .i64)]
abbrev R_counts_columnErr : List PSh := [.one (.int .i64)]
theorem e_counts_columnErr : cFn Try.prog 76 = some F_counts_columnErr.erase := by kernel_rfl
theorem k_counts_columnErr : callable Try.prog 76 = true := by kernel_rfl
/-- cloverleaf/counts.unless -/
def F_counts_unless : TFn := ⟨7, 0, [.tmp 4],
  (.seq (.reg [⟨some 4, none, (.op (.mv (.c (.p (.int .i64 0)))))⟩])
  (.seq (.seq (.reg [⟨some 5, none, (.op (.mv (.t 0)))⟩])
  (.cond (.t 5) (.seq (.reg [⟨some 4, none, (.op (.mv (.c (.p (.int .i64 0)))))⟩])
  .ret) .skip))
  (.seq (.reg [⟨some 6, none, (.op (.mv (.t 1)))⟩,
    ⟨some 4, none, (.op (.mv (.t 6)))⟩])
  .ret)))⟩
def A_counts_unless : Nat → Ty := tyAt []
abbrev P_counts_unless : List PSh := [.one .bool, .one (.int .i64)]
abbrev R_counts_unless : List PSh := [.one (.int .i64)]
theorem e_counts_unless : cFn Try.prog 78 = some F_counts_unless.erase := by kernel_rfl
theorem k_counts_unless : callable Try.prog 78 = true := by kernel_rfl
/-- cloverleaf/counts.first -/
def F_counts_first : TFn := ⟨15, 0, [.tmp 2],
  (.seq (.reg [⟨some 2, none, (.op (.mv (.c (.p (.int .i64 0)))))⟩])
  (.seq (.seq (.reg [⟨some 5, none, (.op (.mv (.t 0)))⟩,
    ⟨some 6, none, (.op (.len false (.t 5)))⟩,
    ⟨some 7, none, (.op (.mv (.c (.p (.int .i64 0)))))⟩])
  (.block 0 (.loop [.v 7 (.int .i64)] [] [] (.seq (.reg [⟨some 8, none, (.op (.bin .lss (.t 7) (.t 6)))⟩])
  (.seq (.cond (.t 8) .skip (.exit 0))
  (.seq (.block 1 (.seq (.reg [⟨some 9, none, (.op (.ia 1 (.t 5) (.t 7)))⟩,
    ⟨some 10, none, (.op (.ld1 (.t 9)))⟩,
    ⟨some 4, none, (.op (.mv (.t 10)))⟩])
  (.seq (.reg [⟨some 11, none, (.op (.mv (.t 4)))⟩,
    ⟨some 12, none, (.op (.bin .neq (.t 11) (.c (.p (.int .i64 0)))))⟩])
  (.cond (.t 12) (.seq (.reg [⟨some 13, none, (.op (.mv (.t 4)))⟩,
    ⟨some 2, none, (.op (.mv (.t 13)))⟩])
  .ret) .skip))))
  (.reg [⟨some 14, none, (.op (.bin .add (.t 7) (.c (.p (.int .i64 1)))))⟩,
    ⟨some 7, none, (.op (.mv (.t 14)))⟩])))))))
  (.seq (.reg [⟨some 2, none, (.op (.mv (.c (.p (.int .i64 0)))))⟩])
  .ret)))⟩
def A_counts_first : Nat → Ty := tyAt []
abbrev P_counts_first : List PSh := [.one (.sl (.int .i64))]
abbrev R_counts_first : List PSh := [.one (.int .i64)]
theorem e_counts_first : cFn Try.prog 77 = some F_counts_first.erase := by kernel_rfl
theorem k_counts_first : callable Try.prog 77 = true := by kernel_rfl
/-- cloverleaf/counts.openSample -/
def F_counts_openSample : TFn := ⟨20, 6, [.celln 4 23, .tmp 5],
  (.seq (.reg [⟨some 2, none, (.op (.box 0 (.t 0)))⟩,
    ⟨some 3, none, (.op (.box 1 (.t 1)))⟩,
    ⟨some 4, none, (.op (.newz 2 [(.p (.int .i64 0)), (.p (.int .i64 0)), (.p (.int .i64 0)), (.p (.int .i64 0)), (.p (.int .i64 0)), (.p (.int .i64 0)), (.p (.int .i64 0)), (.p (.int .i64 0)), (.p (.int .i64 0)), (.p (.int .i64 0)), (.p (.int .i64 0)), (.p (.int .i64 0)), (.p (.int .i64 0)), (.p (.int .i64 0)), (.p (.int .i64 0)), (.p (.int .i64 0)), (.p (.int .i64 0)), (.p (.int .i64 0)), (.p (.int .i64 0)), (.p (.int .i64 0)), (.p (.int .i64 0)), (.p (.int .i64 0)), (.p (.sl 0 [] true))]))⟩,
    ⟨some 5, none, (.op (.mv (.c (.p (.int .i64 0)))))⟩])
  (.seq (.reg [⟨some 9, none, (.op (.ldn 23 (.t 2)))⟩,
    ⟨some 10, none, (.call 3 82 [(.t 9)])⟩,
    ⟨some 8, none, (.op (.mv (.t 10)))⟩,
    ⟨some 11, none, (.op (.ext 0 (.t 8)))⟩,
    ⟨some 12, none, (.op (.ext 1 (.t 8)))⟩,
    ⟨some 6, none, (.op (.newz 4 [(.p (.int .i64 0)), (.p (.int .i64 0)), (.p (.int .i64 0)), (.p (.int .i64 0)), (.p (.int .i64 0)), (.p (.int .i64 0)), (.p (.int .i64 0)), (.p (.int .i64 0)), (.p (.int .i64 0)), (.p (.int .i64 0)), (.p (.int .i64 0)), (.p (.int .i64 0)), (.p (.int .i64 0)), (.p (.int .i64 0)), (.p (.int .i64 0)), (.p (.int .i64 0)), (.p (.int .i64 0)), (.p (.int .i64 0)), (.p (.int .i64 0)), (.p (.int .i64 0)), (.p (.int .i64 0)), (.p (.int .i64 0)), (.p (.sl 0 [] true))]))⟩,
    ⟨none, none, (.op (.st 23 (.t 6) (.t 11)))⟩,
    ⟨some 7, none, (.op (.mv (.t 12)))⟩])
  (.seq (.seq (.reg [⟨some 13, none, (.op (.mv (.t 7)))⟩,
    ⟨some 14, none, (.op (.bin .eql (.t 13) (.c (.p (.int .i64 0)))))⟩])
  (.cond (.t 14) (.reg [⟨some 15, none, (.op (.ldn 23 (.t 6)))⟩,
    ⟨some 16, none, (.op (.ldn 7 (.t 3)))⟩,
    ⟨some 17, none, (.call 5 89 [(.t 15), (.t 16)])⟩,
    ⟨some 7, none, (.op (.mv (.t 17)))⟩]) .skip))
  (.seq (.reg [⟨some 18, none, (.op (.ldn 23 (.t 6)))⟩,
    ⟨some 19, none, (.op (.mv (.t 7)))⟩,
    ⟨none, none, (.op (.st 23 (.t 4) (.t 18)))⟩,
    ⟨some 5, none, (.op (.mv (.t 19)))⟩])
  .ret))))⟩
def A_counts_openSample : Nat → Ty := tyAt [.un, .un, .un, .un, .un, .un]
abbrev P_counts_openSample : List PSh := [.agg (.pr (.int .i64) (.pr (.int .i64) (.pr (.pr (.int .i64) (.pr (.int .i64) (.int .i64))) (.pr (.pr (.int .i64) (.pr (.int .i64) (.int .i64))) (.pr (.int .i64) (.pr (.int .i64) (.pr (.pr (.int .i64) (.pr (.int .i64) (.int .i64))) (.pr (.pr (.pr (.int .i64) (.pr (.int .i64) (.int .i64))) (.pr (.pr (.int .i64) (.pr (.int .i64) (.int .i64))) (.pr (.int .i64) (.pr (.int .i64) (.int .i64))))) (.sl (.pr (.int .i64) (.int .i64))))))))))), .agg (.pr (.pr (.int .i64) (.pr (.int .i64) (.int .i64))) (.pr (.int .i64) (.pr (.int .i64) (.pr (.int .i64) (.int .i64)))))]
abbrev R_counts_openSample : List PSh := [.agg (.pr (.int .i64) (.pr (.int .i64) (.pr (.pr (.int .i64) (.pr (.int .i64) (.int .i64))) (.pr (.pr (.int .i64) (.pr (.int .i64) (.int .i64))) (.pr (.int .i64) (.pr (.int .i64) (.pr (.pr (.int .i64) (.pr (.int .i64) (.int .i64))) (.pr (.pr (.pr (.int .i64) (.pr (.int .i64) (.int .i64))) (.pr (.pr (.int .i64) (.pr (.int .i64) (.int .i64))) (.pr (.int .i64) (.pr (.int .i64) (.int .i64))))) (.sl (.pr (.int .i64) (.int .i64))))))))))), .one (.int .i64)]
theorem e_counts_openSample : cFn Try.prog 79 = some F_counts_openSample.erase := by kernel_rfl
theorem k_counts_openSample : callable Try.prog 79 = true := by kernel_rfl
/-- cloverleaf/counts.valueErr -/
def F_counts_valueErr : TFn := ⟨20, 7, [.tmp 2],
  (.seq (.reg [⟨some 1, none, (.op (.box 0 (.t 0)))⟩,
    ⟨some 2, none, (.op (.mv (.c (.p (.int .i64 0)))))⟩])
  (.seq (.regd [⟨some 3, none, (.op (.fa 0 (.t 1)))⟩,
    ⟨some 4, none, (.op (.ld1 (.t 3)))⟩,
    ⟨some 5, none, (.call 1 110 [(.t 4)])⟩,
    ⟨some 6, none, (.op (.mv (.t 5)))⟩,
    ⟨some 7, some (some 6, true), (.op (.fa 1 (.t 1)))⟩,
    ⟨some 8, some (some 6, true), (.op (.ld1 (.t 7)))⟩,
    ⟨some 9, some (some 6, true), (.call 2 110 [(.t 8)])⟩,
    ⟨some 10, none, (.op (.pick (.t 6) (.t 9) (.c (.p (.bool false)))))⟩,
    ⟨some 11, none, (.call 3 78 [(.t 10), (.c (.p (.int .i64 2)))])⟩,
    ⟨some 12, none, (.op (.fa 0 (.t 1)))⟩,
    ⟨some 13, none, (.op (.ld1 (.t 12)))⟩,
    ⟨some 14, none, (.op (.fa 1 (.t 1)))⟩,
    ⟨some 15, none, (.op (.ld1 (.t 14)))⟩,
    ⟨some 16, none, (.op (.bin .leq (.t 13) (.t 15)))⟩,
    ⟨some 17, none, (.call 4 78 [(.t 16), (.c (.p (.int .i64 9)))])⟩,
    ⟨some 18, none, (.op (.bsl false 5 1 2 [(.p (.int .i64 0)), (.p (.int .i64 0))] [(0, 1, (.t 11)), (1, 1, (.t 17))]))⟩,
    ⟨some 19, none, (.call 6 77 [(.t 18)])⟩,
    ⟨some 2, none, (.op (.mv (.t 19)))⟩] [(1, 10), (2, 10), (5, 10), (6, 10), (8, 10), (1, 12), (2, 12), (5, 12), (6, 12), (8, 12), (10, 12)] [])
  .ret))⟩
def A_counts_valueErr : Nat → Ty := tyAt [.un, .un, .un, .un, .un, (.int .i64), .un]
abbrev P_counts_valueErr : List PSh := [.agg (.pr (.int .i64) (.int .i64))]
abbrev R_counts_valueErr : List PSh := [.one (.int .i64)]
theorem e_counts_valueErr : cFn Try.prog 80 = some F_counts_valueErr.erase := by kernel_rfl
theorem k_counts_valueErr : callable Try.prog 80 = true := by kernel_rfl
/-- cloverleaf/counts.rootUp -/
def F_counts_rootUp : TFn := ⟨22, 0, [.tmp 2],
  (.seq (.reg [⟨some 2, none, (.op (.mv (.c (.p (.int .i64 0)))))⟩])
  (.seq (.reg [⟨some 3, none, (.op (.mv (.c (.p (.int .i64 0)))))⟩,
    ⟨some 4, none, (.op (.mv (.c (.p (.int .i64 2097152)))))⟩])
  (.seq (.block 0 (.loop [.v 4 (.int .i64), .v 3 (.int .i64)] [] [] (.seq (.seq (.reg [⟨some 6, none, (.op (.mv (.t 3)))⟩,
    ⟨some 7, none, (.op (.mv (.t 4)))⟩,
    ⟨some 8, none, (.op (.bin .lss (.t 6) (.t 7)))⟩])
  (.cond (.t 8) .skip (.exit 0)))
  (.block 1 (.seq (.reg [⟨some 9, none, (.op (.mv (.t 3)))⟩,
    ⟨some 10, none, (.op (.mv (.t 4)))⟩,
    ⟨some 11, none, (.op (.bin .add (.t 9) (.t 10)))⟩,
    ⟨some 12, none, (.op (.bin .quo (.t 11) (.c (.p (.int .i64 2)))))⟩,
    ⟨some 5, none, (.op (.mv (.t 12)))⟩])
  (.seq (.reg [⟨some 13, none, (.op (.mv (.t 5)))⟩,
    ⟨some 14, none, (.op (.mv (.t 5)))⟩,
    ⟨some 15, none, (.op (.bin .mul (.t 13) (.t 14)))⟩,
    ⟨some 16, none, (.op (.mv (.t 0)))⟩,
    ⟨some 17, none, (.op (.bin .geq (.t 15) (.t 16)))⟩])
  (.cond (.t 17) (.reg [⟨some 18, none, (.op (.mv (.t 5)))⟩,
    ⟨some 4, none, (.op (.mv (.t 18)))⟩]) (.reg [⟨some 19, none, (.op (.mv (.t 5)))⟩,
    ⟨some 20, none, (.op (.bin .add (.t 19) (.c (.p (.int .i64 1)))))⟩,
    ⟨some 3, none, (.op (.mv (.t 20)))⟩]))))))))
  (.seq (.reg [⟨some 21, none, (.op (.mv (.t 3)))⟩,
    ⟨some 2, none, (.op (.mv (.t 21)))⟩])
  .ret))))⟩
def A_counts_rootUp : Nat → Ty := tyAt []
abbrev P_counts_rootUp : List PSh := [.one (.int .i64)]
abbrev R_counts_rootUp : List PSh := [.one (.int .i64)]
theorem e_counts_rootUp : cFn Try.prog 81 = some F_counts_rootUp.erase := by kernel_rfl
theorem k_counts_rootUp : callable Try.prog 81 = true := by kernel_rfl
/-- cloverleaf/counts.open -/
def F_counts_open : TFn := ⟨14, 3, [.celln 2 23, .tmp 3],
  (.seq (.reg [⟨some 1, none, (.op (.box 0 (.t 0)))⟩,
    ⟨some 2, none, (.op (.newz 1 [(.p (.int .i64 0)), (.p (.int .i64 0)), (.p (.int .i64 0)), (.p (.int .i64 0)), (.p (.int .i64 0)), (.p (.int .i64 0)), (.p (.int .i64 0)), (.p (.int .i64 0)), (.p (.int .i64 0)), (.p (.int .i64 0)), (.p (.int .i64 0)), (.p (.int .i64 0)), (.p (.int .i64 0)), (.p (.int .i64 0)), (.p (.int .i64 0)), (.p (.int .i64 0)), (.p (.int .i64 0)), (.p (.int .i64 0)), (.p (.int .i64 0)), (.p (.int .i64 0)), (.p (.int .i64 0)), (.p (.int .i64 0)), (.p (.sl 0 [] true))]))⟩,
    ⟨some 3, none, (.op (.mv (.c (.p (.int .i64 0)))))⟩])
  (.seq (.reg [⟨some 7, none, (.op (.ldn 23 (.t 1)))⟩,
    ⟨some 8, none, (.call 2 16 [(.t 7)])⟩,
    ⟨some 6, none, (.op (.mv (.t 8)))⟩,
    ⟨some 9, none, (.op (.ext 0 (.t 6)))⟩,
    ⟨some 10, none, (.op (.ext 1 (.t 6)))⟩,
    ⟨some 4, none, (.op (.mv (.t 9)))⟩,
    ⟨some 5, none, (.op (.mv (.t 10)))⟩])
  (.seq (.reg [⟨some 11, none, (.op (.ldn 23 (.t 1)))⟩,
    ⟨some 12, none, (.op (.build [(.p (.int .i64 0)), (.p (.int .i64 0)), (.p (.int .i64 0)), (.p (.int .i64 0)), (.p (.int .i64 0)), (.p (.int .i64 0)), (.p (.int .i64 0)), (.p (.int .i64 0)), (.p (.int .i64 0)), (.p (.int .i64 0)), (.p (.int .i64 0)), (.p (.int .i64 0)), (.p (.int .i64 0)), (.p (.int .i64 0)), (.p (.int .i64 0)), (.p (.int .i64 0)), (.p (.int .i64 0)), (.p (.int .i64 0)), (.p (.int .i64 0)), (.p (.int .i64 0)), (.p (.int .i64 0)), (.p (.int .i64 0)), (.p (.sl 0 [] true))] [(0, 23, (.t 11))]))⟩,
    ⟨some 13, none, (.op (.mv (.t 5)))⟩,
    ⟨none, none, (.op (.st 23 (.t 2) (.t 12)))⟩,
    ⟨some 3, none, (.op (.mv (.t 13)))⟩])
  .ret)))⟩
def A_counts_open : Nat → Ty := tyAt [.un, .un, .un]
abbrev P_counts_open : List PSh := [.agg (.pr (.int .i64) (.pr (.int .i64) (.pr (.pr (.int .i64) (.pr (.int .i64) (.int .i64))) (.pr (.pr (.int .i64) (.pr (.int .i64) (.int .i64))) (.pr (.int .i64) (.pr (.int .i64) (.pr (.pr (.int .i64) (.pr (.int .i64) (.int .i64))) (.pr (.pr (.pr (.int .i64) (.pr (.int .i64) (.int .i64))) (.pr (.pr (.int .i64) (.pr (.int .i64) (.int .i64))) (.pr (.int .i64) (.pr (.int .i64) (.int .i64))))) (.sl (.pr (.int .i64) (.int .i64)))))))))))]
abbrev R_counts_open : List PSh := [.agg (.pr (.int .i64) (.pr (.int .i64) (.pr (.pr (.int .i64) (.pr (.int .i64) (.int .i64))) (.pr (.pr (.int .i64) (.pr (.int .i64) (.int .i64))) (.pr (.int .i64) (.pr (.int .i64) (.pr (.pr (.int .i64) (.pr (.int .i64) (.int .i64))) (.pr (.pr (.pr (.int .i64) (.pr (.int .i64) (.int .i64))) (.pr (.pr (.int .i64) (.pr (.int .i64) (.int .i64))) (.pr (.int .i64) (.pr (.int .i64) (.int .i64))))) (.sl (.pr (.int .i64) (.int .i64))))))))))), .one (.int .i64)]
theorem e_counts_open : cFn Try.prog 82 = some F_counts_open.erase := by kernel_rfl
theorem k_counts_open : callable Try.prog 82 = true := by kernel_rfl
/-- (cloverleaf/counts.rules).has -/
def F_counts_rules_has : TFn := ⟨24, 2, [.tmp 4],
  (.seq (.reg [⟨some 2, none, (.op (.box 0 (.t 0)))⟩,
    ⟨some 4, none, (.op (.mv (.c (.p (.bool false)))))⟩])
  (.seq (.regd [⟨some 5, none, (.op (.mv (.t 1)))⟩,
    ⟨some 6, none, (.op (.fa 0 (.t 2)))⟩,
    ⟨some 7, none, (.op (.fa 22 (.t 6)))⟩,
    ⟨some 8, none, (.op (.ld1 (.t 7)))⟩,
    ⟨some 9, none, (.op (.ia 2 (.t 8) (.c (.p (.int .i64 0)))))⟩,
    ⟨some 10, none, (.op (.fa 0 (.t 9)))⟩,
    ⟨some 11, none, (.op (.ld1 (.t 10)))⟩,
    ⟨some 12, none, (.op (.fa 0 (.t 2)))⟩,
    ⟨some 13, none, (.op (.fa 22 (.t 12)))⟩,
    ⟨some 14, none, (.op (.ld1 (.t 13)))⟩,
    ⟨some 15, none, (.op (.fa 0 (.t 2)))⟩,
    ⟨some 16, none, (.op (.fa 22 (.t 15)))⟩,
    ⟨some 17, none, (.op (.ld1 (.t 16)))⟩,
    ⟨some 18, none, (.op (.len false (.t 17)))⟩,
    ⟨some 19, none, (.op (.bin .sub (.t 18) (.c (.p (.int .i64 1)))))⟩,
    ⟨some 20, none, (.op (.ia 2 (.t 14) (.t 19)))⟩,
    ⟨some 21, none, (.op (.fa 0 (.t 20)))⟩,
    ⟨some 22, none, (.op (.ld1 (.t 21)))⟩,
    ⟨some 23, none, (.call 1 74 [(.t 5), (.t 11), (.t 22)])⟩,
    ⟨some 4, none, (.op (.mv (.t 23)))⟩] [(3, 9), (6, 9), (3, 12), (6, 12), (9, 12), (3, 17), (6, 17)] [])
  .ret))⟩
def A_counts_rules_has : Nat → Ty := tyAt [.un, .un]
abbrev P_counts_rules_has : List PSh := [.agg (.pr (.int .i64) (.pr (.int .i64) (.pr (.pr (.int .i64) (.pr (.int .i64) (.int .i64))) (.pr (.pr (.int .i64) (.pr (.int .i64) (.int .i64))) (.pr (.int .i64) (.pr (.int .i64) (.pr (.pr (.int .i64) (.pr (.int .i64) (.int .i64))) (.pr (.pr (.pr (.int .i64) (.pr (.int .i64) (.int .i64))) (.pr (.pr (.int .i64) (.pr (.int .i64) (.int .i64))) (.pr (.int .i64) (.pr (.int .i64) (.int .i64))))) (.sl (.pr (.int .i64) (.int .i64))))))))))), .one (.int .i64)]
abbrev R_counts_rules_has : List PSh := [.one .bool]
theorem e_counts_rules_has : cFn Try.prog 83 = some F_counts_rules_has.erase := by kernel_rfl
theorem k_counts_rules_has : callable Try.prog 83 = true := by kernel_rfl
/-- (cloverleaf/counts.rules).factor -/
def F_counts_rules_factor : TFn := ⟨56, 3, [.tmp 4, .tmp 5],
  (.seq (.reg [⟨some 2, none, (.op (.box 0 (.t 0)))⟩,
    ⟨some 4, none, (.op (.mv (.c (.p (.int .i64 0)))))⟩,
    ⟨some 5, none, (.op (.mv (.c (.p (.int .i64 0)))))⟩])
  (.seq (.reg [⟨some 6, none, (.op (.mv (.c (.p (.int .i64 1)))))⟩])
  (.seq (.block 0 (.loop [.v 6 (.int .i64)] [] [] (.seq (.seq (.reg [⟨some 10, none, (.op (.fa 0 (.t 2)))⟩,
    ⟨some 11, none, (.op (.fa 22 (.t 10)))⟩,
    ⟨some 12, none, (.op (.ld1 (.t 11)))⟩,
    ⟨some 13, none, (.op (.mv (.t 6)))⟩,
    ⟨some 14, none, (.op (.ia 2 (.t 12) (.t 13)))⟩,
    ⟨some 15, none, (.op (.fa 0 (.t 14)))⟩,
    ⟨some 16, none, (.op (.ld1 (.t 15)))⟩,
    ⟨some 17, none, (.op (.mv (.t 1)))⟩,
    ⟨some 18, none, (.op (.bin .lss (.t 16) (.t 17)))⟩])
  (.cond (.t 18) .skip (.exit 0)))
  (.block 1 (.reg [⟨some 19, none, (.op (.mv (.t 6)))⟩,
    ⟨some 20, none, (.op (.bin .add (.t 19) (.c (.p (.int .i64 1)))))⟩,
    ⟨some 6, none, (.op (.mv (.t 20)))⟩])))))
  (.seq (.regd [⟨some 21, none, (.op (.fa 0 (.t 2)))⟩,
    ⟨some 22, none, (.op (.fa 22 (.t 21)))⟩,
    ⟨some 23, none, (.op (.ld1 (.t 22)))⟩,
    ⟨some 24, none, (.op (.mv (.t 6)))⟩,
    ⟨some 25, none, (.op (.bin .sub (.t 24) (.c (.p (.int .i64 1)))))⟩,
    ⟨some 26, none, (.op (.ia 2 (.t 23) (.t 25)))⟩,
    ⟨some 27, none, (.op (.ldn 2 (.t 26)))⟩,
    ⟨some 28, none, (.op (.fa 0 (.t 2)))⟩,
    ⟨some 29, none, (.op (.fa 22 (.t 28)))⟩,
    ⟨some 30, none, (.op (.ld1 (.t 29)))⟩,
    ⟨some 31, none, (.op (.mv (.t 6)))⟩,
    ⟨some 32, none, (.op (.ia 2 (.t 30) (.t 31)))⟩,
    ⟨some 33, none, (.op (.ldn 2 (.t 32)))⟩,
    ⟨some 7, none, (.op (.newz 1 [(.p (.int .i64 0)), (.p (.int .i64 0))]))⟩,
    ⟨some 8, none, (.op (.newz 2 [(.p (.int .i64 0)), (.p (.int .i64 0))]))⟩,
    ⟨none, none, (.op (.st 2 (.t 7) (.t 27)))⟩,
    ⟨none, none, (.op (.st 2 (.t 8) (.t 33)))⟩] [(2, 9), (6, 9), (2, 12), (6, 12), (2, 13), (6, 13), (9, 13), (12, 13), (2, 14), (6, 14), (9, 14), (12, 14), (13, 14), (9, 15), (12, 15)] [])
  (.seq (.reg [⟨some 34, none, (.op (.fa 0 (.t 8)))⟩,
    ⟨some 35, none, (.op (.ld1 (.t 34)))⟩,
    ⟨some 36, none, (.op (.fa 0 (.t 7)))⟩,
    ⟨some 37, none, (.op (.ld1 (.t 36)))⟩,
    ⟨some 38, none, (.op (.bin .sub (.t 35) (.t 37)))⟩,
    ⟨some 9, none, (.op (.mv (.t 38)))⟩])
  (.seq (.reg [⟨some 39, none, (.op (.fa 1 (.t 7)))⟩,
    ⟨some 40, none, (.op (.ld1 (.t 39)))⟩,
    ⟨some 41, none, (.op (.mv (.t 9)))⟩,
    ⟨some 42, none, (.op (.bin .mul (.t 40) (.t 41)))⟩,
    ⟨some 43, none, (.op (.fa 1 (.t 8)))⟩,
    ⟨some 44, none, (.op (.ld1 (.t 43)))⟩,
    ⟨some 45, none, (.op (.fa 1 (.t 7)))⟩,
    ⟨some 46, none, (.op (.ld1 (.t 45)))⟩,
    ⟨some 47, none, (.op (.bin .sub (.t 44) (.t 46)))⟩,
    ⟨some 48, none, (.op (.mv (.t 1)))⟩,
    ⟨some 49, none, (.op (.fa 0 (.t 7)))⟩,
    ⟨some 50, none, (.op (.ld1 (.t 49)))⟩,
    ⟨some 51, none, (.op (.bin .sub (.t 48) (.t 50)))⟩,
    ⟨some 52, none, (.op (.bin .mul (.t 47) (.t 51)))⟩,
    ⟨some 53, none, (.op (.bin .add (.t 42) (.t 52)))⟩,
    ⟨some 54, none, (.op (.mv (.t 9)))⟩,
    ⟨some 55, none, (.op (.bin .mul (.c (.p (.int .i64 1000))) (.t 54)))⟩,
    ⟨some 4, none, (.op (.mv (.t 53)))⟩,
    ⟨some 5, none, (.op (.mv (.t 55)))⟩])
  .ret))))))⟩
def A_counts_rules_factor : Nat → Ty := tyAt [.un, .un, .un]
abbrev P_counts_rules_factor : List PSh := [.agg (.pr (.int .i64) (.pr (.int .i64) (.pr (.pr (.int .i64) (.pr (.int .i64) (.int .i64))) (.pr (.pr (.int .i64) (.pr (.int .i64) (.int .i64))) (.pr (.int .i64) (.pr (.int .i64) (.pr (.pr (.int .i64) (.pr (.int .i64) (.int .i64))) (.pr (.pr (.pr (.int .i64) (.pr (.int .i64) (.int .i64))) (.pr (.pr (.int .i64) (.pr (.int .i64) (.int .i64))) (.pr (.int .i64) (.pr (.int .i64) (.int .i64))))) (.sl (.pr (.int .i64) (.int .i64))))))))))), .one (.int .i64)]
abbrev R_counts_rules_factor : List PSh := [.one (.int .i64), .one (.int .i64)]
theorem e_counts_rules_factor : cFn Try.prog 84 = some F_counts_rules_factor.erase := by kernel_rfl
theorem k_counts_rules_factor : callable Try.prog 84 = true := by kernel_rfl
/-- cloverleaf/counts.divisor -/
def F_counts_divisor : TFn := ⟨15, 0, [.tmp 4],
  (.seq (.reg [⟨some 4, none, (.op (.mv (.c (.p (.int .i64 0)))))⟩])
  (.seq (.block 0 (.loop [.v 1 (.int .i64), .v 0 (.int .i64)] [] [] (.seq (.seq (.reg [⟨some 5, none, (.op (.mv (.t 1)))⟩,
    ⟨some 6, none, (.op (.bin .neq (.t 5) (.c (.p (.int .i64 0)))))⟩])
  (.cond (.t 6) .skip (.exit 0)))
  (.block 1 (.regd [⟨some 7, none, (.op (.mv (.t 1)))⟩,
    ⟨some 8, none, (.op (.mv (.t 0)))⟩,
    ⟨some 9, none, (.op (.mv (.t 1)))⟩,
    ⟨some 10, none, (.op (.bin .rem (.t 8) (.t 9)))⟩,
    ⟨some 0, none, (.op (.mv (.t 7)))⟩,
    ⟨some 1, none, (.op (.mv (.t 10)))⟩] [] [])))))
  (.seq (.reg [⟨some 11, none, (.op (.mv (.t 0)))⟩,
    ⟨some 12, none, (.op (.mv (.t 0)))⟩,
    ⟨some 13, none, (.op (.uneg (.t 12)))⟩,
    ⟨some 14, none, (.op (.mm true (.t 11) (.t 13)))⟩,
    ⟨some 4, none, (.op (.mv (.t 14)))⟩])
  .ret)))⟩
def A_counts_divisor : Nat → Ty := tyAt []
abbrev P_counts_divisor : List PSh := [.one (.int .i64), .one (.int .i64)]
abbrev R_counts_divisor : List PSh := [.one (.int .i64)]
theorem e_counts_divisor : cFn Try.prog 85 = some F_counts_divisor.erase := by kernel_rfl
theorem k_counts_divisor : callable Try.prog 85 = true := by kernel_rfl
/-- cloverleaf/cloverleafref06.factor -/
def F_ref06_factor : TFn := ⟨53, 3, [.tmp 4, .tmp 5],
  (.seq (.reg [⟨some 2, none, (.op (.box 0 (.t 0)))⟩,
    ⟨some 4, none, (.op (.mv (.c (.p (.int .i64 0)))))⟩,
    ⟨some 5, none, (.op (.mv (.c (.p (.int .i64 0)))))⟩])
  (.seq (.reg [⟨some 6, none, (.op (.mv (.c (.p (.int .i64 1)))))⟩])
  (.seq (.block 0 (.loop [.v 6 (.int .i64)] [] [] (.seq (.seq (.reg [⟨some 10, none, (.op (.fa 22 (.t 2)))⟩,
    ⟨some 11, none, (.op (.ld1 (.t 10)))⟩,
    ⟨some 12, none, (.op (.mv (.t 6)))⟩,
    ⟨some 13, none, (.op (.ia 2 (.t 11) (.t 12)))⟩,
    ⟨some 14, none, (.op (.fa 0 (.t 13)))⟩,
    ⟨some 15, none, (.op (.ld1 (.t 14)))⟩,
    ⟨some 16, none, (.op (.mv (.t 1)))⟩,
    ⟨some 17, none, (.op (.bin .lss (.t 15) (.t 16)))⟩])
  (.cond (.t 17) .skip (.exit 0)))
  (.block 1 (.reg [⟨some 18, none, (.op (.mv (.t 6)))⟩,
    ⟨some 19, none, (.op (.bin .add (.t 18) (.c (.p (.int .i64 1)))))⟩,
    ⟨some 6, none, (.op (.mv (.t 19)))⟩])))))
  (.seq (.regd [⟨some 20, none, (.op (.fa 22 (.t 2)))⟩,
    ⟨some 21, none, (.op (.ld1 (.t 20)))⟩,
    ⟨some 22, none, (.op (.mv (.t 6)))⟩,
    ⟨some 23, none, (.op (.bin .sub (.t 22) (.c (.p (.int .i64 1)))))⟩,
    ⟨some 24, none, (.op (.ia 2 (.t 21) (.t 23)))⟩,
    ⟨some 25, none, (.op (.ldn 2 (.t 24)))⟩,
    ⟨some 26, none, (.op (.fa 22 (.t 2)))⟩,
    ⟨some 27, none, (.op (.ld1 (.t 26)))⟩,
    ⟨some 28, none, (.op (.mv (.t 6)))⟩,
    ⟨some 29, none, (.op (.ia 2 (.t 27) (.t 28)))⟩,
    ⟨some 30, none, (.op (.ldn 2 (.t 29)))⟩,
    ⟨some 7, none, (.op (.newz 1 [(.p (.int .i64 0)), (.p (.int .i64 0))]))⟩,
    ⟨some 8, none, (.op (.newz 2 [(.p (.int .i64 0)), (.p (.int .i64 0))]))⟩,
    ⟨none, none, (.op (.st 2 (.t 7) (.t 25)))⟩,
    ⟨none, none, (.op (.st 2 (.t 8) (.t 30)))⟩] [(1, 7), (5, 7), (1, 10), (5, 10), (1, 11), (5, 11), (7, 11), (10, 11), (1, 12), (5, 12), (7, 12), (10, 12), (11, 12), (7, 13), (10, 13)] [])
  (.seq (.reg [⟨some 31, none, (.op (.fa 0 (.t 8)))⟩,
    ⟨some 32, none, (.op (.ld1 (.t 31)))⟩,
    ⟨some 33, none, (.op (.fa 0 (.t 7)))⟩,
    ⟨some 34, none, (.op (.ld1 (.t 33)))⟩,
    ⟨some 35, none, (.op (.bin .sub (.t 32) (.t 34)))⟩,
    ⟨some 9, none, (.op (.mv (.t 35)))⟩])
  (.seq (.reg [⟨some 36, none, (.op (.fa 1 (.t 7)))⟩,
    ⟨some 37, none, (.op (.ld1 (.t 36)))⟩,
    ⟨some 38, none, (.op (.mv (.t 9)))⟩,
    ⟨some 39, none, (.op (.bin .mul (.t 37) (.t 38)))⟩,
    ⟨some 40, none, (.op (.fa 1 (.t 8)))⟩,
    ⟨some 41, none, (.op (.ld1 (.t 40)))⟩,
    ⟨some 42, none, (.op (.fa 1 (.t 7)))⟩,
    ⟨some 43, none, (.op (.ld1 (.t 42)))⟩,
    ⟨some 44, none, (.op (.bin .sub (.t 41) (.t 43)))⟩,
    ⟨some 45, none, (.op (.mv (.t 1)))⟩,
    ⟨some 46, none, (.op (.fa 0 (.t 7)))⟩,
    ⟨some 47, none, (.op (.ld1 (.t 46)))⟩,
    ⟨some 48, none, (.op (.bin .sub (.t 45) (.t 47)))⟩,
    ⟨some 49, none, (.op (.bin .mul (.t 44) (.t 48)))⟩,
    ⟨some 50, none, (.op (.bin .add (.t 39) (.t 49)))⟩,
    ⟨some 51, none, (.op (.mv (.t 9)))⟩,
    ⟨some 52, none, (.op (.bin .mul (.c (.p (.int .i64 1000))) (.t 51)))⟩,
    ⟨some 4, none, (.op (.mv (.t 50)))⟩,
    ⟨some 5, none, (.op (.mv (.t 52)))⟩])
  .ret))))))⟩
def A_ref06_factor : Nat → Ty := tyAt [.un, .un, .un]
abbrev P_ref06_factor : List PSh := [.agg (.pr (.int .i64) (.pr (.int .i64) (.pr (.pr (.int .i64) (.pr (.int .i64) (.int .i64))) (.pr (.pr (.int .i64) (.pr (.int .i64) (.int .i64))) (.pr (.int .i64) (.pr (.int .i64) (.pr (.pr (.int .i64) (.pr (.int .i64) (.int .i64))) (.pr (.pr (.pr (.int .i64) (.pr (.int .i64) (.int .i64))) (.pr (.pr (.int .i64) (.pr (.int .i64) (.int .i64))) (.pr (.int .i64) (.pr (.int .i64) (.int .i64))))) (.sl (.pr (.int .i64) (.int .i64))))))))))), .one (.int .i64)]
abbrev R_ref06_factor : List PSh := [.one (.int .i64), .one (.int .i64)]
theorem e_ref06_factor : cFn Try.prog 87 = some F_ref06_factor.erase := by kernel_rfl
theorem k_ref06_factor : callable Try.prog 87 = true := by kernel_rfl
/-- (cloverleaf/counts.rules).sampleErr -/
def F_counts_rules_sampleErr : TFn := ⟨54, 12, [.tmp 4],
  (.seq (.reg [⟨some 2, none, (.op (.box 0 (.t 0)))⟩,
    ⟨some 3, none, (.op (.box 1 (.t 1)))⟩,
    ⟨some 4, none, (.op (.mv (.c (.p (.int .i64 0)))))⟩])
  (.seq (.reg [⟨some 6, none, (.op (.fa 0 (.t 3)))⟩,
    ⟨some 7, none, (.op (.ldn 3 (.t 6)))⟩,
    ⟨some 8, none, (.call 2 75 [(.t 7), (.c (.p (.int .i64 100000)))])⟩,
    ⟨some 9, none, (.op (.bin .lss (.t 8) (.c (.p (.int .i64 0)))))⟩,
    ⟨some 10, none, (.op (.mv (.t 9)))⟩,
    ⟨some 11, some (some 10, true), (.op (.fa 4 (.t 3)))⟩,
    ⟨some 12, some (some 10, true), (.op (.ld1 (.t 11)))⟩,
    ⟨some 13, some (some 10, true), (.call 3 104 [(.t 12)])⟩,
    ⟨some 14, none, (.op (.pick (.t 10) (.t 13) (.c (.p (.bool false)))))⟩,
    ⟨some 15, none, (.op (.mv (.t 14)))⟩,
    ⟨some 16, some (some 15, true), (.op (.fa 3 (.t 3)))⟩,
    ⟨some 17, some (some 15, true), (.op (.ld1 (.t 16)))⟩,
    ⟨some 18, some (some 15, true), (.call 4 74 [(.t 17), (.c (.p (.int .i64 0))), (.c (.p (.int .i64 1000000)))])⟩,
    ⟨some 19, none, (.op (.pick (.t 15) (.t 18) (.c (.p (.bool false)))))⟩,
    ⟨some 20, none, (.op (.mv (.t 19)))⟩,
    ⟨some 21, some (some 20, true), (.op (.fa 5 (.t 3)))⟩,
    ⟨some 22, some (some 20, true), (.op (.ld1 (.t 21)))⟩,
    ⟨some 23, some (some 20, true), (.call 5 74 [(.t 22), (.c (.p (.int .i64 0))), (.c (.p (.int .i64 10000)))])⟩,
    ⟨some 24, none, (.op (.pick (.t 20) (.t 23) (.c (.p (.bool false)))))⟩,
    ⟨some 25, none, (.op (.mv (.t 24)))⟩,
    ⟨some 26, some (some 25, true), (.op (.ldn 23 (.t 2)))⟩,
    ⟨some 27, some (some 25, true), (.op (.fa 6 (.t 3)))⟩,
    ⟨some 28, some (some 25, true), (.op (.ld1 (.t 27)))⟩,
    ⟨some 29, some (some 25, true), (.call 6 83 [(.t 26), (.t 28)])⟩,
    ⟨some 30, none, (.op (.pick (.t 25) (.t 29) (.c (.p (.bool false)))))⟩,
    ⟨some 5, none, (.op (.mv (.t 30)))⟩])
  (.seq (.seq (.reg [⟨some 31, none, (.op (.mv (.t 5)))⟩,
    ⟨some 32, none, (.op (.unot (.t 31)))⟩])
  (.cond (.t 32) (.seq (.reg [⟨some 4, none, (.op (.mv (.c (.p (.int .i64 2)))))⟩])
  .ret) .skip))
  (.seq (.regd [⟨some 33, none, (.op (.fa 0 (.t 3)))⟩,
    ⟨some 34, none, (.op (.sla 1 3 (.t 33) none none))⟩,
    ⟨some 35, none, (.call 7 100 [(.t 34)])⟩,
    ⟨some 36, none, (.op (.fa 3 (.t 3)))⟩,
    ⟨some 37, none, (.op (.ld1 (.t 36)))⟩,
    ⟨some 38, none, (.op (.bin .leq (.t 35) (.t 37)))⟩,
    ⟨some 39, none, (.call 8 78 [(.t 38), (.c (.p (.int .i64 13)))])⟩,
    ⟨some 40, none, (.op (.fa 0 (.t 2)))⟩,
    ⟨some 41, none, (.op (.fa 1 (.t 40)))⟩,
    ⟨some 42, none, (.op (.ld1 (.t 41)))⟩,
    ⟨some 43, none, (.op (.bin .mul (.c (.p (.int .i64 2))) (.t 42)))⟩,
    ⟨some 44, none, (.op (.fa 3 (.t 3)))⟩,
    ⟨some 45, none, (.op (.ld1 (.t 44)))⟩,
    ⟨some 46, none, (.op (.bin .mul (.t 43) (.t 45)))⟩,
    ⟨some 47, none, (.op (.fa 0 (.t 2)))⟩,
    ⟨some 48, none, (.op (.fa 0 (.t 47)))⟩,
    ⟨some 49, none, (.op (.ld1 (.t 48)))⟩,
    ⟨some 50, none, (.op (.bin .leq (.t 46) (.t 49)))⟩,
    ⟨some 51, none, (.call 9 78 [(.t 50), (.c (.p (.int .i64 22)))])⟩,
    ⟨some 52, none, (.op (.bsl false 10 1 2 [(.p (.int .i64 0)), (.p (.int .i64 0))] [(0, 1, (.t 39)), (1, 1, (.t 51))]))⟩,
    ⟨some 53, none, (.call 11 77 [(.t 52)])⟩,
    ⟨some 4, none, (.op (.mv (.t 53)))⟩] [(1, 4), (2, 4), (1, 9), (2, 9), (4, 9), (6, 9), (1, 12), (2, 12), (4, 12), (6, 12), (9, 12), (1, 16), (2, 16), (4, 16), (6, 16), (9, 16), (12, 16)] [1])
  .ret))))⟩
def A_counts_rules_sampleErr : Nat → Ty := tyAt [.un, .un, .un, .un, .un, .un, .un, .un, .un, .un, (.int .i64), .un]
abbrev P_counts_rules_sampleErr : List PSh := [.agg (.pr (.int .i64) (.pr (.int .i64) (.pr (.pr (.int .i64) (.pr (.int .i64) (.int .i64))) (.pr (.pr (.int .i64) (.pr (.int .i64) (.int .i64))) (.pr (.int .i64) (.pr (.int .i64) (.pr (.pr (.int .i64) (.pr (.int .i64) (.int .i64))) (.pr (.pr (.pr (.int .i64) (.pr (.int .i64) (.int .i64))) (.pr (.pr (.int .i64) (.pr (.int .i64) (.int .i64))) (.pr (.int .i64) (.pr (.int .i64) (.int .i64))))) (.sl (.pr (.int .i64) (.int .i64))))))))))), .agg (.pr (.pr (.int .i64) (.pr (.int .i64) (.int .i64))) (.pr (.int .i64) (.pr (.int .i64) (.pr (.int .i64) (.int .i64)))))]
abbrev R_counts_rules_sampleErr : List PSh := [.one (.int .i64)]
theorem e_counts_rules_sampleErr : cFn Try.prog 89 = some F_counts_rules_sampleErr.erase := by kernel_rfl
theorem k_counts_rules_sampleErr : callable Try.prog 89 = true := by kernel_rfl
/-- (cloverleaf/counts.rules).reducedCounts -/
def F_counts_rules_reducedCounts : TFn := ⟨35, 9, [.celln 4 6],
  (.seq (.reg [⟨some 2, none, (.op (.box 0 (.t 0)))⟩,
    ⟨some 3, none, (.op (.box 1 (.t 1)))⟩,
    ⟨some 4, none, (.op (.newz 2 [(.p (.int .i64 0)), (.p (.int .i64 0)), (.p (.int .i64 0)), (.p (.int .i64 0)), (.p (.int .i64 0)), (.p (.int .i64 0))]))⟩])
  (.seq (.regd [⟨some 9, none, (.op (.ldn 23 (.t 2)))⟩,
    ⟨some 10, none, (.op (.ldn 23 (.t 2)))⟩,
    ⟨some 11, none, (.op (.ldn 7 (.t 3)))⟩,
    ⟨some 12, none, (.call 3 95 [(.t 10), (.t 11)])⟩,
    ⟨some 13, none, (.call 4 99 [(.t 9), (.t 12)])⟩,
    ⟨some 5, none, (.op (.newz 5 [(.p (.int .i64 0)), (.p (.int .i64 0)), (.p (.int .i64 0)), (.p (.int .i64 0)), (.p (.int .i64 0)), (.p (.int .i64 0))]))⟩,
    ⟨none, none, (.op (.st 6 (.t 5) (.t 13)))⟩] [(0, 1), (0, 2), (1, 2), (0, 3), (0, 5), (1, 5), (2, 5), (3, 5), (4, 5)] [])
  (.seq (.reg [⟨some 15, none, (.op (.ldn 23 (.t 2)))⟩,
    ⟨some 16, none, (.op (.fa 6 (.t 3)))⟩,
    ⟨some 17, none, (.op (.ld1 (.t 16)))⟩,
    ⟨some 18, none, (.call 6 84 [(.t 15), (.t 17)])⟩,
    ⟨some 14, none, (.op (.mv (.t 18)))⟩,
    ⟨some 19, none, (.op (.ext 0 (.t 14)))⟩,
    ⟨some 20, none, (.op (.ext 1 (.t 14)))⟩,
    ⟨some 6, none, (.op (.mv (.t 19)))⟩,
    ⟨some 7, none, (.op (.mv (.t 20)))⟩])
  (.seq (.seq (.reg [⟨some 21, none, (.op (.mv (.c (.p (.int .i64 0)))))⟩])
  (.block 0 (.loop [.v 21 (.int .i64), .c 5 (.pr (.int .i64) (.pr (.int .i64) (.pr (.int .i64) (.pr (.int .i64) (.pr (.int .i64) (.int .i64))))))] [5] [] (.seq (.reg [⟨some 22, none, (.op (.bin .lss (.t 21) (.c (.p (.int .i64 3)))))⟩])
  (.seq (.cond (.t 22) .skip (.exit 0))
  (.seq (.block 1 (.seq (.reg [⟨some 23, none, (.op (.mv (.t 21)))⟩,
    ⟨some 8, none, (.op (.mv (.t 23)))⟩])
  (.reg [⟨some 24, none, (.op (.mv (.t 8)))⟩,
    ⟨some 25, none, (.op (.mv (.t 8)))⟩,
    ⟨some 26, none, (.op (.iaa 2 3 (.t 5) (.t 25)))⟩,
    ⟨some 27, none, (.op (.ldn 2 (.t 26)))⟩,
    ⟨some 28, none, (.op (.mv (.t 6)))⟩,
    ⟨some 29, none, (.call 7 119 [(.t 27), (.t 28)])⟩,
    ⟨some 30, none, (.op (.mv (.t 7)))⟩,
    ⟨some 31, none, (.call 8 118 [(.t 29), (.t 30)])⟩,
    ⟨some 32, none, (.op (.iaa 2 3 (.t 5) (.t 24)))⟩,
    ⟨none, none, (.op (.st 2 (.t 32) (.t 31)))⟩])))
  (.reg [⟨some 33, none, (.op (.bin .add (.t 21) (.c (.p (.int .i64 1)))))⟩,
    ⟨some 21, none, (.op (.mv (.t 33)))⟩])))))))
  (.seq (.reg [⟨some 34, none, (.op (.ldn 6 (.t 5)))⟩,
    ⟨none, none, (.op (.st 6 (.t 4) (.t 34)))⟩])
  .ret)))))⟩
def A_counts_rules_reducedCounts : Nat → Ty := tyAt [.un, .un, .un, .un, .un, .un, .un, .un, .un]
abbrev P_counts_rules_reducedCounts : List PSh := [.agg (.pr (.int .i64) (.pr (.int .i64) (.pr (.pr (.int .i64) (.pr (.int .i64) (.int .i64))) (.pr (.pr (.int .i64) (.pr (.int .i64) (.int .i64))) (.pr (.int .i64) (.pr (.int .i64) (.pr (.pr (.int .i64) (.pr (.int .i64) (.int .i64))) (.pr (.pr (.pr (.int .i64) (.pr (.int .i64) (.int .i64))) (.pr (.pr (.int .i64) (.pr (.int .i64) (.int .i64))) (.pr (.int .i64) (.pr (.int .i64) (.int .i64))))) (.sl (.pr (.int .i64) (.int .i64))))))))))), .agg (.pr (.pr (.int .i64) (.pr (.int .i64) (.int .i64))) (.pr (.int .i64) (.pr (.int .i64) (.pr (.int .i64) (.int .i64)))))]
abbrev R_counts_rules_reducedCounts : List PSh := [.agg (.pr (.pr (.int .i64) (.int .i64)) (.pr (.pr (.int .i64) (.int .i64)) (.pr (.int .i64) (.int .i64))))]
theorem e_counts_rules_reducedCounts : cFn Try.prog 90 = some F_counts_rules_reducedCounts.erase := by kernel_rfl
theorem k_counts_rules_reducedCounts : callable Try.prog 90 = true := by kernel_rfl
/-- cloverleaf/cloverleafref06.rounded -/
def F_ref06_rounded : TFn := ⟨14, 3, [.celln 6 2],
  (.seq (.reg [⟨some 6, none, (.op (.newz 0 [(.p (.int .i64 0)), (.p (.int .i64 0))]))⟩])
  (.seq (.reg [⟨some 7, none, (.op (.mv (.t 0)))⟩,
    ⟨some 8, none, (.op (.mv (.t 2)))⟩,
    ⟨some 9, none, (.call 1 46 [(.t 7), (.t 8)])⟩,
    ⟨some 10, none, (.op (.mv (.t 1)))⟩,
    ⟨some 11, none, (.op (.mv (.t 2)))⟩,
    ⟨some 12, none, (.call 2 47 [(.t 10), (.t 11)])⟩,
    ⟨some 13, none, (.op (.build [(.p (.int .i64 0)), (.p (.int .i64 0))] [(0, 1, (.t 9)), (1, 1, (.t 12))]))⟩,
    ⟨none, none, (.op (.st 2 (.t 6) (.t 13)))⟩])
  .ret))⟩
def A_ref06_rounded : Nat → Ty := tyAt [.un, .un, .un]
abbrev P_ref06_rounded : List PSh := [.one (.int .i64), .one (.int .i64), .one (.int .i64)]
abbrev R_ref06_rounded : List PSh := [.agg (.pr (.int .i64) (.int .i64))]
theorem e_ref06_rounded : cFn Try.prog 91 = some F_ref06_rounded.erase := by kernel_rfl
theorem k_ref06_rounded : callable Try.prog 91 = true := by kernel_rfl
/-- (cloverleaf/counts.rules).live -/
def F_counts_rules_live : TFn := ⟨35, 5, [.celln 4 6],
  (.seq (.reg [⟨some 2, none, (.op (.box 0 (.t 0)))⟩,
    ⟨some 3, none, (.op (.box 1 (.t 1)))⟩,
    ⟨some 4, none, (.op (.newz 2 [(.p (.int .i64 0)), (.p (.int .i64 0)), (.p (.int .i64 0)), (.p (.int .i64 0)), (.p (.int .i64 0)), (.p (.int .i64 0))]))⟩])
  (.seq (.seq (.reg [⟨some 7, none, (.op (.fa 0 (.t 3)))⟩,
    ⟨some 8, none, (.op (.ldn 3 (.t 7)))⟩,
    ⟨some 9, none, (.op (.mv (.c (.p (.int .i64 0)))))⟩])
  (.block 0 (.loop [.v 9 (.int .i64), .c 2 (.pr (.int .i64) (.pr (.int .i64) (.pr (.int .i64) (.pr (.int .i64) (.pr (.int .i64) (.int .i64))))))] [2] [] (.seq (.reg [⟨some 10, none, (.op (.bin .lss (.t 9) (.c (.p (.int .i64 3)))))⟩])
  (.seq (.cond (.t 10) .skip (.exit 0))
  (.seq (.block 1 (.seq (.reg [⟨some 11, none, (.op (.mv (.t 9)))⟩,
    ⟨some 12, none, (.op (.idx 1 3 false (.t 8) (.t 9)))⟩,
    ⟨some 5, none, (.op (.mv (.t 11)))⟩,
    ⟨some 6, none, (.op (.mv (.t 12)))⟩])
  (.regd [⟨some 13, none, (.op (.mv (.t 5)))⟩,
    ⟨some 14, none, (.op (.mv (.t 6)))⟩,
    ⟨some 15, none, (.op (.bin .mul (.c (.p (.int .i64 1000))) (.t 14)))⟩,
    ⟨some 16, none, (.op (.fa 0 (.t 2)))⟩,
    ⟨some 17, none, (.op (.fa 0 (.t 16)))⟩,
    ⟨some 18, none, (.op (.ld1 (.t 17)))⟩,
    ⟨some 19, none, (.op (.bin .mul (.t 15) (.t 18)))⟩,
    ⟨some 20, none, (.call 3 120 [(.t 19)])⟩,
    ⟨some 21, none, (.op (.fa 0 (.t 2)))⟩,
    ⟨some 22, none, (.op (.fa 0 (.t 21)))⟩,
    ⟨some 23, none, (.op (.ld1 (.t 22)))⟩,
    ⟨some 24, none, (.op (.fa 0 (.t 2)))⟩,
    ⟨some 25, none, (.op (.fa 1 (.t 24)))⟩,
    ⟨some 26, none, (.op (.ld1 (.t 25)))⟩,
    ⟨some 27, none, (.op (.fa 3 (.t 3)))⟩,
    ⟨some 28, none, (.op (.ld1 (.t 27)))⟩,
    ⟨some 29, none, (.op (.bin .mul (.t 26) (.t 28)))⟩,
    ⟨some 30, none, (.op (.bin .sub (.t 23) (.t 29)))⟩,
    ⟨some 31, none, (.call 4 118 [(.t 20), (.t 30)])⟩,
    ⟨some 32, none, (.op (.iaa 2 3 (.t 4) (.t 13)))⟩,
    ⟨none, none, (.op (.st 2 (.t 32) (.t 31)))⟩] [(5, 10), (7, 10), (5, 13), (7, 13), (10, 13), (5, 15), (7, 15), (10, 15), (13, 15)] [])))
  (.reg [⟨some 33, none, (.op (.bin .add (.t 9) (.c (.p (.int .i64 1)))))⟩,
    ⟨some 9, none, (.op (.mv (.t 33)))⟩])))))))
  (.seq (.reg [⟨some 34, none, (.op (.ldn 6 (.t 4)))⟩,
    ⟨none, none, (.op (.st 6 (.t 4) (.t 34)))⟩])
  .ret)))⟩
def A_counts_rules_live : Nat → Ty := tyAt [.un, .un, .un, .un, .un]
abbrev P_counts_rules_live : List PSh := [.agg (.pr (.int .i64) (.pr (.int .i64) (.pr (.pr (.int .i64) (.pr (.int .i64) (.int .i64))) (.pr (.pr (.int .i64) (.pr (.int .i64) (.int .i64))) (.pr (.int .i64) (.pr (.int .i64) (.pr (.pr (.int .i64) (.pr (.int .i64) (.int .i64))) (.pr (.pr (.pr (.int .i64) (.pr (.int .i64) (.int .i64))) (.pr (.pr (.int .i64) (.pr (.int .i64) (.int .i64))) (.pr (.int .i64) (.pr (.int .i64) (.int .i64))))) (.sl (.pr (.int .i64) (.int .i64))))))))))), .agg (.pr (.pr (.int .i64) (.pr (.int .i64) (.int .i64))) (.pr (.int .i64) (.pr (.int .i64) (.pr (.int .i64) (.int .i64)))))]
abbrev R_counts_rules_live : List PSh := [.agg (.pr (.pr (.int .i64) (.int .i64)) (.pr (.pr (.int .i64) (.int .i64)) (.pr (.int .i64) (.int .i64))))]
theorem e_counts_rules_live : cFn Try.prog 92 = some F_counts_rules_live.erase := by kernel_rfl
theorem k_counts_rules_live : callable Try.prog 92 = true := by kernel_rfl
/-- (cloverleaf/counts.rules).background -/
def F_counts_rules_background : TFn := ⟨27, 3, [.celln 4 3],
  (.seq (.reg [⟨some 2, none, (.op (.box 0 (.t 0)))⟩,
    ⟨some 3, none, (.op (.box 1 (.t 1)))⟩,
    ⟨some 4, none, (.op (.newz 2 [(.p (.int .i64 0)), (.p (.int .i64 0)), (.p (.int .i64 0))]))⟩])
  (.seq (.seq (.reg [⟨some 6, none, (.op (.mv (.c (.p (.int .i64 0)))))⟩])
  (.block 0 (.loop [.v 6 (.int .i64), .c 2 (.pr (.int .i64) (.pr (.int .i64) (.int .i64)))] [2] [] (.seq (.reg [⟨some 7, none, (.op (.bin .lss (.t 6) (.c (.p (.int .i64 3)))))⟩])
  (.seq (.cond (.t 7) .skip (.exit 0))
  (.seq (.block 1 (.seq (.reg [⟨some 8, none, (.op (.mv (.t 6)))⟩,
    ⟨some 5, none, (.op (.mv (.t 8)))⟩])
  (.regd [⟨some 9, none, (.op (.mv (.t 5)))⟩,
    ⟨some 10, none, (.op (.mv (.t 5)))⟩,
    ⟨some 11, none, (.op (.fa 0 (.t 2)))⟩,
    ⟨some 12, none, (.op (.fa 2 (.t 11)))⟩,
    ⟨some 13, none, (.op (.iaa 1 3 (.t 12) (.t 10)))⟩,
    ⟨some 14, none, (.op (.ld1 (.t 13)))⟩,
    ⟨some 15, none, (.op (.mv (.t 5)))⟩,
    ⟨some 16, none, (.op (.fa 0 (.t 2)))⟩,
    ⟨some 17, none, (.op (.fa 5 (.t 16)))⟩,
    ⟨some 18, none, (.op (.iaa 1 3 (.t 17) (.t 15)))⟩,
    ⟨some 19, none, (.op (.ld1 (.t 18)))⟩,
    ⟨some 20, none, (.op (.fa 4 (.t 3)))⟩,
    ⟨some 21, none, (.op (.ld1 (.t 20)))⟩,
    ⟨some 22, none, (.op (.bin .mul (.t 19) (.t 21)))⟩,
    ⟨some 23, none, (.op (.bin .add (.t 14) (.t 22)))⟩,
    ⟨some 24, none, (.op (.iaa 1 3 (.t 4) (.t 9)))⟩,
    ⟨none, none, (.op (.st 1 (.t 24) (.t 23)))⟩] [(5, 10), (5, 12), (10, 12)] [])))
  (.reg [⟨some 25, none, (.op (.bin .add (.t 6) (.c (.p (.int .i64 1)))))⟩,
    ⟨some 6, none, (.op (.mv (.t 25)))⟩])))))))
  (.seq (.reg [⟨some 26, none, (.op (.ldn 3 (.t 4)))⟩,
    ⟨none, none, (.op (.st 3 (.t 4) (.t 26)))⟩])
  .ret)))⟩
def A_counts_rules_background : Nat → Ty := tyAt [.un, .un, .un]
abbrev P_counts_rules_background : List PSh := [.agg (.pr (.int .i64) (.pr (.int .i64) (.pr (.pr (.int .i64) (.pr (.int .i64) (.int .i64))) (.pr (.pr (.int .i64) (.pr (.int .i64) (.int .i64))) (.pr (.int .i64) (.pr (.int .i64) (.pr (.pr (.int .i64) (.pr (.int .i64) (.int .i64))) (.pr (.pr (.pr (.int .i64) (.pr (.int .i64) (.int .i64))) (.pr (.pr (.int .i64) (.pr (.int .i64) (.int .i64))) (.pr (.int .i64) (.pr (.int .i64) (.int .i64))))) (.sl (.pr (.int .i64) (.int .i64))))))))))), .agg (.pr (.pr (.int .i64) (.pr (.int .i64) (.int .i64))) (.pr (.int .i64) (.pr (.int .i64) (.pr (.int .i64) (.int .i64)))))]
abbrev R_counts_rules_background : List PSh := [.agg (.pr (.int .i64) (.pr (.int .i64) (.int .i64)))]
theorem e_counts_rules_background : cFn Try.prog 93 = some F_counts_rules_background.erase := by kernel_rfl
theorem k_counts_rules_background : callable Try.prog 93 = true := by kernel_rfl
/-- (cloverleaf/counts.rules).radon -/
def F_counts_rules_radon : TFn := ⟨36, 13, [.celln 4 2],
  (.seq (.reg [⟨some 2, none, (.op (.box 0 (.t 0)))⟩,
    ⟨some 3, none, (.op (.box 1 (.t 1)))⟩,
    ⟨some 4, none, (.op (.newz 2 [(.p (.int .i64 0)), (.p (.int .i64 0))]))⟩])
  (.seq (.regd [⟨some 7, none, (.op (.ldn 23 (.t 2)))⟩,
    ⟨some 8, none, (.op (.ldn 7 (.t 3)))⟩,
    ⟨some 9, none, (.call 3 92 [(.t 7), (.t 8)])⟩,
    ⟨some 10, none, (.op (.idx 2 3 true (.t 9) (.c (.p (.int .i64 1)))))⟩,
    ⟨some 11, none, (.op (.ldn 23 (.t 2)))⟩,
    ⟨some 12, none, (.op (.ldn 7 (.t 3)))⟩,
    ⟨some 13, none, (.call 4 93 [(.t 11), (.t 12)])⟩,
    ⟨some 14, none, (.op (.idx 1 3 false (.t 13) (.c (.p (.int .i64 1)))))⟩,
    ⟨some 15, none, (.call 5 120 [(.t 14)])⟩,
    ⟨some 16, none, (.call 6 121 [(.t 10), (.t 15)])⟩,
    ⟨some 5, none, (.op (.newz 7 [(.p (.int .i64 0)), (.p (.int .i64 0))]))⟩,
    ⟨none, none, (.op (.st 2 (.t 5) (.t 16)))⟩] [(0, 1), (0, 4), (1, 4), (2, 4), (0, 5), (1, 5), (2, 5), (4, 5), (0, 10), (1, 10), (2, 10), (4, 10), (5, 10), (6, 10), (8, 10), (9, 10)] [])
  (.seq (.reg [⟨some 17, none, (.op (.fa 5 (.t 3)))⟩,
    ⟨some 18, none, (.op (.ld1 (.t 17)))⟩,
    ⟨some 19, none, (.op (.bin .mul (.c (.p (.int .i64 1000000))) (.t 18)))⟩,
    ⟨some 20, none, (.call 8 120 [(.t 19)])⟩,
    ⟨some 6, none, (.op (.newz 9 [(.p (.int .i64 0)), (.p (.int .i64 0))]))⟩,
    ⟨none, none, (.op (.st 2 (.t 6) (.t 20)))⟩])
  (.seq (.regd [⟨some 21, none, (.op (.ldn 2 (.t 6)))⟩,
    ⟨some 22, none, (.op (.ldn 2 (.t 5)))⟩,
    ⟨some 23, none, (.op (.fa 0 (.t 2)))⟩,
    ⟨some 24, none, (.op (.fa 8 (.t 23)))⟩,
    ⟨some 25, none, (.op (.ld1 (.t 24)))⟩,
    ⟨some 26, none, (.call 10 119 [(.t 22), (.t 25)])⟩,
    ⟨some 27, none, (.call 11 121 [(.t 21), (.t 26)])⟩,
    ⟨some 28, none, (.op (.fa 0 (.t 2)))⟩,
    ⟨some 29, none, (.op (.fa 9 (.t 28)))⟩,
    ⟨some 30, none, (.op (.ld1 (.t 29)))⟩,
    ⟨some 31, none, (.op (.fa 0 (.t 2)))⟩,
    ⟨some 32, none, (.op (.fa 8 (.t 31)))⟩,
    ⟨some 33, none, (.op (.ld1 (.t 32)))⟩,
    ⟨some 34, none, (.op (.bin .sub (.t 30) (.t 33)))⟩,
    ⟨some 35, none, (.call 12 118 [(.t 27), (.t 34)])⟩,
    ⟨none, none, (.op (.st 2 (.t 4) (.t 35)))⟩] [(0, 1), (0, 4), (1, 4), (0, 5), (0, 9), (1, 9), (4, 9), (5, 9), (6, 9), (0, 12), (1, 12), (4, 12), (5, 12), (6, 12), (9, 12)] [])
  .ret))))⟩
def A_counts_rules_radon : Nat → Ty := tyAt [.un, .un, .un, .un, .un, .un, .un, .un, .un, .un, .un, .un, .un]
abbrev P_counts_rules_radon : List PSh := [.agg (.pr (.int .i64) (.pr (.int .i64) (.pr (.pr (.int .i64) (.pr (.int .i64) (.int .i64))) (.pr (.pr (.int .i64) (.pr (.int .i64) (.int .i64))) (.pr (.int .i64) (.pr (.int .i64) (.pr (.pr (.int .i64) (.pr (.int .i64) (.int .i64))) (.pr (.pr (.pr (.int .i64) (.pr (.int .i64) (.int .i64))) (.pr (.pr (.int .i64) (.pr (.int .i64) (.int .i64))) (.pr (.int .i64) (.pr (.int .i64) (.int .i64))))) (.sl (.pr (.int .i64) (.int .i64))))))))))), .agg (.pr (.pr (.int .i64) (.pr (.int .i64) (.int .i64))) (.pr (.int .i64) (.pr (.int .i64) (.pr (.int .i64) (.int .i64)))))]
abbrev R_counts_rules_radon : List PSh := [.agg (.pr (.int .i64) (.int .i64))]
theorem e_counts_rules_radon : cFn Try.prog 94 = some F_counts_rules_radon.erase := by kernel_rfl
theorem k_counts_rules_radon : callable Try.prog 94 = true := by kernel_rfl
/-- (cloverleaf/counts.rules).net -/
def F_counts_rules_net : TFn := ⟨44, 15, [.celln 4 6],
  (.seq (.reg [⟨some 2, none, (.op (.box 0 (.t 0)))⟩,
    ⟨some 3, none, (.op (.box 1 (.t 1)))⟩,
    ⟨some 4, none, (.op (.newz 2 [(.p (.int .i64 0)), (.p (.int .i64 0)), (.p (.int .i64 0)), (.p (.int .i64 0)), (.p (.int .i64 0)), (.p (.int .i64 0))]))⟩])
  (.seq (.regd [⟨some 10, none, (.op (.ldn 23 (.t 2)))⟩,
    ⟨some 11, none, (.op (.ldn 7 (.t 3)))⟩,
    ⟨some 12, none, (.call 3 92 [(.t 10), (.t 11)])⟩,
    ⟨some 13, none, (.op (.ldn 23 (.t 2)))⟩,
    ⟨some 14, none, (.op (.ldn 7 (.t 3)))⟩,
    ⟨some 15, none, (.call 4 93 [(.t 13), (.t 14)])⟩,
    ⟨some 16, none, (.op (.ldn 23 (.t 2)))⟩,
    ⟨some 17, none, (.op (.ldn 7 (.t 3)))⟩,
    ⟨some 18, none, (.call 5 94 [(.t 16), (.t 17)])⟩,
    ⟨some 5, none, (.op (.newz 6 [(.p (.int .i64 0)), (.p (.int .i64 0)), (.p (.int .i64 0)), (.p (.int .i64 0)), (.p (.int .i64 0)), (.p (.int .i64 0))]))⟩,
    ⟨some 6, none, (.op (.newz 7 [(.p (.int .i64 0)), (.p (.int .i64 0)), (.p (.int .i64 0))]))⟩,
    ⟨some 7, none, (.op (.newz 8 [(.p (.int .i64 0)), (.p (.int .i64 0))]))⟩,
    ⟨none, none, (.op (.st 6 (.t 5) (.t 12)))⟩,
    ⟨none, none, (.op (.st 3 (.t 6) (.t 15)))⟩,
    ⟨none, none, (.op (.st 2 (.t 7) (.t 18)))⟩] [(0, 1), (0, 3), (1, 3), (2, 3), (0, 4), (1, 4), (2, 4), (3, 4), (0, 6), (1, 6), (2, 6), (3, 6), (4, 6), (5, 6), (0, 7), (1, 7), (2, 7), (3, 7), (4, 7), (5, 7), (6, 7), (0, 9), (1, 9), (2, 9), (3, 9), (4, 9), (5, 9), (6, 9), (7, 9), (8, 9), (0, 10), (1, 10), (2, 10), (3, 10), (4, 10), (5, 10), (6, 10), (7, 10), (8, 10), (9, 10), (0, 11), (1, 11), (2, 11), (3, 11), (4, 11), (5, 11), (6, 11), (7, 11), (8, 11), (9, 11), (10, 11)] [])
  (.seq (.seq (.reg [⟨some 19, none, (.op (.mv (.c (.p (.int .i64 0)))))⟩])
  (.block 0 (.loop [.v 19 (.int .i64), .c 2 (.pr (.int .i64) (.pr (.int .i64) (.pr (.int .i64) (.pr (.int .i64) (.pr (.int .i64) (.int .i64))))))] [2, 11] [11] (.seq (.reg [⟨some 20, none, (.op (.bin .lss (.t 19) (.c (.p (.int .i64 3)))))⟩])
  (.seq (.cond (.t 20) .skip (.exit 0))
  (.seq (.block 1 (.seq (.reg [⟨some 21, none, (.op (.mv (.t 19)))⟩,
    ⟨some 8, none, (.op (.mv (.t 21)))⟩])
  (.seq (.regd [⟨some 22, none, (.op (.ldn 2 (.t 7)))⟩,
    ⟨some 23, none, (.op (.mv (.t 8)))⟩,
    ⟨some 24, none, (.op (.fa 0 (.t 2)))⟩,
    ⟨some 25, none, (.op (.fa 10 (.t 24)))⟩,
    ⟨some 26, none, (.op (.iaa 1 3 (.t 25) (.t 23)))⟩,
    ⟨some 27, none, (.op (.ld1 (.t 26)))⟩,
    ⟨some 28, none, (.call 9 119 [(.t 22), (.t 27)])⟩,
    ⟨some 29, none, (.call 10 118 [(.t 28), (.c (.p (.int .i64 1000)))])⟩,
    ⟨some 9, none, (.op (.newz 11 [(.p (.int .i64 0)), (.p (.int .i64 0))]))⟩,
    ⟨none, none, (.op (.st 2 (.t 9) (.t 29)))⟩] [(0, 5), (0, 8), (5, 8), (6, 8), (7, 8)] [])
  (.regd [⟨some 30, none, (.op (.mv (.t 8)))⟩,
    ⟨some 31, none, (.op (.mv (.t 8)))⟩,
    ⟨some 32, none, (.op (.iaa 2 3 (.t 5) (.t 31)))⟩,
    ⟨some 33, none, (.op (.ldn 2 (.t 32)))⟩,
    ⟨some 34, none, (.op (.mv (.t 8)))⟩,
    ⟨some 35, none, (.op (.iaa 1 3 (.t 6) (.t 34)))⟩,
    ⟨some 36, none, (.op (.ld1 (.t 35)))⟩,
    ⟨some 37, none, (.call 12 120 [(.t 36)])⟩,
    ⟨some 38, none, (.call 13 121 [(.t 33), (.t 37)])⟩,
    ⟨some 39, none, (.op (.ldn 2 (.t 9)))⟩,
    ⟨some 40, none, (.call 14 121 [(.t 38), (.t 39)])⟩,
    ⟨some 41, none, (.op (.iaa 2 3 (.t 4) (.t 30)))⟩,
    ⟨none, none, (.op (.st 2 (.t 41) (.t 40)))⟩] [(3, 6), (3, 7), (3, 9), (6, 9), (7, 9), (8, 9)] []))))
  (.reg [⟨some 42, none, (.op (.bin .add (.t 19) (.c (.p (.int .i64 1)))))⟩,
    ⟨some 19, none, (.op (.mv (.t 42)))⟩])))))))
  (.seq (.reg [⟨some 43, none, (.op (.ldn 6 (.t 4)))⟩,
    ⟨none, none, (.op (.st 6 (.t 4) (.t 43)))⟩])
  .ret))))⟩
def A_counts_rules_net : Nat → Ty := tyAt [.un, .un, .un, .un, .un, .un, .un, .un, .un, .un, .un, .un, .un, .un, .un]
abbrev P_counts_rules_net : List PSh := [.agg (.pr (.int .i64) (.pr (.int .i64) (.pr (.pr (.int .i64) (.pr (.int .i64) (.int .i64))) (.pr (.pr (.int .i64) (.pr (.int .i64) (.int .i64))) (.pr (.int .i64) (.pr (.int .i64) (.pr (.pr (.int .i64) (.pr (.int .i64) (.int .i64))) (.pr (.pr (.pr (.int .i64) (.pr (.int .i64) (.int .i64))) (.pr (.pr (.int .i64) (.pr (.int .i64) (.int .i64))) (.pr (.int .i64) (.pr (.int .i64) (.int .i64))))) (.sl (.pr (.int .i64) (.int .i64))))))))))), .agg (.pr (.pr (.int .i64) (.pr (.int .i64) (.int .i64))) (.pr (.int .i64) (.pr (.int .i64) (.pr (.int .i64) (.int .i64)))))]
abbrev R_counts_rules_net : List PSh := [.agg (.pr (.pr (.int .i64) (.int .i64)) (.pr (.pr (.int .i64) (.int .i64)) (.pr (.int .i64) (.int .i64))))]
theorem e_counts_rules_net : cFn Try.prog 95 = some F_counts_rules_net.erase := by kernel_rfl
theorem k_counts_rules_net : callable Try.prog 95 = true := by kernel_rfl
/-- (cloverleaf/counts.rules).inverse -/
def F_counts_rules_inverse : TFn := ⟨44, 6, [.celln 2 10],
  (.seq (.reg [⟨some 1, none, (.op (.box 0 (.t 0)))⟩,
    ⟨some 2, none, (.op (.newz 1 [(.p (.int .i64 0)), (.p (.int .i64 0)), (.p (.int .i64 0)), (.p (.int .i64 0)), (.p (.int .i64 0)), (.p (.int .i64 0)), (.p (.int .i64 0)), (.p (.int .i64 0)), (.p (.int .i64 0)), (.p (.int .i64 0))]))⟩])
  (.seq (.reg [⟨some 3, none, (.op (.newz 2 [(.p (.int .i64 0)), (.p (.int .i64 0)), (.p (.int .i64 0)), (.p (.int .i64 0)), (.p (.int .i64 0)), (.p (.int .i64 0)), (.p (.int .i64 0)), (.p (.int .i64 0)), (.p (.int .i64 0)), (.p (.int .i64 0))]))⟩])
  (.seq (.seq (.reg [⟨some 6, none, (.op (.mv (.c (.p (.int .i64 0)))))⟩])
  (.block 0 (.loop [.v 6 (.int .i64), .c 2 (.pr (.int .i64) (.pr (.int .i64) (.pr (.int .i64) (.pr (.int .i64) (.pr (.int .i64) (.pr (.int .i64) (.pr (.int .i64) (.pr (.int .i64) (.pr (.int .i64) (.int .i64))))))))))] [2] [] (.seq (.reg [⟨some 7, none, (.op (.bin .lss (.t 6) (.c (.p (.int .i64 3)))))⟩])
  (.seq (.cond (.t 7) .skip (.exit 0))
  (.seq (.block 1 (.seq (.reg [⟨some 8, none, (.op (.mv (.t 6)))⟩,
    ⟨some 4, none, (.op (.mv (.t 8)))⟩])
  (.seq (.seq (.reg [⟨some 9, none, (.op (.mv (.c (.p (.int .i64 0)))))⟩])
  (.block 2 (.loop [.v 9 (.int .i64), .c 2 (.pr (.int .i64) (.pr (.int .i64) (.pr (.int .i64) (.pr (.int .i64) (.pr (.int .i64) (.pr (.int .i64) (.pr (.int .i64) (.pr (.int .i64) (.pr (.int .i64) (.int .i64))))))))))] [2] [] (.seq (.reg [⟨some 10, none, (.op (.bin .lss (.t 9) (.c (.p (.int .i64 3)))))⟩])
  (.seq (.cond (.t 10) .skip (.exit 2))
  (.seq (.block 3 (.seq (.reg [⟨some 11, none, (.op (.mv (.t 9)))⟩,
    ⟨some 5, none, (.op (.mv (.t 11)))⟩])
  (.regd [⟨some 12, none, (.op (.mv (.t 4)))⟩,
    ⟨some 13, none, (.op (.mv (.t 5)))⟩,
    ⟨some 14, none, (.op (.fa 0 (.t 1)))⟩,
    ⟨some 15, none, (.op (.fa 13 (.t 14)))⟩,
    ⟨some 16, none, (.op (.ldn 9 (.t 15)))⟩,
    ⟨some 17, none, (.op (.mv (.t 5)))⟩,
    ⟨some 18, none, (.op (.mv (.t 4)))⟩,
    ⟨some 19, none, (.call 3 122 [(.t 16), (.t 17), (.t 18)])⟩,
    ⟨some 20, none, (.op (.bin .mul (.c (.p (.int .i64 1000))) (.t 19)))⟩,
    ⟨some 21, none, (.op (.fa 0 (.t 3)))⟩,
    ⟨some 22, none, (.op (.iaa 3 3 (.t 21) (.t 12)))⟩,
    ⟨some 23, none, (.op (.iaa 1 3 (.t 22) (.t 13)))⟩,
    ⟨none, none, (.op (.st 1 (.t 23) (.t 20)))⟩] [] [])))
  (.reg [⟨some 24, none, (.op (.bin .add (.t 9) (.c (.p (.int .i64 1)))))⟩,
    ⟨some 9, none, (.op (.mv (.t 24)))⟩])))))))
  (.regd [⟨some 25, none, (.op (.fa 9 (.t 3)))⟩,
    ⟨some 26, none, (.op (.ld1 (.t 25)))⟩,
    ⟨some 27, none, (.op (.mv (.t 4)))⟩,
    ⟨some 28, none, (.op (.fa 0 (.t 1)))⟩,
    ⟨some 29, none, (.op (.fa 13 (.t 28)))⟩,
    ⟨some 30, none, (.op (.iaa 3 3 (.t 29) (.c (.p (.int .i64 0)))))⟩,
    ⟨some 31, none, (.op (.iaa 1 3 (.t 30) (.t 27)))⟩,
    ⟨some 32, none, (.op (.ld1 (.t 31)))⟩,
    ⟨some 33, none, (.op (.fa 0 (.t 1)))⟩,
    ⟨some 34, none, (.op (.fa 13 (.t 33)))⟩,
    ⟨some 35, none, (.op (.ldn 9 (.t 34)))⟩,
    ⟨some 36, none, (.op (.mv (.t 4)))⟩,
    ⟨some 37, none, (.call 4 122 [(.t 35), (.c (.p (.int .i64 0))), (.t 36)])⟩,
    ⟨some 38, none, (.op (.bin .mul (.t 32) (.t 37)))⟩,
    ⟨some 39, none, (.op (.bin .add (.t 26) (.t 38)))⟩,
    ⟨some 40, none, (.op (.fa 9 (.t 3)))⟩,
    ⟨none, none, (.op (.st 1 (.t 40) (.t 39)))⟩] [(1, 7), (1, 10), (7, 10), (1, 12), (7, 12)] []))))
  (.reg [⟨some 41, none, (.op (.bin .add (.t 6) (.c (.p (.int .i64 1)))))⟩,
    ⟨some 6, none, (.op (.mv (.t 41)))⟩])))))))
  (.seq (.reg [⟨some 42, none, (.call 5 111 [(.t 3)])⟩])
  (.seq (.reg [⟨some 43, none, (.op (.ldn 10 (.t 3)))⟩,
    ⟨none, none, (.op (.st 10 (.t 2) (.t 43)))⟩])
  .ret)))))⟩
def A_counts_rules_inverse : Nat → Ty := tyAt [.un, .un, .un, .un, .un, .un]
abbrev P_counts_rules_inverse : List PSh := [.agg (.pr (.int .i64) (.pr (.int .i64) (.pr (.pr (.int .i64) (.pr (.int .i64) (.int .i64))) (.pr (.pr (.int .i64) (.pr (.int .i64) (.int .i64))) (.pr (.int .i64) (.pr (.int .i64) (.pr (.pr (.int .i64) (.pr (.int .i64) (.int .i64))) (.pr (.pr (.pr (.int .i64) (.pr (.int .i64) (.int .i64))) (.pr (.pr (.int .i64) (.pr (.int .i64) (.int .i64))) (.pr (.int .i64) (.pr (.int .i64) (.int .i64))))) (.sl (.pr (.int .i64) (.int .i64)))))))))))]
abbrev R_counts_rules_inverse : List PSh := [.agg (.pr (.pr (.pr (.int .i64) (.pr (.int .i64) (.int .i64))) (.pr (.pr (.int .i64) (.pr (.int .i64) (.int .i64))) (.pr (.int .i64) (.pr (.int .i64) (.int .i64))))) (.int .i64))]
theorem e_counts_rules_inverse : cFn Try.prog 96 = some F_counts_rules_inverse.erase := by kernel_rfl
theorem k_counts_rules_inverse : callable Try.prog 96 = true := by kernel_rfl
/-- cloverleaf/counts.product -/
def F_counts_product : TFn := ⟨42, 7, [.celln 6 6],
  (.seq (.reg [⟨some 3, none, (.op (.box 0 (.t 0)))⟩,
    ⟨some 4, none, (.op (.box 1 (.t 1)))⟩,
    ⟨some 6, none, (.op (.newz 2 [(.p (.int .i64 0)), (.p (.int .i64 0)), (.p (.int .i64 0)), (.p (.int .i64 0)), (.p (.int .i64 0)), (.p (.int .i64 0))]))⟩])
  (.seq (.seq (.reg [⟨some 11, none, (.op (.ldn 9 (.t 3)))⟩,
    ⟨some 12, none, (.op (.mv (.c (.p (.int .i64 0)))))⟩])
  (.block 0 (.loop [.v 12 (.int .i64), .c 2 (.pr (.int .i64) (.pr (.int .i64) (.pr (.int .i64) (.pr (.int .i64) (.pr (.int .i64) (.int .i64))))))] [2, 3] [3] (.seq (.reg [⟨some 13, none, (.op (.bin .lss (.t 12) (.c (.p (.int .i64 3)))))⟩])
  (.seq (.cond (.t 13) .skip (.exit 0))
  (.seq (.block 1 (.seq (.reg [⟨some 14, none, (.op (.mv (.t 12)))⟩,
    ⟨some 15, none, (.op (.idx 3 3 true (.t 11) (.t 12)))⟩,
    ⟨some 8, none, (.op (.newz 3 [(.p (.int .i64 0)), (.p (.int .i64 0)), (.p (.int .i64 0))]))⟩,
    ⟨some 7, none, (.op (.mv (.t 14)))⟩,
    ⟨none, none, (.op (.st 3 (.t 8) (.t 15)))⟩])
  (.seq (.seq (.reg [⟨some 16, none, (.op (.ldn 3 (.t 8)))⟩,
    ⟨some 17, none, (.op (.mv (.c (.p (.int .i64 0)))))⟩])
  (.block 2 (.loop [.v 17 (.int .i64), .c 2 (.pr (.int .i64) (.pr (.int .i64) (.pr (.int .i64) (.pr (.int .i64) (.pr (.int .i64) (.int .i64))))))] [2] [] (.seq (.reg [⟨some 18, none, (.op (.bin .lss (.t 17) (.c (.p (.int .i64 3)))))⟩])
  (.seq (.cond (.t 18) .skip (.exit 2))
  (.seq (.block 3 (.seq (.reg [⟨some 19, none, (.op (.mv (.t 17)))⟩,
    ⟨some 20, none, (.op (.idx 1 3 false (.t 16) (.t 17)))⟩,
    ⟨some 9, none, (.op (.mv (.t 19)))⟩,
    ⟨some 10, none, (.op (.mv (.t 20)))⟩])
  (.regd [⟨some 21, none, (.op (.mv (.t 7)))⟩,
    ⟨some 22, none, (.op (.mv (.t 7)))⟩,
    ⟨some 23, none, (.op (.iaa 2 3 (.t 6) (.t 22)))⟩,
    ⟨some 24, none, (.op (.ldn 2 (.t 23)))⟩,
    ⟨some 25, none, (.op (.mv (.t 9)))⟩,
    ⟨some 26, none, (.op (.iaa 2 3 (.t 4) (.t 25)))⟩,
    ⟨some 27, none, (.op (.ldn 2 (.t 26)))⟩,
    ⟨some 28, none, (.op (.mv (.t 10)))⟩,
    ⟨some 29, none, (.call 4 119 [(.t 27), (.t 28)])⟩,
    ⟨some 30, none, (.call 5 123 [(.t 24), (.t 29)])⟩,
    ⟨some 31, none, (.op (.iaa 2 3 (.t 6) (.t 21)))⟩,
    ⟨none, none, (.op (.st 2 (.t 31) (.t 30)))⟩] [(3, 6), (3, 8)] [])))
  (.reg [⟨some 32, none, (.op (.bin .add (.t 17) (.c (.p (.int .i64 1)))))⟩,
    ⟨some 17, none, (.op (.mv (.t 32)))⟩])))))))
  (.reg [⟨some 33, none, (.op (.mv (.t 7)))⟩,
    ⟨some 34, none, (.op (.mv (.t 7)))⟩,
    ⟨some 35, none, (.op (.iaa 2 3 (.t 6) (.t 34)))⟩,
    ⟨some 36, none, (.op (.ldn 2 (.t 35)))⟩,
    ⟨some 37, none, (.op (.mv (.t 2)))⟩,
    ⟨some 38, none, (.call 6 118 [(.t 36), (.t 37)])⟩,
    ⟨some 39, none, (.op (.iaa 2 3 (.t 6) (.t 33)))⟩,
    ⟨none, none, (.op (.st 2 (.t 39) (.t 38)))⟩]))))
  (.reg [⟨some 40, none, (.op (.bin .add (.t 12) (.c (.p (.int .i64 1)))))⟩,
    ⟨some 12, none, (.op (.mv (.t 40)))⟩])))))))
  (.seq (.reg [⟨some 41, none, (.op (.ldn 6 (.t 6)))⟩,
    ⟨none, none, (.op (.st 6 (.t 6) (.t 41)))⟩])
  .ret)))⟩
def A_counts_product : Nat → Ty := tyAt [.un, .un, .un, .un, .un, .un, .un]
abbrev P_counts_product : List PSh := [.agg (.pr (.pr (.int .i64) (.pr (.int .i64) (.int .i64))) (.pr (.pr (.int .i64) (.pr (.int .i64) (.int .i64))) (.pr (.int .i64) (.pr (.int .i64) (.int .i64))))), .agg (.pr (.pr (.int .i64) (.int .i64)) (.pr (.pr (.int .i64) (.int .i64)) (.pr (.int .i64) (.int .i64)))), .one (.int .i64)]
abbrev R_counts_product : List PSh := [.agg (.pr (.pr (.int .i64) (.int .i64)) (.pr (.pr (.int .i64) (.int .i64)) (.pr (.int .i64) (.int .i64))))]
theorem e_counts_product : cFn Try.prog 98 = some F_counts_product.erase := by kernel_rfl
theorem k_counts_product : callable Try.prog 98 = true := by kernel_rfl
/-- (cloverleaf/counts.rules).stripped -/
def F_counts_rules_stripped : TFn := ⟨14, 6, [.celln 4 6],
  (.seq (.reg [⟨some 2, none, (.op (.box 0 (.t 0)))⟩,
    ⟨some 3, none, (.op (.box 1 (.t 1)))⟩,
    ⟨some 4, none, (.op (.newz 2 [(.p (.int .i64 0)), (.p (.int .i64 0)), (.p (.int .i64 0)), (.p (.int .i64 0)), (.p (.int .i64 0)), (.p (.int .i64 0))]))⟩])
  (.seq (.reg [⟨some 6, none, (.op (.ldn 23 (.t 2)))⟩,
    ⟨some 7, none, (.call 3 96 [(.t 6)])⟩,
    ⟨some 5, none, (.op (.newz 4 [(.p (.int .i64 0)), (.p (.int .i64 0)), (.p (.int .i64 0)), (.p (.int .i64 0)), (.p (.int .i64 0)), (.p (.int .i64 0)), (.p (.int .i64 0)), (.p (.int .i64 0)), (.p (.int .i64 0)), (.p (.int .i64 0))]))⟩,
    ⟨none, none, (.op (.st 10 (.t 5) (.t 7)))⟩])
  (.seq (.reg [⟨some 8, none, (.op (.fa 0 (.t 5)))⟩,
    ⟨some 9, none, (.op (.ldn 9 (.t 8)))⟩,
    ⟨some 10, none, (.op (.ldn 6 (.t 3)))⟩,
    ⟨some 11, none, (.op (.fa 9 (.t 5)))⟩,
    ⟨some 12, none, (.op (.ld1 (.t 11)))⟩,
    ⟨some 13, none, (.call 5 98 [(.t 9), (.t 10), (.t 12)])⟩,
    ⟨none, none, (.op (.st 6 (.t 4) (.t 13)))⟩])
  .ret)))⟩
def A_counts_rules_stripped : Nat → Ty := tyAt [.un, .un, .un, .un, .un, .un]
abbrev P_counts_rules_stripped : List PSh := [.agg (.pr (.int .i64) (.pr (.int .i64) (.pr (.pr (.int .i64) (.pr (.int .i64) (.int .i64))) (.pr (.pr (.int .i64) (.pr (.int .i64) (.int .i64))) (.pr (.int .i64) (.pr (.int .i64) (.pr (.pr (.int .i64) (.pr (.int .i64) (.int .i64))) (.pr (.pr (.pr (.int .i64) (.pr (.int .i64) (.int .i64))) (.pr (.pr (.int .i64) (.pr (.int .i64) (.int .i64))) (.pr (.int .i64) (.pr (.int .i64) (.int .i64))))) (.sl (.pr (.int .i64) (.int .i64))))))))))), .agg (.pr (.pr (.int .i64) (.int .i64)) (.pr (.pr (.int .i64) (.int .i64)) (.pr (.int .i64) (.int .i64))))]
abbrev R_counts_rules_stripped : List PSh := [.agg (.pr (.pr (.int .i64) (.int .i64)) (.pr (.pr (.int .i64) (.int .i64)) (.pr (.int .i64) (.int .i64))))]
theorem e_counts_rules_stripped : cFn Try.prog 99 = some F_counts_rules_stripped.erase := by kernel_rfl
theorem k_counts_rules_stripped : callable Try.prog 99 = true := by kernel_rfl
/-- cloverleaf/counts.total -/
def F_counts_total : TFn := ⟨17, 0, [.tmp 2],
  (.seq (.reg [⟨some 2, none, (.op (.mv (.c (.p (.int .i64 0)))))⟩])
  (.seq (.reg [⟨some 3, none, (.op (.mv (.c (.p (.int .i64 0)))))⟩])
  (.seq (.seq (.reg [⟨some 6, none, (.op (.mv (.t 0)))⟩,
    ⟨some 7, none, (.op (.len false (.t 6)))⟩,
    ⟨some 8, none, (.op (.mv (.c (.p (.int .i64 0)))))⟩])
  (.block 0 (.loop [.v 8 (.int .i64), .v 3 (.int .i64)] [] [] (.seq (.reg [⟨some 9, none, (.op (.bin .lss (.t 8) (.t 7)))⟩])
  (.seq (.cond (.t 9) .skip (.exit 0))
  (.seq (.block 1 (.seq (.reg [⟨some 10, none, (.op (.ia 1 (.t 6) (.t 8)))⟩,
    ⟨some 11, none, (.op (.ld1 (.t 10)))⟩,
    ⟨some 5, none, (.op (.mv (.t 11)))⟩])
  (.reg [⟨some 12, none, (.op (.mv (.t 3)))⟩,
    ⟨some 13, none, (.op (.mv (.t 5)))⟩,
    ⟨some 14, none, (.op (.bin .add (.t 12) (.t 13)))⟩,
    ⟨some 3, none, (.op (.mv (.t 14)))⟩])))
  (.reg [⟨some 15, none, (.op (.bin .add (.t 8) (.c (.p (.int .i64 1)))))⟩,
    ⟨some 8, none, (.op (.mv (.t 15)))⟩])))))))
  (.seq (.reg [⟨some 16, none, (.op (.mv (.t 3)))⟩,
    ⟨some 2, none, (.op (.mv (.t 16)))⟩])
  .ret))))⟩
def A_counts_total : Nat → Ty := tyAt []
abbrev P_counts_total : List PSh := [.one (.sl (.int .i64))]
abbrev R_counts_total : List PSh := [.one (.int .i64)]
theorem e_counts_total : cFn Try.prog 100 = some F_counts_total.erase := by kernel_rfl
theorem k_counts_total : callable Try.prog 100 = true := by kernel_rfl
/-- cloverleaf/counts.spectrumErr -/
def F_counts_spectrumErr : TFn := ⟨11, 1, [.tmp 2],
  (.seq (.reg [⟨some 2, none, (.op (.mv (.c (.p (.int .i64 0)))))⟩])
  (.seq (.reg [⟨some 6, none, (.op (.mv (.t 0)))⟩,
    ⟨some 7, none, (.call 0 54 [(.t 6)])⟩,
    ⟨some 5, none, (.op (.mv (.t 7)))⟩,
    ⟨some 8, none, (.op (.ext 0 (.t 5)))⟩,
    ⟨some 9, none, (.op (.ext 1 (.t 5)))⟩,
    ⟨some 3, none, (.op (.mv (.t 8)))⟩,
    ⟨some 4, none, (.op (.mv (.t 9)))⟩])
  (.seq (.reg [⟨some 10, none, (.op (.mv (.t 4)))⟩,
    ⟨some 2, none, (.op (.mv (.t 10)))⟩])
  .ret)))⟩
def A_counts_spectrumErr : Nat → Ty := tyAt [.un]
abbrev P_counts_spectrumErr : List PSh := [.one (.sl (.int .i64))]
abbrev R_counts_spectrumErr : List PSh := [.one (.int .i64)]
theorem e_counts_spectrumErr : cFn Try.prog 101 = some F_counts_spectrumErr.erase := by kernel_rfl
theorem k_counts_spectrumErr : callable Try.prog 101 = true := by kernel_rfl
/-- cloverleaf/counts.reduced -/
def F_counts_reduced : TFn := ⟨61, 2, [.tmp 2],
  (.seq (.reg [⟨some 2, none, (.op (.mv (.c (.p (.int .i64 0)))))⟩])
  (.seq (.reg [⟨some 10, none, (.op (.mv (.t 0)))⟩,
    ⟨some 11, none, (.op (.chk (.t 10)))⟩,
    ⟨some 12, none, (.op (.fa 9 (.t 11)))⟩,
    ⟨some 13, none, (.op (.ld1 (.t 12)))⟩,
    ⟨some 3, none, (.op (.mv (.t 13)))⟩])
  (.seq (.seq (.reg [⟨some 14, none, (.op (.mv (.t 0)))⟩,
    ⟨some 15, none, (.op (.chk (.t 14)))⟩,
    ⟨some 16, none, (.op (.fa 0 (.t 15)))⟩,
    ⟨some 17, none, (.op (.ldn 9 (.t 16)))⟩,
    ⟨some 18, none, (.op (.mv (.c (.p (.int .i64 0)))))⟩])
  (.block 0 (.loop [.v 3 (.int .i64), .v 18 (.int .i64)] [1] [1] (.seq (.reg [⟨some 19, none, (.op (.bin .lss (.t 18) (.c (.p (.int .i64 3)))))⟩])
  (.seq (.cond (.t 19) .skip (.exit 0))
  (.seq (.block 1 (.seq (.reg [⟨some 20, none, (.op (.idx 3 3 true (.t 17) (.t 18)))⟩,
    ⟨some 5, none, (.op (.newz 1 [(.p (.int .i64 0)), (.p (.int .i64 0)), (.p (.int .i64 0))]))⟩,
    ⟨none, none, (.op (.st 3 (.t 5) (.t 20)))⟩])
  (.seq (.reg [⟨some 21, none, (.op (.ldn 3 (.t 5)))⟩,
    ⟨some 22, none, (.op (.mv (.c (.p (.int .i64 0)))))⟩])
  (.block 2 (.loop [.v 22 (.int .i64), .v 3 (.int .i64)] [] [] (.seq (.reg [⟨some 23, none, (.op (.bin .lss (.t 22) (.c (.p (.int .i64 3)))))⟩])
  (.seq (.cond (.t 23) .skip (.exit 2))
  (.seq (.block 3 (.seq (.reg [⟨some 24, none, (.op (.idx 1 3 false (.t 21) (.t 22)))⟩,
    ⟨some 7, none, (.op (.mv (.t 24)))⟩])
  (.reg [⟨some 25, none, (.op (.mv (.t 3)))⟩,
    ⟨some 26, none, (.op (.mv (.t 7)))⟩,
    ⟨some 27, none, (.call 2 85 [(.t 25), (.t 26)])⟩,
    ⟨some 3, none, (.op (.mv (.t 27)))⟩])))
  (.reg [⟨some 28, none, (.op (.bin .add (.t 22) (.c (.p (.int .i64 1)))))⟩,
    ⟨some 22, none, (.op (.mv (.t 28)))⟩])))))))))
  (.reg [⟨some 29, none, (.op (.bin .add (.t 18) (.c (.p (.int .i64 1)))))⟩,
    ⟨some 18, none, (.op (.mv (.t 29)))⟩])))))))
  (.seq (.reg [⟨some 30, none, (.op (.mv (.t 0)))⟩,
    ⟨some 31, none, (.op (.chk (.t 30)))⟩,
    ⟨some 32, none, (.op (.fa 9 (.t 31)))⟩,
    ⟨some 33, none, (.op (.ld1 (.t 32)))⟩,
    ⟨some 34, none, (.op (.mv (.t 3)))⟩,
    ⟨some 35, none, (.op (.bin .quo (.t 33) (.t 34)))⟩,
    ⟨some 36, none, (.op (.chk (.t 30)))⟩,
    ⟨some 37, none, (.op (.fa 9 (.t 36)))⟩,
    ⟨none, none, (.op (.st 1 (.t 37) (.t 35)))⟩])
  (.seq (.seq (.reg [⟨some 38, none, (.op (.mv (.c (.p (.int .i64 0)))))⟩])
  (.block 4 (.loop [.v 38 (.int .i64), .c 0 (.pr (.int .i64) (.pr (.int .i64) (.pr (.int .i64) (.pr (.int .i64) (.pr (.int .i64) (.pr (.int .i64) (.pr (.int .i64) (.pr (.int .i64) (.pr (.int .i64) (.int .i64))))))))))] [0] [] (.seq (.reg [⟨some 39, none, (.op (.bin .lss (.t 38) (.c (.p (.int .i64 3)))))⟩])
  (.seq (.cond (.t 39) .skip (.exit 4))
  (.seq (.block 5 (.seq (.reg [⟨some 40, none, (.op (.mv (.t 38)))⟩,
    ⟨some 8, none, (.op (.mv (.t 40)))⟩])
  (.seq (.reg [⟨some 41, none, (.op (.mv (.c (.p (.int .i64 0)))))⟩])
  (.block 6 (.loop [.v 41 (.int .i64), .c 0 (.pr (.int .i64) (.pr (.int .i64) (.pr (.int .i64) (.pr (.int .i64) (.pr (.int .i64) (.pr (.int .i64) (.pr (.int .i64) (.pr (.int .i64) (.pr (.int .i64) (.int .i64))))))))))] [0] [] (.seq (.reg [⟨some 42, none, (.op (.bin .lss (.t 41) (.c (.p (.int .i64 3)))))⟩])
  (.seq (.cond (.t 42) .skip (.exit 6))
  (.seq (.block 7 (.seq (.reg [⟨some 43, none, (.op (.mv (.t 41)))⟩,
    ⟨some 9, none, (.op (.mv (.t 43)))⟩])
  (.regd [⟨some 44, none, (.op (.mv (.t 0)))⟩,
    ⟨some 45, none, (.op (.mv (.t 8)))⟩,
    ⟨some 46, none, (.op (.mv (.t 9)))⟩,
    ⟨some 47, none, (.op (.chk (.t 44)))⟩,
    ⟨some 48, none, (.op (.fa 0 (.t 47)))⟩,
    ⟨some 49, none, (.op (.iaa 3 3 (.t 48) (.t 45)))⟩,
    ⟨some 50, none, (.op (.iaa 1 3 (.t 49) (.t 46)))⟩,
    ⟨some 51, none, (.op (.ld1 (.t 50)))⟩,
    ⟨some 52, none, (.op (.mv (.t 3)))⟩,
    ⟨some 53, none, (.op (.bin .quo (.t 51) (.t 52)))⟩,
    ⟨some 54, none, (.op (.chk (.t 44)))⟩,
    ⟨some 55, none, (.op (.fa 0 (.t 54)))⟩,
    ⟨some 56, none, (.op (.iaa 3 3 (.t 55) (.t 45)))⟩,
    ⟨some 57, none, (.op (.iaa 1 3 (.t 56) (.t 46)))⟩,
    ⟨none, none, (.op (.st 1 (.t 57) (.t 53)))⟩] [] [])))
  (.reg [⟨some 58, none, (.op (.bin .add (.t 41) (.c (.p (.int .i64 1)))))⟩,
    ⟨some 41, none, (.op (.mv (.t 58)))⟩])))))))))
  (.reg [⟨some 59, none, (.op (.bin .add (.t 38) (.c (.p (.int .i64 1)))))⟩,
    ⟨some 38, none, (.op (.mv (.t 59)))⟩])))))))
  (.seq (.reg [⟨some 60, none, (.op (.mv (.t 3)))⟩,
    ⟨some 2, none, (.op (.mv (.t 60)))⟩])
  .ret))))))⟩
def A_counts_reduced : Nat → Ty := tyAt [.un, .un, .un]
abbrev T_counts_reduced : Ty := (.pr (.pr (.pr (.int .i64) (.pr (.int .i64) (.int .i64))) (.pr (.pr (.int .i64) (.pr (.int .i64) (.int .i64))) (.pr (.int .i64) (.pr (.int .i64) (.int .i64))))) (.int .i64))
abbrev V_counts_reduced : Ty := (.int .i64)
abbrev P_counts_reduced : List PSh := [.ptr T_counts_reduced]
abbrev R_counts_reduced : List PSh := [.one V_counts_reduced, .agg T_counts_reduced]
theorem e_counts_reduced : cFnM Try.prog 111 = some F_counts_reduced.erase := by kernel_rfl
theorem k_counts_reduced : callable Try.prog 111 = true := by kernel_rfl
/-- cloverleaf/counts.ceil -/
def F_counts_ceil : TFn := ⟨10, 1, [.tmp 4],
  (.seq (.reg [⟨some 4, none, (.op (.mv (.c (.p (.int .i64 0)))))⟩])
  (.seq (.reg [⟨some 5, none, (.op (.mv (.t 0)))⟩,
    ⟨some 6, none, (.op (.uneg (.t 5)))⟩,
    ⟨some 7, none, (.op (.mv (.t 1)))⟩,
    ⟨some 8, none, (.call 0 125 [(.t 6), (.t 7)])⟩,
    ⟨some 9, none, (.op (.uneg (.t 8)))⟩,
    ⟨some 4, none, (.op (.mv (.t 9)))⟩])
  .ret))⟩
def A_counts_ceil : Nat → Ty := tyAt [.un]
abbrev P_counts_ceil : List PSh := [.one (.int .i64), .one (.int .i64)]
abbrev R_counts_ceil : List PSh := [.one (.int .i64)]
theorem e_counts_ceil : cFn Try.prog 112 = some F_counts_ceil.erase := by kernel_rfl
theorem k_counts_ceil : callable Try.prog 112 = true := by kernel_rfl
/-- cloverleaf/cloverleafref06.divisor -/
def F_ref06_divisor : TFn := ⟨25, 2, [.tmp 2],
  (.seq (.reg [⟨some 1, none, (.op (.box 0 (.t 0)))⟩,
    ⟨some 2, none, (.op (.mv (.c (.p (.int .i64 0)))))⟩])
  (.seq (.reg [⟨some 6, none, (.op (.fa 9 (.t 1)))⟩,
    ⟨some 7, none, (.op (.ld1 (.t 6)))⟩,
    ⟨some 3, none, (.op (.mv (.t 7)))⟩])
  (.seq (.seq (.reg [⟨some 4, none, (.op (.mv (.c (.p (.int .i64 0)))))⟩])
  (.block 0 (.loop [.v 4 (.int .i64), .v 3 (.int .i64)] [] [] (.seq (.seq (.reg [⟨some 8, none, (.op (.mv (.t 4)))⟩,
    ⟨some 9, none, (.op (.bin .lss (.t 8) (.c (.p (.int .i64 3)))))⟩])
  (.cond (.t 9) .skip (.exit 0)))
  (.seq (.block 1 (.seq (.reg [⟨some 5, none, (.op (.mv (.c (.p (.int .i64 0)))))⟩])
  (.block 2 (.loop [.v 5 (.int .i64), .v 3 (.int .i64)] [] [] (.seq (.seq (.reg [⟨some 12, none, (.op (.mv (.t 5)))⟩,
    ⟨some 13, none, (.op (.bin .lss (.t 12) (.c (.p (.int .i64 3)))))⟩])
  (.cond (.t 13) .skip (.exit 2)))
  (.seq (.block 3 (.reg [⟨some 16, none, (.op (.mv (.t 3)))⟩,
    ⟨some 17, none, (.op (.mv (.t 4)))⟩,
    ⟨some 18, none, (.op (.mv (.t 5)))⟩,
    ⟨some 19, none, (.op (.fa 0 (.t 1)))⟩,
    ⟨some 20, none, (.op (.iaa 3 3 (.t 19) (.t 17)))⟩,
    ⟨some 21, none, (.op (.iaa 1 3 (.t 20) (.t 18)))⟩,
    ⟨some 22, none, (.op (.ld1 (.t 21)))⟩,
    ⟨some 23, none, (.call 1 117 [(.t 16), (.t 22)])⟩,
    ⟨some 3, none, (.op (.mv (.t 23)))⟩]))
  (.reg [⟨some 14, none, (.op (.mv (.t 5)))⟩,
    ⟨some 15, none, (.op (.bin .add (.t 14) (.c (.p (.int .i64 1)))))⟩,
    ⟨some 5, none, (.op (.mv (.t 15)))⟩])))))))
  (.reg [⟨some 10, none, (.op (.mv (.t 4)))⟩,
    ⟨some 11, none, (.op (.bin .add (.t 10) (.c (.p (.int .i64 1)))))⟩,
    ⟨some 4, none, (.op (.mv (.t 11)))⟩]))))))
  (.seq (.reg [⟨some 24, none, (.op (.mv (.t 3)))⟩,
    ⟨some 2, none, (.op (.mv (.t 24)))⟩])
  .ret))))⟩
def A_ref06_divisor : Nat → Ty := tyAt [.un, .un]
abbrev P_ref06_divisor : List PSh := [.agg (.pr (.pr (.pr (.int .i64) (.pr (.int .i64) (.int .i64))) (.pr (.pr (.int .i64) (.pr (.int .i64) (.int .i64))) (.pr (.int .i64) (.pr (.int .i64) (.int .i64))))) (.int .i64))]
abbrev R_ref06_divisor : List PSh := [.one (.int .i64)]
theorem e_ref06_divisor : cFn Try.prog 113 = some F_ref06_divisor.erase := by kernel_rfl
theorem k_ref06_divisor : callable Try.prog 113 = true := by kernel_rfl
/-- cloverleaf/cloverleafbase.Size -/
def F_base_Size : TFn := ⟨7, 0, [.tmp 2],
  (.seq (.reg [⟨some 2, none, (.op (.mv (.c (.p (.int .i64 0)))))⟩])
  (.seq (.reg [⟨some 3, none, (.op (.mv (.t 0)))⟩,
    ⟨some 4, none, (.op (.mv (.t 0)))⟩,
    ⟨some 5, none, (.op (.uneg (.t 4)))⟩,
    ⟨some 6, none, (.op (.mm true (.t 3) (.t 5)))⟩,
    ⟨some 2, none, (.op (.mv (.t 6)))⟩])
  .ret))⟩
def A_base_Size : Nat → Ty := tyAt []
abbrev P_base_Size : List PSh := [.one (.int .i64)]
abbrev R_base_Size : List PSh := [.one (.int .i64)]
theorem e_base_Size : cFn Try.prog 114 = some F_base_Size.erase := by kernel_rfl
theorem k_base_Size : callable Try.prog 114 = true := by kernel_rfl
/-- cloverleaf/cloverleafref06.product -/
def F_ref06_product : TFn := ⟨81, 5, [.celln 6 6],
  (.seq (.reg [⟨some 3, none, (.op (.box 0 (.t 0)))⟩,
    ⟨some 4, none, (.op (.box 1 (.t 1)))⟩,
    ⟨some 6, none, (.op (.newz 2 [(.p (.int .i64 0)), (.p (.int .i64 0)), (.p (.int .i64 0)), (.p (.int .i64 0)), (.p (.int .i64 0)), (.p (.int .i64 0))]))⟩])
  (.seq (.reg [⟨some 7, none, (.op (.newz 3 [(.p (.int .i64 0)), (.p (.int .i64 0)), (.p (.int .i64 0)), (.p (.int .i64 0)), (.p (.int .i64 0)), (.p (.int .i64 0))]))⟩])
  (.seq (.seq (.reg [⟨some 8, none, (.op (.mv (.c (.p (.int .i64 0)))))⟩])
  (.block 0 (.loop [.v 8 (.int .i64), .c 3 (.pr (.int .i64) (.pr (.int .i64) (.pr (.int .i64) (.pr (.int .i64) (.pr (.int .i64) (.int .i64))))))] [3] [] (.seq (.seq (.reg [⟨some 12, none, (.op (.mv (.t 8)))⟩,
    ⟨some 13, none, (.op (.bin .lss (.t 12) (.c (.p (.int .i64 3)))))⟩])
  (.cond (.t 13) .skip (.exit 0)))
  (.seq (.block 1 (.seq (.reg [⟨some 9, none, (.op (.mv (.c (.p (.int .i64 0)))))⟩,
    ⟨some 10, none, (.op (.mv (.c (.p (.int .i64 0)))))⟩])
  (.seq (.seq (.reg [⟨some 11, none, (.op (.mv (.c (.p (.int .i64 0)))))⟩])
  (.block 2 (.loop [.v 11 (.int .i64), .v 10 (.int .i64), .v 9 (.int .i64)] [] [] (.seq (.seq (.reg [⟨some 16, none, (.op (.mv (.t 11)))⟩,
    ⟨some 17, none, (.op (.bin .lss (.t 16) (.c (.p (.int .i64 3)))))⟩])
  (.cond (.t 17) .skip (.exit 2)))
  (.seq (.block 3 (.seq (.reg [⟨some 20, none, (.op (.mv (.t 8)))⟩,
    ⟨some 21, none, (.op (.mv (.t 11)))⟩,
    ⟨some 22, none, (.op (.iaa 3 3 (.t 3) (.t 20)))⟩,
    ⟨some 23, none, (.op (.iaa 1 3 (.t 22) (.t 21)))⟩,
    ⟨some 24, none, (.op (.ld1 (.t 23)))⟩,
    ⟨some 25, none, (.op (.bin .geq (.t 24) (.c (.p (.int .i64 0)))))⟩])
  (.cond (.t 25) (.regd [⟨some 26, none, (.op (.mv (.t 9)))⟩,
    ⟨some 27, none, (.op (.mv (.t 8)))⟩,
    ⟨some 28, none, (.op (.mv (.t 11)))⟩,
    ⟨some 29, none, (.op (.iaa 3 3 (.t 3) (.t 27)))⟩,
    ⟨some 30, none, (.op (.iaa 1 3 (.t 29) (.t 28)))⟩,
    ⟨some 31, none, (.op (.ld1 (.t 30)))⟩,
    ⟨some 32, none, (.op (.mv (.t 11)))⟩,
    ⟨some 33, none, (.op (.iaa 2 3 (.t 4) (.t 32)))⟩,
    ⟨some 34, none, (.op (.fa 0 (.t 33)))⟩,
    ⟨some 35, none, (.op (.ld1 (.t 34)))⟩,
    ⟨some 36, none, (.op (.bin .mul (.t 31) (.t 35)))⟩,
    ⟨some 37, none, (.op (.bin .add (.t 26) (.t 36)))⟩,
    ⟨some 38, none, (.op (.mv (.t 10)))⟩,
    ⟨some 39, none, (.op (.mv (.t 8)))⟩,
    ⟨some 40, none, (.op (.mv (.t 11)))⟩,
    ⟨some 41, none, (.op (.iaa 3 3 (.t 3) (.t 39)))⟩,
    ⟨some 42, none, (.op (.iaa 1 3 (.t 41) (.t 40)))⟩,
    ⟨some 43, none, (.op (.ld1 (.t 42)))⟩,
    ⟨some 44, none, (.op (.mv (.t 11)))⟩,
    ⟨some 45, none, (.op (.iaa 2 3 (.t 4) (.t 44)))⟩,
    ⟨some 46, none, (.op (.fa 1 (.t 45)))⟩,
    ⟨some 47, none, (.op (.ld1 (.t 46)))⟩,
    ⟨some 48, none, (.op (.bin .mul (.t 43) (.t 47)))⟩,
    ⟨some 49, none, (.op (.bin .add (.t 38) (.t 48)))⟩,
    ⟨some 9, none, (.op (.mv (.t 37)))⟩,
    ⟨some 10, none, (.op (.mv (.t 49)))⟩] [(5, 9), (5, 17), (9, 17), (5, 21), (9, 21), (17, 21)] []) (.regd [⟨some 50, none, (.op (.mv (.t 9)))⟩,
    ⟨some 51, none, (.op (.mv (.t 8)))⟩,
    ⟨some 52, none, (.op (.mv (.t 11)))⟩,
    ⟨some 53, none, (.op (.iaa 3 3 (.t 3) (.t 51)))⟩,
    ⟨some 54, none, (.op (.iaa 1 3 (.t 53) (.t 52)))⟩,
    ⟨some 55, none, (.op (.ld1 (.t 54)))⟩,
    ⟨some 56, none, (.op (.mv (.t 11)))⟩,
    ⟨some 57, none, (.op (.iaa 2 3 (.t 4) (.t 56)))⟩,
    ⟨some 58, none, (.op (.fa 1 (.t 57)))⟩,
    ⟨some 59, none, (.op (.ld1 (.t 58)))⟩,
    ⟨some 60, none, (.op (.bin .mul (.t 55) (.t 59)))⟩,
    ⟨some 61, none, (.op (.bin .add (.t 50) (.t 60)))⟩,
    ⟨some 62, none, (.op (.mv (.t 10)))⟩,
    ⟨some 63, none, (.op (.mv (.t 8)))⟩,
    ⟨some 64, none, (.op (.mv (.t 11)))⟩,
    ⟨some 65, none, (.op (.iaa 3 3 (.t 3) (.t 63)))⟩,
    ⟨some 66, none, (.op (.iaa 1 3 (.t 65) (.t 64)))⟩,
    ⟨some 67, none, (.op (.ld1 (.t 66)))⟩,
    ⟨some 68, none, (.op (.mv (.t 11)))⟩,
    ⟨some 69, none, (.op (.iaa 2 3 (.t 4) (.t 68)))⟩,
    ⟨some 70, none, (.op (.fa 0 (.t 69)))⟩,
    ⟨some 71, none, (.op (.ld1 (.t 70)))⟩,
    ⟨some 72, none, (.op (.bin .mul (.t 67) (.t 71)))⟩,
    ⟨some 73, none, (.op (.bin .add (.t 62) (.t 72)))⟩,
    ⟨some 9, none, (.op (.mv (.t 61)))⟩,
    ⟨some 10, none, (.op (.mv (.t 73)))⟩] [(5, 9), (5, 17), (9, 17), (5, 21), (9, 21), (17, 21)] []))))
  (.reg [⟨some 18, none, (.op (.mv (.t 11)))⟩,
    ⟨some 19, none, (.op (.bin .add (.t 18) (.c (.p (.int .i64 1)))))⟩,
    ⟨some 11, none, (.op (.mv (.t 19)))⟩]))))))
  (.reg [⟨some 74, none, (.op (.mv (.t 8)))⟩,
    ⟨some 75, none, (.op (.mv (.t 9)))⟩,
    ⟨some 76, none, (.op (.mv (.t 10)))⟩,
    ⟨some 77, none, (.op (.mv (.t 2)))⟩,
    ⟨some 78, none, (.call 4 91 [(.t 75), (.t 76), (.t 77)])⟩,
    ⟨some 79, none, (.op (.iaa 2 3 (.t 7) (.t 74)))⟩,
    ⟨none, none, (.op (.st 2 (.t 79) (.t 78)))⟩]))))
  (.reg [⟨some 14, none, (.op (.mv (.t 8)))⟩,
    ⟨some 15, none, (.op (.bin .add (.t 14) (.c (.p (.int .i64 1)))))⟩,
    ⟨some 8, none, (.op (.mv (.t 15)))⟩]))))))
  (.seq (.reg [⟨some 80, none, (.op (.ldn 6 (.t 7)))⟩,
    ⟨none, none, (.op (.st 6 (.t 6) (.t 80)))⟩])
  .ret))))⟩
def A_ref06_product : Nat → Ty := tyAt [.un, .un, .un, .un, .un]
abbrev P_ref06_product : List PSh := [.agg (.pr (.pr (.int .i64) (.pr (.int .i64) (.int .i64))) (.pr (.pr (.int .i64) (.pr (.int .i64) (.int .i64))) (.pr (.int .i64) (.pr (.int .i64) (.int .i64))))), .agg (.pr (.pr (.int .i64) (.int .i64)) (.pr (.pr (.int .i64) (.int .i64)) (.pr (.int .i64) (.int .i64)))), .one (.int .i64)]
abbrev R_ref06_product : List PSh := [.agg (.pr (.pr (.int .i64) (.int .i64)) (.pr (.pr (.int .i64) (.int .i64)) (.pr (.int .i64) (.int .i64))))]
theorem e_ref06_product : cFn Try.prog 115 = some F_ref06_product.erase := by kernel_rfl
theorem k_ref06_product : callable Try.prog 115 = true := by kernel_rfl
/-- slices.IndexFunc[[]int,int] -/
def F_slices_IndexFuncint_int__counts_allWithin_1 : TFn := ⟨19, 1, [.tmp 4],
  (.seq (.reg [⟨some 4, none, (.op (.mv (.c (.p (.int .i64 0)))))⟩])
  (.seq (.seq (.reg [⟨some 6, none, (.op (.mv (.t 0)))⟩,
    ⟨some 7, none, (.op (.len false (.t 6)))⟩,
    ⟨some 8, none, (.op (.mv (.c (.p (.int .i64 0)))))⟩])
  (.block 0 (.loop [.v 8 (.int .i64)] [] [] (.seq (.reg [⟨some 9, none, (.op (.bin .lss (.t 8) (.t 7)))⟩])
  (.seq (.cond (.t 9) .skip (.exit 0))
  (.seq (.block 1 (.seq (.reg [⟨some 10, none, (.op (.mv (.t 8)))⟩,
    ⟨some 5, none, (.op (.mv (.t 10)))⟩])
  (.seq (.reg [⟨some 11, none, (.op (.mv (.t 1)))⟩,
    ⟨some 12, none, (.op (.mv (.t 0)))⟩,
    ⟨some 13, none, (.op (.mv (.t 5)))⟩,
    ⟨some 14, none, (.op (.ia 1 (.t 12) (.t 13)))⟩,
    ⟨some 15, none, (.op (.ld1 (.t 14)))⟩,
    ⟨some 16, none, (.callv 0 (.t 11) [(.t 15)])⟩])
  (.cond (.t 16) (.seq (.reg [⟨some 17, none, (.op (.mv (.t 5)))⟩,
    ⟨some 4, none, (.op (.mv (.t 17)))⟩])
  .ret) .skip))))
  (.reg [⟨some 18, none, (.op (.bin .add (.t 8) (.c (.p (.int .i64 1)))))⟩,
    ⟨some 8, none, (.op (.mv (.t 18)))⟩])))))))
  (.seq (.reg [⟨some 4, none, (.op (.mv (.c (.p (.int .i64 (-1))))))⟩])
  .ret)))⟩
def A_slices_IndexFuncint_int__counts_allWithin_1 : Nat → Ty := tyAt [.un]
abbrev P_slices_IndexFuncint_int__counts_allWithin_1 : List PSh := [.one (.sl (.int .i64)), .fn 116 [(.int .i64)]]
abbrev R_slices_IndexFuncint_int__counts_allWithin_1 : List PSh := [.one (.int .i64)]
theorem e_slices_IndexFuncint_int__counts_allWithin_1 : cFn Try.prog 102 = some F_slices_IndexFuncint_int__counts_allWithin_1.erase := by kernel_rfl
theorem k_slices_IndexFuncint_int__counts_allWithin_1 : callable Try.prog 102 = true := by kernel_rfl
/-- cloverleaf/counts.isValue -/
def F_counts_isValue : TFn := ⟨5, 1, [.tmp 2],
  (.seq (.reg [⟨some 2, none, (.op (.mv (.c (.p (.bool false)))))⟩])
  (.seq (.reg [⟨some 3, none, (.op (.mv (.t 0)))⟩,
    ⟨some 4, none, (.call 0 74 [(.t 3), (.c (.p (.int .i64 (-1000000000)))), (.c (.p (.int .i64 1000000000)))])⟩,
    ⟨some 2, none, (.op (.mv (.t 4)))⟩])
  .ret))⟩
def A_counts_isValue : Nat → Ty := tyAt [.un]
abbrev P_counts_isValue : List PSh := [.one (.int .i64)]
abbrev R_counts_isValue : List PSh := [.one .bool]
theorem e_counts_isValue : cFn Try.prog 110 = some F_counts_isValue.erase := by kernel_rfl
theorem k_counts_isValue : callable Try.prog 110 = true := by kernel_rfl
/-- cloverleaf/cloverleafbase.Gcd -/
def F_base_Gcd : TFn := ⟨13, 1, [.tmp 4],
  (.seq (.reg [⟨some 4, none, (.op (.mv (.c (.p (.int .i64 0)))))⟩])
  (.seq (.block 0 (.loop [.v 1 (.int .i64), .v 0 (.int .i64)] [] [] (.seq (.seq (.reg [⟨some 5, none, (.op (.mv (.t 1)))⟩,
    ⟨some 6, none, (.op (.bin .neq (.t 5) (.c (.p (.int .i64 0)))))⟩])
  (.cond (.t 6) .skip (.exit 0)))
  (.block 1 (.regd [⟨some 7, none, (.op (.mv (.t 1)))⟩,
    ⟨some 8, none, (.op (.mv (.t 0)))⟩,
    ⟨some 9, none, (.op (.mv (.t 1)))⟩,
    ⟨some 10, none, (.op (.bin .rem (.t 8) (.t 9)))⟩,
    ⟨some 0, none, (.op (.mv (.t 7)))⟩,
    ⟨some 1, none, (.op (.mv (.t 10)))⟩] [] [])))))
  (.seq (.reg [⟨some 11, none, (.op (.mv (.t 0)))⟩,
    ⟨some 12, none, (.call 0 114 [(.t 11)])⟩,
    ⟨some 4, none, (.op (.mv (.t 12)))⟩])
  .ret)))⟩
def A_base_Gcd : Nat → Ty := tyAt [.un]
abbrev P_base_Gcd : List PSh := [.one (.int .i64), .one (.int .i64)]
abbrev R_base_Gcd : List PSh := [.one (.int .i64)]
theorem e_base_Gcd : cFn Try.prog 117 = some F_base_Gcd.erase := by kernel_rfl
theorem k_base_Gcd : callable Try.prog 117 = true := by kernel_rfl
/-- cloverleaf/counts.isRaw -/
def F_counts_isRaw : TFn := ⟨5, 1, [.tmp 2],
  (.seq (.reg [⟨some 2, none, (.op (.mv (.c (.p (.bool false)))))⟩])
  (.seq (.reg [⟨some 3, none, (.op (.mv (.t 0)))⟩,
    ⟨some 4, none, (.call 0 74 [(.t 3), (.c (.p (.int .i64 0))), (.c (.p (.int .i64 100000)))])⟩,
    ⟨some 2, none, (.op (.mv (.t 4)))⟩])
  .ret))⟩
def A_counts_isRaw : Nat → Ty := tyAt [.un]
abbrev P_counts_isRaw : List PSh := [.one (.int .i64)]
abbrev R_counts_isRaw : List PSh := [.one .bool]
theorem e_counts_isRaw : cFn Try.prog 104 = some F_counts_isRaw.erase := by kernel_rfl
theorem k_counts_isRaw : callable Try.prog 104 = true := by kernel_rfl
/-- cloverleaf/counts.times -/
def F_counts_times : TFn := ⟨22, 2, [.celln 4 2],
  (.seq (.reg [⟨some 2, none, (.op (.box 0 (.t 0)))⟩,
    ⟨some 4, none, (.op (.newz 1 [(.p (.int .i64 0)), (.p (.int .i64 0))]))⟩])
  (.seq (.seq (.reg [⟨some 5, none, (.op (.mv (.t 1)))⟩,
    ⟨some 6, none, (.op (.bin .lss (.t 5) (.c (.p (.int .i64 0)))))⟩])
  (.cond (.t 6) (.reg [⟨some 7, none, (.op (.fa 1 (.t 2)))⟩,
    ⟨some 8, none, (.op (.ld1 (.t 7)))⟩,
    ⟨some 9, none, (.op (.fa 0 (.t 2)))⟩,
    ⟨some 10, none, (.op (.ld1 (.t 9)))⟩,
    ⟨some 11, none, (.op (.fa 0 (.t 2)))⟩,
    ⟨none, none, (.op (.st 1 (.t 11) (.t 8)))⟩,
    ⟨some 12, none, (.op (.fa 1 (.t 2)))⟩,
    ⟨none, none, (.op (.st 1 (.t 12) (.t 10)))⟩]) .skip))
  (.seq (.reg [⟨some 13, none, (.op (.mv (.t 1)))⟩,
    ⟨some 14, none, (.op (.fa 0 (.t 2)))⟩,
    ⟨some 15, none, (.op (.ld1 (.t 14)))⟩,
    ⟨some 16, none, (.op (.bin .mul (.t 13) (.t 15)))⟩,
    ⟨some 17, none, (.op (.mv (.t 1)))⟩,
    ⟨some 18, none, (.op (.fa 1 (.t 2)))⟩,
    ⟨some 19, none, (.op (.ld1 (.t 18)))⟩,
    ⟨some 20, none, (.op (.bin .mul (.t 17) (.t 19)))⟩,
    ⟨some 21, none, (.op (.build [(.p (.int .i64 0)), (.p (.int .i64 0))] [(0, 1, (.t 16)), (1, 1, (.t 20))]))⟩,
    ⟨none, none, (.op (.st 2 (.t 4) (.t 21)))⟩])
  .ret)))⟩
def A_counts_times : Nat → Ty := tyAt [.un, .un]
abbrev P_counts_times : List PSh := [.agg (.pr (.int .i64) (.int .i64)), .one (.int .i64)]
abbrev R_counts_times : List PSh := [.agg (.pr (.int .i64) (.int .i64))]
theorem e_counts_times : cFn Try.prog 119 = some F_counts_times.erase := by kernel_rfl
theorem k_counts_times : callable Try.prog 119 = true := by kernel_rfl
/-- cloverleaf/counts.rounded -/
def F_counts_rounded : TFn := ⟨14, 4, [.celln 4 2],
  (.seq (.reg [⟨some 2, none, (.op (.box 0 (.t 0)))⟩,
    ⟨some 4, none, (.op (.newz 1 [(.p (.int .i64 0)), (.p (.int .i64 0))]))⟩])
  (.seq (.regd [⟨some 5, none, (.op (.fa 0 (.t 2)))⟩,
    ⟨some 6, none, (.op (.ld1 (.t 5)))⟩,
    ⟨some 7, none, (.op (.mv (.t 1)))⟩,
    ⟨some 8, none, (.call 2 125 [(.t 6), (.t 7)])⟩,
    ⟨some 9, none, (.op (.fa 1 (.t 2)))⟩,
    ⟨some 10, none, (.op (.ld1 (.t 9)))⟩,
    ⟨some 11, none, (.op (.mv (.t 1)))⟩,
    ⟨some 12, none, (.call 3 112 [(.t 10), (.t 11)])⟩,
    ⟨some 13, none, (.op (.build [(.p (.int .i64 0)), (.p (.int .i64 0))] [(0, 1, (.t 8)), (1, 1, (.t 12))]))⟩,
    ⟨none, none, (.op (.st 2 (.t 4) (.t 13)))⟩] [(1, 5), (3, 5)] [])
  .ret))⟩
def A_counts_rounded : Nat → Ty := tyAt [.un, .un, .un, .un]
abbrev P_counts_rounded : List PSh := [.agg (.pr (.int .i64) (.int .i64)), .one (.int .i64)]
abbrev R_counts_rounded : List PSh := [.agg (.pr (.int .i64) (.int .i64))]
theorem e_counts_rounded : cFn Try.prog 118 = some F_counts_rounded.erase := by kernel_rfl
theorem k_counts_rounded : callable Try.prog 118 = true := by kernel_rfl
/-- cloverleaf/counts.single -/
def F_counts_single : TFn := ⟨6, 1, [.celln 2 2],
  (.seq (.reg [⟨some 2, none, (.op (.newz 0 [(.p (.int .i64 0)), (.p (.int .i64 0))]))⟩])
  (.seq (.reg [⟨some 3, none, (.op (.mv (.t 0)))⟩,
    ⟨some 4, none, (.op (.mv (.t 0)))⟩,
    ⟨some 5, none, (.op (.build [(.p (.int .i64 0)), (.p (.int .i64 0))] [(0, 1, (.t 3)), (1, 1, (.t 4))]))⟩,
    ⟨none, none, (.op (.st 2 (.t 2) (.t 5)))⟩])
  .ret))⟩
def A_counts_single : Nat → Ty := tyAt [.un]
abbrev P_counts_single : List PSh := [.one (.int .i64)]
abbrev R_counts_single : List PSh := [.agg (.pr (.int .i64) (.int .i64))]
theorem e_counts_single : cFn Try.prog 120 = some F_counts_single.erase := by kernel_rfl
theorem k_counts_single : callable Try.prog 120 = true := by kernel_rfl
/-- cloverleaf/counts.minus -/
def F_counts_minus : TFn := ⟨9, 5, [.celln 4 2],
  (.seq (.reg [⟨some 2, none, (.op (.box 0 (.t 0)))⟩,
    ⟨some 3, none, (.op (.box 1 (.t 1)))⟩,
    ⟨some 4, none, (.op (.newz 2 [(.p (.int .i64 0)), (.p (.int .i64 0))]))⟩])
  (.seq (.regd [⟨some 5, none, (.op (.ldn 2 (.t 2)))⟩,
    ⟨some 6, none, (.op (.ldn 2 (.t 3)))⟩,
    ⟨some 7, none, (.call 3 119 [(.t 6), (.c (.p (.int .i64 (-1))))])⟩,
    ⟨some 8, none, (.call 4 123 [(.t 5), (.t 7)])⟩,
    ⟨none, none, (.op (.st 2 (.t 4) (.t 8)))⟩] [(0, 1), (0, 2)] [])
  .ret))⟩
def A_counts_minus : Nat → Ty := tyAt [.un, .un, .un, .un, .un]
abbrev P_counts_minus : List PSh := [.agg (.pr (.int .i64) (.int .i64)), .agg (.pr (.int .i64) (.int .i64))]
abbrev R_counts_minus : List PSh := [.agg (.pr (.int .i64) (.int .i64))]
theorem e_counts_minus : cFn Try.prog 121 = some F_counts_minus.erase := by kernel_rfl
theorem k_counts_minus : callable Try.prog 121 = true := by kernel_rfl
/-- cloverleaf/counts.minor -/
def F_counts_minor : TFn := ⟨46, 1, [.tmp 6],
  (.seq (.reg [⟨some 3, none, (.op (.box 0 (.t 0)))⟩,
    ⟨some 6, none, (.op (.mv (.c (.p (.int .i64 0)))))⟩])
  (.seq (.reg [⟨some 11, none, (.op (.mv (.t 1)))⟩,
    ⟨some 12, none, (.op (.bin .add (.t 11) (.c (.p (.int .i64 1)))))⟩,
    ⟨some 13, none, (.op (.bin .rem (.t 12) (.c (.p (.int .i64 3)))))⟩,
    ⟨some 14, none, (.op (.mv (.t 1)))⟩,
    ⟨some 15, none, (.op (.bin .add (.t 14) (.c (.p (.int .i64 2)))))⟩,
    ⟨some 16, none, (.op (.bin .rem (.t 15) (.c (.p (.int .i64 3)))))⟩,
    ⟨some 17, none, (.op (.mv (.t 2)))⟩,
    ⟨some 18, none, (.op (.bin .add (.t 17) (.c (.p (.int .i64 1)))))⟩,
    ⟨some 19, none, (.op (.bin .rem (.t 18) (.c (.p (.int .i64 3)))))⟩,
    ⟨some 20, none, (.op (.mv (.t 2)))⟩,
    ⟨some 21, none, (.op (.bin .add (.t 20) (.c (.p (.int .i64 2)))))⟩,
    ⟨some 22, none, (.op (.bin .rem (.t 21) (.c (.p (.int .i64 3)))))⟩,
    ⟨some 7, none, (.op (.mv (.t 13)))⟩,
    ⟨some 8, none, (.op (.mv (.t 16)))⟩,
    ⟨some 9, none, (.op (.mv (.t 19)))⟩,
    ⟨some 10, none, (.op (.mv (.t 22)))⟩])
  (.seq (.regd [⟨some 23, none, (.op (.mv (.t 7)))⟩,
    ⟨some 24, none, (.op (.mv (.t 9)))⟩,
    ⟨some 25, none, (.op (.iaa 3 3 (.t 3) (.t 23)))⟩,
    ⟨some 26, none, (.op (.iaa 1 3 (.t 25) (.t 24)))⟩,
    ⟨some 27, none, (.op (.ld1 (.t 26)))⟩,
    ⟨some 28, none, (.op (.mv (.t 8)))⟩,
    ⟨some 29, none, (.op (.mv (.t 10)))⟩,
    ⟨some 30, none, (.op (.iaa 3 3 (.t 3) (.t 28)))⟩,
    ⟨some 31, none, (.op (.iaa 1 3 (.t 30) (.t 29)))⟩,
    ⟨some 32, none, (.op (.ld1 (.t 31)))⟩,
    ⟨some 33, none, (.op (.bin .mul (.t 27) (.t 32)))⟩,
    ⟨some 34, none, (.op (.mv (.t 7)))⟩,
    ⟨some 35, none, (.op (.mv (.t 10)))⟩,
    ⟨some 36, none, (.op (.iaa 3 3 (.t 3) (.t 34)))⟩,
    ⟨some 37, none, (.op (.iaa 1 3 (.t 36) (.t 35)))⟩,
    ⟨some 38, none, (.op (.ld1 (.t 37)))⟩,
    ⟨some 39, none, (.op (.mv (.t 8)))⟩,
    ⟨some 40, none, (.op (.mv (.t 9)))⟩,
    ⟨some 41, none, (.op (.iaa 3 3 (.t 3) (.t 39)))⟩,
    ⟨some 42, none, (.op (.iaa 1 3 (.t 41) (.t 40)))⟩,
    ⟨some 43, none, (.op (.ld1 (.t 42)))⟩,
    ⟨some 44, none, (.op (.bin .mul (.t 38) (.t 43)))⟩,
    ⟨some 45, none, (.op (.bin .sub (.t 33) (.t 44)))⟩,
    ⟨some 6, none, (.op (.mv (.t 45)))⟩] [(4, 9), (4, 15), (9, 15), (4, 20), (9, 20), (15, 20)] [])
  .ret)))⟩
def A_counts_minor : Nat → Ty := tyAt [.un]
abbrev P_counts_minor : List PSh := [.agg (.pr (.pr (.int .i64) (.pr (.int .i64) (.int .i64))) (.pr (.pr (.int .i64) (.pr (.int .i64) (.int .i64))) (.pr (.int .i64) (.pr (.int .i64) (.int .i64))))), .one (.int .i64), .one (.int .i64)]
abbrev R_counts_minor : List PSh := [.one (.int .i64)]
theorem e_counts_minor : cFn Try.prog 122 = some F_counts_minor.erase := by kernel_rfl
theorem k_counts_minor : callable Try.prog 122 = true := by kernel_rfl
/-- cloverleaf/counts.sum -/
def F_counts_sum : TFn := ⟨16, 3, [.celln 4 2],
  (.seq (.reg [⟨some 2, none, (.op (.box 0 (.t 0)))⟩,
    ⟨some 3, none, (.op (.box 1 (.t 1)))⟩,
    ⟨some 4, none, (.op (.newz 2 [(.p (.int .i64 0)), (.p (.int .i64 0))]))⟩])
  (.seq (.reg [⟨some 5, none, (.op (.fa 0 (.t 2)))⟩,
    ⟨some 6, none, (.op (.ld1 (.t 5)))⟩,
    ⟨some 7, none, (.op (.fa 0 (.t 3)))⟩,
    ⟨some 8, none, (.op (.ld1 (.t 7)))⟩,
    ⟨some 9, none, (.op (.bin .add (.t 6) (.t 8)))⟩,
    ⟨some 10, none, (.op (.fa 1 (.t 2)))⟩,
    ⟨some 11, none, (.op (.ld1 (.t 10)))⟩,
    ⟨some 12, none, (.op (.fa 1 (.t 3)))⟩,
    ⟨some 13, none, (.op (.ld1 (.t 12)))⟩,
    ⟨some 14, none, (.op (.bin .add (.t 11) (.t 13)))⟩,
    ⟨some 15, none, (.op (.build [(.p (.int .i64 0)), (.p (.int .i64 0))] [(0, 1, (.t 9)), (1, 1, (.t 14))]))⟩,
    ⟨none, none, (.op (.st 2 (.t 4) (.t 15)))⟩])
  .ret))⟩
def A_counts_sum : Nat → Ty := tyAt [.un, .un, .un]
abbrev P_counts_sum : List PSh := [.agg (.pr (.int .i64) (.int .i64)), .agg (.pr (.int .i64) (.int .i64))]
abbrev R_counts_sum : List PSh := [.agg (.pr (.int .i64) (.int .i64))]
theorem e_counts_sum : cFn Try.prog 123 = some F_counts_sum.erase := by kernel_rfl
theorem k_counts_sum : callable Try.prog 123 = true := by kernel_rfl
/-- cloverleaf/counts.CheckSpectrum$1 -/
def F_counts_CheckSpectrum_1 : TFn := ⟨6, 1, [.tmp 2],
  (.seq (.reg [⟨some 2, none, (.op (.mv (.c (.p (.bool false)))))⟩])
  (.seq (.reg [⟨some 3, none, (.op (.mv (.t 0)))⟩,
    ⟨some 4, none, (.call 0 104 [(.t 3)])⟩,
    ⟨some 5, none, (.op (.unot (.t 4)))⟩,
    ⟨some 2, none, (.op (.mv (.t 5)))⟩])
  .ret))⟩
def A_counts_CheckSpectrum_1 : Nat → Ty := tyAt [.un]
abbrev P_counts_CheckSpectrum_1 : List PSh := [.one (.int .i64)]
abbrev R_counts_CheckSpectrum_1 : List PSh := [.one .bool]
theorem e_counts_CheckSpectrum_1 : cFn Try.prog 103 = some F_counts_CheckSpectrum_1.erase := by kernel_rfl
theorem k_counts_CheckSpectrum_1 : callable Try.prog 103 = true := by kernel_rfl
/-- cloverleaf/counts.floor -/
def F_counts_floor : TFn := ⟨16, 0, [.tmp 4],
  (.seq (.reg [⟨some 4, none, (.op (.mv (.c (.p (.int .i64 0)))))⟩])
  (.seq (.reg [⟨some 6, none, (.op (.mv (.t 0)))⟩,
    ⟨some 7, none, (.op (.mv (.t 1)))⟩,
    ⟨some 8, none, (.op (.bin .quo (.t 6) (.t 7)))⟩,
    ⟨some 5, none, (.op (.mv (.t 8)))⟩])
  (.seq (.seq (.reg [⟨some 9, none, (.op (.mv (.t 0)))⟩,
    ⟨some 10, none, (.op (.mv (.t 1)))⟩,
    ⟨some 11, none, (.op (.bin .rem (.t 9) (.t 10)))⟩,
    ⟨some 12, none, (.op (.bin .lss (.t 11) (.c (.p (.int .i64 0)))))⟩])
  (.cond (.t 12) (.reg [⟨some 13, none, (.op (.mv (.t 5)))⟩,
    ⟨some 14, none, (.op (.bin .sub (.t 13) (.c (.p (.int .i64 1)))))⟩,
    ⟨some 5, none, (.op (.mv (.t 14)))⟩]) .skip))
  (.seq (.reg [⟨some 15, none, (.op (.mv (.t 5)))⟩,
    ⟨some 4, none, (.op (.mv (.t 15)))⟩])
  .ret))))⟩
def A_counts_floor : Nat → Ty := tyAt []
abbrev P_counts_floor : List PSh := [.one (.int .i64), .one (.int .i64)]
abbrev R_counts_floor : List PSh := [.one (.int .i64)]
theorem e_counts_floor : cFn Try.prog 125 = some F_counts_floor.erase := by kernel_rfl
theorem k_counts_floor : callable Try.prog 125 = true := by kernel_rfl
/-- cloverleaf/counts.allWithin$1 -/
def F_counts_allWithin_1 : TFn := ⟨8, 1, [.tmp 3],
  (.seq (.reg [⟨some 3, none, (.op (.mv (.c (.p (.bool false)))))⟩])
  (.seq (.reg [⟨some 4, none, (.op (.mv (.t 0)))⟩,
    ⟨some 5, none, (.op (.ld1 (.t 1)))⟩,
    ⟨some 6, none, (.call 0 74 [(.t 4), (.c (.p (.int .i64 0))), (.t 5)])⟩,
    ⟨some 7, none, (.op (.unot (.t 6)))⟩,
    ⟨some 3, none, (.op (.mv (.t 7)))⟩])
  .ret))⟩
def A_counts_allWithin_1 : Nat → Ty := tyAt [.un]
abbrev P_counts_allWithin_1 : List PSh := [.one (.int .i64), .ptr (.int .i64)]
abbrev R_counts_allWithin_1 : List PSh := [.one .bool]
theorem e_counts_allWithin_1 : cFn Try.prog 116 = some F_counts_allWithin_1.erase := by kernel_rfl
theorem k_counts_allWithin_1 : callable Try.prog 116 = true := by kernel_rfl
end Go.Proofs.Ytonjnpefnbnohaa
