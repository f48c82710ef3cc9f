/- The code of the functions that GravitySpans reaches, as it is walked: each equals what the given program's text gives. -/
import Derived.Test.YtcecdmdnfmgnfaaDoorGq1GravitySpans
import Derived.Test.YtcecdmdnfmgnfaaDoorProg
import Derived.KernelRfl
namespace Go.Proofs.YtcecdmdnfmgnfaaDoor
open Go Go.Mx
set_option maxRecDepth 100000
abbrev oQ (d : Nat) (o : AOp) : AIns := ⟨some d, none, .op o⟩
abbrev uQ (o : AOp) : AIns := ⟨none, none, .op o⟩
abbrev gQ (d g : Nat) (b : Bool) (o : AOp) : AIns := ⟨some d, some (some g, b), .op o⟩
abbrev kQ (d s f : Nat) (a : List Opd) : AIns := ⟨some d, none, .call s f a⟩
abbrev iQ (n : Int) : Opd := .c (.p (.int .i64 n))
abbrev zQ : V := .p (.int .i64 0)
abbrev tQ : Ty := .int .i64
abbrev pQ : Ty := .pr tQ tQ
def F_law05_GravitySpans : TFn := ⟨118, 15, [.tmp 6],
 (.seq (.reg [(oQ 3 (.box 0 (.t 0))),
 (oQ 6 (.mv (.c (.p (.bool false)))))])
 (.seq (.seq (.reg [(kQ 16 1 15 []),
 (oQ 17 (.unot (.t 16)))])
 (.cond (.t 17) (.seq (.reg [(oQ 6 (.mv (.c (.p (.bool false)))))])
 .ret) .skip))
 (.seq (.seq (.reg [(oQ 18 (.ldn 2 (.t 3))),
 (kQ 19 2 40 [(.t 18)]),
 (oQ 20 (.unot (.t 19)))])
 (.cond (.t 20) (.seq (.reg [(oQ 6 (.mv (.c (.p (.bool true)))))])
 .ret) .skip))
 (.seq (.reg [(oQ 22 (.ldn 2 (.t 3))),
 (kQ 23 3 42 [(.t 22)]),
 (oQ 24 (.mv (.t 1))),
 (oQ 25 (.mv (.t 2))),
 (kQ 26 4 79 [(.t 23), (.t 24), (.t 25)]),
 (oQ 21 (.mv (.t 26))),
 (oQ 27 (.ext 0 (.t 21))),
 (oQ 28 (.ext 1 (.t 21))),
 (oQ 7 (.newz 5 [zQ, zQ])),
 (uQ (.st 2 (.t 7) (.t 27))),
 (oQ 8 (.mv (.t 28)))])
 (.seq (.reg [(oQ 30 (.ldn 2 (.t 3))),
 (kQ 31 6 42 [(.t 30)]),
 (kQ 32 7 80 [(.t 31)]),
 (oQ 29 (.mv (.t 32))),
 (oQ 33 (.ext 0 (.t 29))),
 (oQ 34 (.ext 1 (.t 29))),
 (oQ 9 (.mv (.t 33))),
 (oQ 10 (.mv (.t 34)))])
 (.seq (.seq (.reg [(oQ 35 (.ldn 2 (.t 3))),
 (kQ 36 8 81 [(.t 35)]),
 (oQ 11 (.mv (.t 36)))])
 (.seq (.reg [(oQ 37 (.mv (.t 11))),
 (oQ 38 (.bin .neq (.t 37) (iQ 0)))])
 (.cond (.t 38) (.seq (.reg [(oQ 39 (.mv (.t 8))),
 (oQ 40 (.mv (.t 11))),
 (oQ 41 (.bin .eql (.t 39) (.t 40))),
 (oQ 42 (.mv (.t 41))),
 (gQ 43 42 true (.mv (.t 10))),
 (gQ 44 42 true (.mv (.t 11))),
 (gQ 45 42 true (.bin .eql (.t 43) (.t 44))),
 (oQ 46 (.pick (.t 42) (.t 45) (.c (.p (.bool false))))),
 (oQ 47 (.mv (.t 46))),
 (gQ 48 47 true (.ldn 2 (.t 7))),
 (gQ 49 47 true (.build [zQ, zQ] [])),
 (gQ 50 47 true (.eqa false 2 [(true, 0), (true, 1)] (.t 48) (.t 49))),
 (oQ 51 (.pick (.t 47) (.t 50) (.c (.p (.bool false))))),
 (oQ 52 (.mv (.t 51))),
 (gQ 53 52 true (.mv (.t 9))),
 (gQ 54 52 true (.len false (.t 53))),
 (gQ 55 52 true (.bin .eql (.t 54) (iQ 0))),
 (oQ 56 (.pick (.t 52) (.t 55) (.c (.p (.bool false))))),
 (oQ 6 (.mv (.t 56)))])
 .ret) .skip)))
 (.seq (.seq (.reg [(oQ 58 (.ldn 2 (.t 3))),
 (kQ 59 9 82 [(.t 58)]),
 (oQ 57 (.mv (.t 59))),
 (oQ 60 (.ext 0 (.t 57))),
 (oQ 61 (.ext 1 (.t 57))),
 (oQ 12 (.mv (.t 60))),
 (oQ 13 (.mv (.t 61)))])
 (.seq (.reg [(oQ 62 (.mv (.t 13))),
 (oQ 63 (.mv (.t 62))),
 (gQ 64 63 true (.mv (.t 10))),
 (gQ 65 63 true (.bin .neq (.t 64) (iQ 0))),
 (gQ 66 63 true (.mv (.t 65))),
 (gQ 67 66 false (.mv (.t 9))),
 (gQ 68 66 false (.mv (.t 12))),
 ⟨some 69, some (some 66, false), (.call 10 22 [(.t 67), (.t 68)])⟩,
 (gQ 70 66 false (.unot (.t 69))),
 (gQ 71 63 true (.pick (.t 66) (.c (.p (.bool true))) (.t 70))),
 (oQ 72 (.pick (.t 63) (.t 71) (.c (.p (.bool false))))),
 (oQ 73 (.mv (.t 72))),
 (gQ 74 73 false (.mv (.t 13))),
 (gQ 75 73 false (.unot (.t 74))),
 (gQ 76 73 false (.mv (.t 75))),
 (gQ 77 76 true (.mv (.t 10))),
 (gQ 78 76 true (.bin .neq (.t 77) (iQ 12))),
 (gQ 79 76 true (.mv (.t 78))),
 (gQ 80 79 false (.mv (.t 9))),
 (gQ 81 79 false (.len false (.t 80))),
 (gQ 82 79 false (.bin .neq (.t 81) (iQ 0))),
 (gQ 83 76 true (.pick (.t 79) (.c (.p (.bool true))) (.t 82))),
 (gQ 84 73 false (.pick (.t 76) (.t 83) (.c (.p (.bool false))))),
 (oQ 85 (.pick (.t 73) (.c (.p (.bool true))) (.t 84)))])
 (.cond (.t 85) (.seq (.reg [(oQ 6 (.mv (.c (.p (.bool false)))))])
 .ret) .skip)))
 (.seq (.seq (.reg [(oQ 86 (.ldn 2 (.t 3))),
 (oQ 87 (.mv (.t 1))),
 (kQ 88 11 83 [(.t 86), (.t 87)]),
 (oQ 89 (.bin .neq (.t 88) (iQ 0))),
 (oQ 90 (.mv (.t 89))),
 (gQ 91 90 false (.ldn 2 (.t 3))),
 (gQ 92 90 false (.mv (.t 2))),
 ⟨some 93, some (some 90, false), (.call 12 83 [(.t 91), (.t 92)])⟩,
 (gQ 94 90 false (.bin .neq (.t 93) (iQ 0))),
 (oQ 95 (.pick (.t 90) (.c (.p (.bool true))) (.t 94)))])
 (.cond (.t 95) (.seq (.reg [(oQ 96 (.mv (.t 8))),
 (oQ 97 (.bin .eql (.t 96) (iQ 6))),
 (oQ 98 (.mv (.t 97))),
 (gQ 99 98 true (.ldn 2 (.t 7))),
 (gQ 100 98 true (.build [zQ, zQ] [])),
 (gQ 101 98 true (.eqa false 2 [(true, 0), (true, 1)] (.t 99) (.t 100))),
 (oQ 102 (.pick (.t 98) (.t 101) (.c (.p (.bool false))))),
 (oQ 6 (.mv (.t 102)))])
 .ret) .skip))
 (.seq (.reg [(oQ 104 (.ldn 2 (.t 3))),
 (oQ 105 (.mv (.t 1))),
 (oQ 106 (.mv (.t 2))),
 (kQ 107 13 84 [(.t 104), (.t 105), (.t 106)]),
 (oQ 103 (.mv (.t 107))),
 (oQ 108 (.ext 0 (.t 103))),
 (oQ 109 (.ext 1 (.t 103))),
 (oQ 14 (.newz 14 [zQ, zQ])),
 (uQ (.st 2 (.t 14) (.t 108))),
 (oQ 15 (.mv (.t 109)))])
 (.seq (.reg [(oQ 110 (.mv (.t 8))),
 (oQ 111 (.mv (.t 15))),
 (oQ 112 (.bin .eql (.t 110) (.t 111))),
 (oQ 113 (.mv (.t 112))),
 (gQ 114 113 true (.ldn 2 (.t 7))),
 (gQ 115 113 true (.ldn 2 (.t 14))),
 (gQ 116 113 true (.eqa false 2 [(true, 0), (true, 1)] (.t 114) (.t 115))),
 (oQ 117 (.pick (.t 113) (.t 116) (.c (.p (.bool false))))),
 (oQ 6 (.mv (.t 117)))])
 .ret))))))))))⟩
def A_law05_GravitySpans : Nat → Ty := tyAt [.un, .un, .un, .un, .un, .un, .un, .un, .un, .un, .un, .un, .un, .un, .un]
abbrev P_law05_GravitySpans : List PSh := [.agg (.pr tQ (.sl (.pr tQ (.pr tQ pQ)))), .one tQ, .one tQ]
abbrev R_law05_GravitySpans : List PSh := [.one .bool]
theorem e_law05_GravitySpans : cFn Tryd.prog 13 = some F_law05_GravitySpans.erase := by kernel_rfl
theorem k_law05_GravitySpans : callable Tryd.prog 13 = true := by kernel_rfl
def F_mathbits_Mul : TFn := ⟨30, 2, [.tmp 4, .tmp 5],
 (.seq (.reg [(oQ 4 (.mv (.c (.p (.int .u64 0))))),
 (oQ 5 (.mv (.c (.p (.int .u64 0)))))])
 (.seq (.cond (.c (.p (.bool false))) (.seq (.reg [(oQ 11 (.mv (.t 0))),
 (oQ 12 (.conv .u32 (.t 11))),
 (oQ 13 (.mv (.t 1))),
 (oQ 14 (.conv .u32 (.t 13))),
 (kQ 15 0 137 [(.t 12), (.t 14)]),
 (oQ 10 (.mv (.t 15))),
 (oQ 16 (.ext 0 (.t 10))),
 (oQ 17 (.ext 1 (.t 10))),
 (oQ 6 (.mv (.t 16))),
 (oQ 7 (.mv (.t 17)))])
 (.seq (.reg [(oQ 18 (.mv (.t 6))),
 (oQ 19 (.conv .u64 (.t 18))),
 (oQ 20 (.mv (.t 7))),
 (oQ 21 (.conv .u64 (.t 20))),
 (oQ 4 (.mv (.t 19))),
 (oQ 5 (.mv (.t 21)))])
 .ret)) .skip)
 (.seq (.reg [(oQ 23 (.mv (.t 0))),
 (oQ 24 (.mv (.t 1))),
 (kQ 25 1 138 [(.t 23), (.t 24)]),
 (oQ 22 (.mv (.t 25))),
 (oQ 26 (.ext 0 (.t 22))),
 (oQ 27 (.ext 1 (.t 22))),
 (oQ 8 (.mv (.t 26))),
 (oQ 9 (.mv (.t 27)))])
 (.seq (.reg [(oQ 28 (.mv (.t 8))),
 (oQ 29 (.mv (.t 9))),
 (oQ 4 (.mv (.t 28))),
 (oQ 5 (.mv (.t 29)))])
 .ret))))⟩
def A_mathbits_Mul : Nat → Ty := tyAt [.un, .un]
abbrev P_mathbits_Mul : List PSh := [.one (.int .u64), .one (.int .u64)]
abbrev R_mathbits_Mul : List PSh := [.one (.int .u64), .one (.int .u64)]
theorem e_mathbits_Mul : cFn Tryd.prog 132 = some F_mathbits_Mul.erase := by kernel_rfl
theorem k_mathbits_Mul : callable Tryd.prog 132 = true := by kernel_rfl
def F_mathbits_Mul64 : TFn := ⟨51, 0, [.tmp 4, .tmp 5],
 (.seq (.reg [(oQ 4 (.mv (.c (.p (.int .u64 0))))),
 (oQ 5 (.mv (.c (.p (.int .u64 0)))))])
 (.seq (.reg [(oQ 14 (.mv (.t 0))),
 (oQ 15 (.bin .and (.t 14) (.c (.p (.int .u64 4294967295))))),
 (oQ 6 (.mv (.t 15)))])
 (.seq (.reg [(oQ 16 (.mv (.t 0))),
 (oQ 17 (.sh false (.t 16) (.c (.p (.int .u64 32))))),
 (oQ 7 (.mv (.t 17)))])
 (.seq (.reg [(oQ 18 (.mv (.t 1))),
 (oQ 19 (.bin .and (.t 18) (.c (.p (.int .u64 4294967295))))),
 (oQ 8 (.mv (.t 19)))])
 (.seq (.reg [(oQ 20 (.mv (.t 1))),
 (oQ 21 (.sh false (.t 20) (.c (.p (.int .u64 32))))),
 (oQ 9 (.mv (.t 21)))])
 (.seq (.reg [(oQ 22 (.mv (.t 6))),
 (oQ 23 (.mv (.t 8))),
 (oQ 24 (.bin .mul (.t 22) (.t 23))),
 (oQ 10 (.mv (.t 24)))])
 (.seq (.reg [(oQ 25 (.mv (.t 7))),
 (oQ 26 (.mv (.t 8))),
 (oQ 27 (.bin .mul (.t 25) (.t 26))),
 (oQ 28 (.mv (.t 10))),
 (oQ 29 (.sh false (.t 28) (.c (.p (.int .u64 32))))),
 (oQ 30 (.bin .add (.t 27) (.t 29))),
 (oQ 11 (.mv (.t 30)))])
 (.seq (.reg [(oQ 31 (.mv (.t 11))),
 (oQ 32 (.bin .and (.t 31) (.c (.p (.int .u64 4294967295))))),
 (oQ 12 (.mv (.t 32)))])
 (.seq (.reg [(oQ 33 (.mv (.t 11))),
 (oQ 34 (.sh false (.t 33) (.c (.p (.int .u64 32))))),
 (oQ 13 (.mv (.t 34)))])
 (.seq (.reg [(oQ 35 (.mv (.t 12))),
 (oQ 36 (.mv (.t 6))),
 (oQ 37 (.mv (.t 9))),
 (oQ 38 (.bin .mul (.t 36) (.t 37))),
 (oQ 39 (.bin .add (.t 35) (.t 38))),
 (oQ 12 (.mv (.t 39)))])
 (.seq (.reg [(oQ 40 (.mv (.t 7))),
 (oQ 41 (.mv (.t 9))),
 (oQ 42 (.bin .mul (.t 40) (.t 41))),
 (oQ 43 (.mv (.t 13))),
 (oQ 44 (.bin .add (.t 42) (.t 43))),
 (oQ 45 (.mv (.t 12))),
 (oQ 46 (.sh false (.t 45) (.c (.p (.int .u64 32))))),
 (oQ 47 (.bin .add (.t 44) (.t 46))),
 (oQ 4 (.mv (.t 47)))])
 (.seq (.reg [(oQ 48 (.mv (.t 0))),
 (oQ 49 (.mv (.t 1))),
 (oQ 50 (.bin .mul (.t 48) (.t 49))),
 (oQ 5 (.mv (.t 50)))])
 .ret))))))))))))⟩
def A_mathbits_Mul64 : Nat → Ty := tyAt []
abbrev P_mathbits_Mul64 : List PSh := [.one (.int .u64), .one (.int .u64)]
abbrev R_mathbits_Mul64 : List PSh := [.one (.int .u64), .one (.int .u64)]
theorem e_mathbits_Mul64 : cFn Tryd.prog 138 = some F_mathbits_Mul64.erase := by kernel_rfl
theorem k_mathbits_Mul64 : callable Tryd.prog 138 = true := by kernel_rfl
def F_law05_awake : TFn := ⟨86, 20, [.tmp 0],
 (.seq (.reg [(oQ 0 (.mv (.c (.p (.bool false)))))])
 (.seq (.reg [(oQ 12 (.bsl false 0 1 3 [zQ, zQ, zQ] [(0, 1, (iQ 10)), (1, 1, (iQ 20)), (2, 1, (iQ 30))])),
 (kQ 13 1 85 []),
 (kQ 14 2 30 [(.t 12), (.t 13), (iQ 3)]),
 (oQ 11 (.mv (.t 14))),
 (oQ 15 (.ext 0 (.t 11))),
 (oQ 16 (.ext 1 (.t 11))),
 (oQ 1 (.mv (.t 15))),
 (oQ 2 (.mv (.t 16)))])
 (.seq (.reg [(oQ 18 (.bsl false 3 1 2 [zQ, zQ] [(0, 1, (iQ 2)), (1, 1, (iQ 1))])),
 (oQ 19 (.build [(.p (.sl 0 [] true))] [(0, 1, (.t 18))])),
 (oQ 20 (.bsl false 4 1 2 [zQ, zQ] [(0, 1, (iQ 2)), (1, 1, (iQ 1))])),
 (oQ 21 (.build [(.p (.sl 0 [] true))] [(0, 1, (.t 20))])),
 (kQ 22 5 17 [(.t 19), (.t 21)]),
 (oQ 17 (.mv (.t 22))),
 (oQ 23 (.ext 0 (.t 17))),
 (oQ 24 (.ext 1 (.t 17))),
 (oQ 3 (.newz 6 [(.p (.sl 0 [] true))])),
 (uQ (.st 1 (.t 3) (.t 23))),
 (oQ 4 (.mv (.t 24)))])
 (.seq (.reg [(kQ 26 7 86 []),
 (kQ 27 8 50 [(.t 26)]),
 (oQ 25 (.mv (.t 27))),
 (oQ 28 (.ext 0 (.t 25))),
 (oQ 29 (.ext 1 (.t 25))),
 (oQ 5 (.newz 9 [zQ, zQ, zQ, zQ])),
 (uQ (.st 4 (.t 5) (.t 28))),
 (oQ 6 (.mv (.t 29)))])
 (.seq (.reg [(kQ 31 10 87 []),
 (kQ 32 11 43 [(.t 31)]),
 (oQ 30 (.mv (.t 32))),
 (oQ 33 (.ext 0 (.t 30))),
 (oQ 34 (.ext 1 (.t 30))),
 (oQ 7 (.mv (.t 33))),
 (oQ 8 (.mv (.t 34)))])
 (.seq (.reg [(kQ 36 12 19 [(iQ 1000), (iQ 50), (iQ 267)]),
 (oQ 35 (.mv (.t 36))),
 (oQ 37 (.ext 0 (.t 35))),
 (oQ 38 (.ext 1 (.t 35))),
 (oQ 9 (.newz 13 [zQ, zQ])),
 (uQ (.st 2 (.t 9) (.t 37))),
 (oQ 10 (.mv (.t 38)))])
 (.seq (.reg [(oQ 39 (.mv (.t 2))),
 (oQ 40 (.bin .eql (.t 39) (iQ 0))),
 (oQ 41 (.mv (.t 40))),
 (gQ 42 41 true (.mv (.t 1))),
 (gQ 43 41 true (.build [zQ, zQ] [(0, 1, (iQ 2)), (1, 1, (iQ 14))])),
 (gQ 44 41 true (.bsl false 14 2 1 [zQ, zQ] [(0, 2, (.t 43))])),
 ⟨some 45, some (some 41, true), (.call 15 33 [(.t 42), (.t 44)])⟩,
 (oQ 46 (.pick (.t 41) (.t 45) (.c (.p (.bool false))))),
 (oQ 47 (.mv (.t 46))),
 (gQ 48 47 true (.mv (.t 4))),
 (gQ 49 47 true (.bin .eql (.t 48) (iQ 0))),
 (oQ 50 (.pick (.t 47) (.t 49) (.c (.p (.bool false))))),
 (oQ 51 (.mv (.t 50))),
 (gQ 52 51 true (.fa 0 (.t 3))),
 (gQ 53 51 true (.ld1 (.t 52))),
 (gQ 54 51 true (.bsl false 16 1 3 [zQ, zQ, zQ] [(0, 1, (iQ 6)), (1, 1, (iQ 4)), (2, 1, (iQ 1))])),
 ⟨some 55, some (some 51, true), (.call 17 22 [(.t 53), (.t 54)])⟩,
 (oQ 56 (.pick (.t 51) (.t 55) (.c (.p (.bool false))))),
 (oQ 57 (.mv (.t 56))),
 (gQ 58 57 true (.mv (.t 6))),
 (gQ 59 57 true (.bin .eql (.t 58) (iQ 0))),
 (oQ 60 (.pick (.t 57) (.t 59) (.c (.p (.bool false))))),
 (oQ 61 (.mv (.t 60))),
 (gQ 62 61 true (.ldn 4 (.t 5))),
 (gQ 63 61 true (.build [zQ, zQ] [(0, 1, (iQ 4)), (1, 1, (iQ 5))])),
 (gQ 64 61 true (.build [zQ, zQ] [(0, 1, (iQ 11)), (1, 1, (iQ 10))])),
 (gQ 65 61 true (.build [zQ, zQ, zQ, zQ] [(0, 2, (.t 63)), (2, 2, (.t 64))])),
 (gQ 66 61 true (.eqa false 4 [(true, 0), (true, 1), (true, 2), (true, 3)] (.t 62) (.t 65))),
 (oQ 67 (.pick (.t 61) (.t 66) (.c (.p (.bool false))))),
 (oQ 68 (.mv (.t 67))),
 (gQ 69 68 true (.mv (.t 8))),
 (gQ 70 68 true (.bin .eql (.t 69) (iQ 0))),
 (oQ 71 (.pick (.t 68) (.t 70) (.c (.p (.bool false))))),
 (oQ 72 (.mv (.t 71))),
 (gQ 73 72 true (.mv (.t 7))),
 (gQ 74 72 true (.bsl false 18 1 3 [zQ, zQ, zQ] [(0, 1, (iQ (-7))), (1, 1, (iQ (-2))), (2, 1, (iQ 0))])),
 ⟨some 75, some (some 72, true), (.call 19 22 [(.t 73), (.t 74)])⟩,
 (oQ 76 (.pick (.t 72) (.t 75) (.c (.p (.bool false))))),
 (oQ 77 (.mv (.t 76))),
 (gQ 78 77 true (.mv (.t 10))),
 (gQ 79 77 true (.bin .eql (.t 78) (iQ 0))),
 (oQ 80 (.pick (.t 77) (.t 79) (.c (.p (.bool false))))),
 (oQ 81 (.mv (.t 80))),
 (gQ 82 81 true (.ldn 2 (.t 9))),
 (gQ 83 81 true (.build [zQ, zQ] [(0, 1, (iQ 3966469)), (1, 1, (iQ 2000))])),
 (gQ 84 81 true (.eqa false 2 [(true, 0), (true, 1)] (.t 82) (.t 83))),
 (oQ 85 (.pick (.t 81) (.t 84) (.c (.p (.bool false))))),
 (oQ 0 (.mv (.t 85)))])
 .ret)))))))⟩
def A_law05_awake : Nat → Ty := tyAt [tQ, .un, .un, tQ, tQ, .un, .un, .un, .un, .un, .un, .un, .un, .un, pQ, .un, tQ, .un, tQ, .un]
abbrev P_law05_awake : List PSh := []
abbrev R_law05_awake : List PSh := [.one .bool]
theorem e_law05_awake : cFn Tryd.prog 15 = some F_law05_awake.erase := by kernel_rfl
theorem k_law05_awake : callable Tryd.prog 15 = true := by kernel_rfl
def F_gravity_Composed : TFn := ⟨84, 13, [.celln 4 1, .tmp 5],
 (.seq (.reg [(oQ 2 (.box 0 (.t 0))),
 (oQ 3 (.box 1 (.t 1))),
 (oQ 4 (.newz 2 [(.p (.sl 0 [] true))])),
 (oQ 5 (.mv (iQ 0)))])
 (.seq (.seq (.regd [(oQ 15 (.ldn 1 (.t 2))),
 (kQ 16 3 75 [(.t 15)]),
 (oQ 17 (.ldn 1 (.t 3))),
 (kQ 18 4 75 [(.t 17)]),
 (oQ 19 (.fa 0 (.t 2))),
 (oQ 20 (.ld1 (.t 19))),
 (oQ 21 (.len false (.t 20))),
 (oQ 22 (.fa 0 (.t 3))),
 (oQ 23 (.ld1 (.t 22))),
 (oQ 24 (.len false (.t 23))),
 (oQ 25 (.bin .add (.t 21) (.t 24))),
 (oQ 26 (.bin .sub (.t 25) (iQ 1))),
 (oQ 27 (.bin .leq (.t 26) (iQ 9))),
 (kQ 28 5 89 [(.t 27), (iQ 8)]),
 (oQ 29 (.bsl false 6 1 3 [zQ, zQ, zQ] [(0, 1, (.t 16)), (1, 1, (.t 18)), (2, 1, (.t 28))])),
 (kQ 30 7 88 [(.t 29)]),
 (oQ 6 (.mv (.t 30)))] [(0, 2), (1, 2), (0, 5), (1, 5), (2, 5), (3, 5), (0, 8), (1, 8), (2, 8), (3, 8), (5, 8)] [])
 (.seq (.reg [(oQ 31 (.mv (.t 6))),
 (oQ 32 (.bin .neq (.t 31) (iQ 0)))])
 (.cond (.t 32) (.seq (.reg [(oQ 33 (.build [(.p (.sl 0 [] true))] [])),
 (oQ 34 (.mv (.t 6))),
 (uQ (.st 1 (.t 4) (.t 33))),
 (oQ 5 (.mv (.t 34)))])
 .ret) .skip)))
 (.seq (.regd [(oQ 35 (.ldn 1 (.t 2))),
 (kQ 36 8 90 [(.t 35)]),
 (oQ 37 (.ldn 1 (.t 3))),
 (kQ 38 9 90 [(.t 37)]),
 (oQ 7 (.mv (.t 36))),
 (oQ 8 (.mv (.t 38)))] [(0, 2), (1, 2)] [])
 (.seq (.reg [(oQ 39 (.mv (.t 7))),
 (oQ 40 (.len false (.t 39))),
 (oQ 41 (.mv (.t 8))),
 (oQ 42 (.len false (.t 41))),
 (oQ 43 (.bin .add (.t 40) (.t 42))),
 (oQ 44 (.bin .sub (.t 43) (iQ 1))),
 (oQ 45 (.mk 10 1 8 [zQ] (.t 44))),
 (oQ 9 (.mv (.t 45)))])
 (.seq (.seq (.reg [(oQ 46 (.mv (.t 7))),
 (oQ 47 (.len false (.t 46))),
 (oQ 48 (.mv (iQ 0)))])
 (.block 0 (.loop [.v 48 tQ, .d 10 tQ] [10] [] (.seq (.reg [(oQ 49 (.bin .lss (.t 48) (.t 47)))])
 (.seq (.cond (.t 49) .skip (.exit 0))
 (.seq (.block 1 (.seq (.reg [(oQ 50 (.mv (.t 48))),
 (oQ 51 (.ia 1 (.t 46) (.t 48))),
 (oQ 52 (.ld1 (.t 51))),
 (oQ 10 (.mv (.t 50))),
 (oQ 11 (.mv (.t 52)))])
 (.seq (.reg [(oQ 53 (.mv (.t 8))),
 (oQ 54 (.len false (.t 53))),
 (oQ 55 (.mv (iQ 0)))])
 (.block 2 (.loop [.v 55 tQ, .d 10 tQ] [10] [] (.seq (.reg [(oQ 56 (.bin .lss (.t 55) (.t 54)))])
 (.seq (.cond (.t 56) .skip (.exit 2))
 (.seq (.block 3 (.seq (.reg [(oQ 57 (.mv (.t 55))),
 (oQ 58 (.ia 1 (.t 53) (.t 55))),
 (oQ 59 (.ld1 (.t 58))),
 (oQ 12 (.mv (.t 57))),
 (oQ 13 (.mv (.t 59)))])
 (.reg [(oQ 60 (.mv (.t 9))),
 (oQ 61 (.mv (.t 10))),
 (oQ 62 (.mv (.t 12))),
 (oQ 63 (.bin .add (.t 61) (.t 62))),
 (oQ 64 (.ia 1 (.t 60) (.t 63))),
 (oQ 65 (.ld1 (.t 64))),
 (oQ 66 (.mv (.t 11))),
 (oQ 67 (.mv (.t 13))),
 (oQ 68 (.bin .mul (.t 66) (.t 67))),
 (oQ 69 (.bin .add (.t 65) (.t 68))),
 (oQ 70 (.ia 1 (.t 60) (.t 63))),
 (uQ (.st 1 (.t 70) (.t 69)))])))
 (.reg [(oQ 71 (.bin .add (.t 55) (iQ 1))),
 (oQ 55 (.mv (.t 71)))])))))))))
 (.reg [(oQ 72 (.bin .add (.t 48) (iQ 1))),
 (oQ 48 (.mv (.t 72)))])))))))
 (.seq (.reg [(oQ 73 (.mv (.t 9))),
 (oQ 74 (.mv (.t 9))),
 (oQ 75 (.len false (.t 74))),
 (oQ 76 (.bin .quo (.t 75) (iQ 2))),
 (oQ 77 (.sl 1 (.t 73) (some (.t 76)) none)),
 (oQ 78 (.build [(.p (.sl 0 [] true))] [(0, 1, (.t 77))])),
 (oQ 14 (.newz 11 [(.p (.sl 0 [] true))])),
 (uQ (.st 1 (.t 14) (.t 78)))])
 (.seq (.seq (.reg [(oQ 79 (.fa 0 (.t 14))),
 (oQ 80 (.ld1 (.t 79))),
 (kQ 81 12 91 [(.t 80), (.c (.clo 92 []))])])
 (.cond (.t 81) (.seq (.reg [(oQ 82 (.build [(.p (.sl 0 [] true))] [])),
 (uQ (.st 1 (.t 4) (.t 82))),
 (oQ 5 (.mv (iQ 8)))])
 .ret) .skip))
 (.seq (.reg [(oQ 83 (.ldn 1 (.t 14))),
 (uQ (.st 1 (.t 4) (.t 83))),
 (oQ 5 (.mv (iQ 0)))])
 .ret))))))))⟩
def A_gravity_Composed : Nat → Ty := tyAt [.un, .un, .un, .un, .un, .un, tQ, .un, .un, .un, tQ, .un, .un]
abbrev P_gravity_Composed : List PSh := [.agg (.sl tQ), .agg (.sl tQ)]
abbrev R_gravity_Composed : List PSh := [.agg (.sl tQ), .one tQ]
theorem e_gravity_Composed : cFn Tryd.prog 17 = some F_gravity_Composed.erase := by kernel_rfl
theorem k_gravity_Composed : callable Tryd.prog 17 = true := by kernel_rfl
def F_gravity_ReducedOf : TFn := ⟨35, 5, [.celln 6 2, .tmp 7],
 (.seq (.reg [(oQ 6 (.newz 0 [zQ, zQ])),
 (oQ 7 (.mv (iQ 0)))])
 (.seq (.reg [(oQ 9 (.mv (.t 0))),
 (kQ 10 1 93 [(.t 9), (iQ 1000000)]),
 (oQ 11 (.mv (.t 10))),
 (gQ 12 11 true (.mv (.t 1))),
 ⟨some 13, some (some 11, true), (.call 2 93 [(.t 12), (iQ 10000)])⟩,
 (oQ 14 (.pick (.t 11) (.t 13) (.c (.p (.bool false))))),
 (oQ 15 (.mv (.t 14))),
 (gQ 16 15 true (.mv (.t 2))),
 ⟨some 17, some (some 15, true), (.call 3 94 [(.t 16), (iQ 0), (iQ 1000)])⟩,
 (oQ 18 (.pick (.t 15) (.t 17) (.c (.p (.bool false))))),
 (oQ 8 (.mv (.t 18)))])
 (.seq (.seq (.reg [(oQ 19 (.mv (.t 8))),
 (oQ 20 (.unot (.t 19)))])
 (.cond (.t 20) (.seq (.reg [(oQ 21 (.build [zQ, zQ] [])),
 (uQ (.st 2 (.t 6) (.t 21))),
 (oQ 7 (.mv (iQ 2)))])
 .ret) .skip))
 (.seq (.reg [(oQ 22 (.mv (.t 0))),
 (oQ 23 (.bin .mul (iQ 100000) (.t 22))),
 (oQ 24 (.mv (.t 1))),
 (oQ 25 (.bin .mul (iQ 3086000) (.t 24))),
 (oQ 26 (.bin .add (.t 23) (.t 25))),
 (oQ 27 (.mv (.t 2))),
 (oQ 28 (.bin .mul (iQ 4193) (.t 27))),
 (oQ 29 (.mv (.t 1))),
 (oQ 30 (.bin .mul (.t 28) (.t 29))),
 (oQ 31 (.bin .sub (.t 26) (.t 30))),
 (kQ 32 4 95 [(.t 31), (iQ 100000)]),
 (oQ 33 (.ext 0 (.t 32))),
 (oQ 34 (.ext 1 (.t 32))),
 (uQ (.st 2 (.t 6) (.t 33))),
 (oQ 7 (.mv (.t 34)))])
 .ret))))⟩
def A_gravity_ReducedOf : Nat → Ty := tyAt [.un, .un, .un, .un, .un]
abbrev P_gravity_ReducedOf : List PSh := [.one tQ, .one tQ, .one tQ]
abbrev R_gravity_ReducedOf : List PSh := [.agg pQ, .one tQ]
theorem e_gravity_ReducedOf : cFn Tryd.prog 19 = some F_gravity_ReducedOf.erase := by kernel_rfl
theorem k_gravity_ReducedOf : callable Tryd.prog 19 = true := by kernel_rfl
def F_base_Ints : TFn := ⟨26, 0, [.tmp 4],
 (.seq (.reg [(oQ 4 (.mv (.c (.p (.bool false)))))])
 (.seq (.seq (.reg [(oQ 6 (.mv (.t 0))),
 (oQ 7 (.len false (.t 6))),
 (oQ 8 (.mv (.t 1))),
 (oQ 9 (.len false (.t 8))),
 (oQ 10 (.bin .neq (.t 7) (.t 9)))])
 (.cond (.t 10) (.seq (.reg [(oQ 4 (.mv (.c (.p (.bool false)))))])
 .ret) .skip))
 (.seq (.seq (.reg [(oQ 5 (.mv (iQ 0)))])
 (.block 0 (.loop [.v 5 tQ] [] [] (.seq (.seq (.reg [(oQ 11 (.mv (.t 5))),
 (oQ 12 (.mv (.t 0))),
 (oQ 13 (.len false (.t 12))),
 (oQ 14 (.bin .lss (.t 11) (.t 13)))])
 (.cond (.t 14) .skip (.exit 0)))
 (.seq (.block 1 (.seq (.regd [(oQ 17 (.mv (.t 0))),
 (oQ 18 (.mv (.t 5))),
 (oQ 19 (.ia 1 (.t 17) (.t 18))),
 (oQ 20 (.ld1 (.t 19))),
 (oQ 21 (.mv (.t 1))),
 (oQ 22 (.mv (.t 5))),
 (oQ 23 (.ia 1 (.t 21) (.t 22))),
 (oQ 24 (.ld1 (.t 23))),
 (oQ 25 (.bin .neq (.t 20) (.t 24)))] [(3, 7)] [])
 (.cond (.t 25) (.seq (.reg [(oQ 4 (.mv (.c (.p (.bool false)))))])
 .ret) .skip)))
 (.reg [(oQ 15 (.mv (.t 5))),
 (oQ 16 (.bin .add (.t 15) (iQ 1))),
 (oQ 5 (.mv (.t 16)))]))))))
 (.seq (.reg [(oQ 4 (.mv (.c (.p (.bool true)))))])
 .ret))))⟩
def A_base_Ints : Nat → Ty := tyAt []
abbrev P_base_Ints : List PSh := [.one (.sl tQ), .one (.sl tQ)]
abbrev R_base_Ints : List PSh := [.one .bool]
theorem e_base_Ints : cFn Tryd.prog 22 = some F_base_Ints.erase := by kernel_rfl
theorem k_base_Ints : callable Tryd.prog 22 = true := by kernel_rfl
def F_gravity_CheckHeights : TFn := ⟨24, 2, [.tmp 2, .tmp 3],
 (.seq (.reg [(oQ 2 (.mv (iQ 0))),
 (oQ 3 (.mv (iQ 0)))])
 (.seq (.seq (.reg [(oQ 7 (.mv (.t 0))),
 (oQ 8 (.len false (.t 7))),
 (oQ 9 (.bin .gtr (.t 8) (iQ 64)))])
 (.cond (.t 9) (.seq (.reg [(oQ 2 (.mv (iQ 0))),
 (oQ 3 (.mv (iQ 8)))])
 .ret) .skip))
 (.seq (.seq (.reg [(oQ 10 (.mv (.t 0))),
 (oQ 11 (.len false (.t 10))),
 (oQ 12 (.mv (iQ 0)))])
 (.block 0 (.loop [.v 12 tQ] [0] [0] (.seq (.reg [(oQ 13 (.bin .lss (.t 12) (.t 11)))])
 (.seq (.cond (.t 13) .skip (.exit 0))
 (.seq (.block 1 (.seq (.reg [(oQ 14 (.mv (.t 12))),
 (oQ 15 (.ia 2 (.t 10) (.t 12))),
 (oQ 16 (.ldn 2 (.t 15))),
 (oQ 5 (.newz 0 [zQ, zQ])),
 (oQ 4 (.mv (.t 14))),
 (uQ (.st 2 (.t 5) (.t 16)))])
 (.seq (.reg [(oQ 17 (.ldn 2 (.t 5))),
 (kQ 18 1 98 [(.t 17), (iQ 1000000)]),
 (oQ 6 (.mv (.t 18)))])
 (.seq (.reg [(oQ 19 (.mv (.t 6))),
 (oQ 20 (.bin .neq (.t 19) (iQ 0)))])
 (.cond (.t 20) (.seq (.reg [(oQ 21 (.mv (.t 4))),
 (oQ 22 (.mv (.t 6))),
 (oQ 2 (.mv (.t 21))),
 (oQ 3 (.mv (.t 22)))])
 .ret) .skip)))))
 (.reg [(oQ 23 (.bin .add (.t 12) (iQ 1))),
 (oQ 12 (.mv (.t 23)))])))))))
 (.seq (.reg [(oQ 2 (.mv (iQ 0))),
 (oQ 3 (.mv (iQ 0)))])
 .ret))))⟩
def A_gravity_CheckHeights : Nat → Ty := tyAt [.un, .un]
abbrev P_gravity_CheckHeights : List PSh := [.one (.sl pQ)]
abbrev R_gravity_CheckHeights : List PSh := [.one tQ, .one tQ]
theorem e_gravity_CheckHeights : cFn Tryd.prog 27 = some F_gravity_CheckHeights.erase := by kernel_rfl
theorem k_gravity_CheckHeights : callable Tryd.prog 27 = true := by kernel_rfl
def F_base_CopyInts : TFn := ⟨6, 2, [.tmp 2],
 (.seq (.reg [(oQ 2 (.mv (.c (.p (.sl 0 [] true)))))])
 (.seq (.reg [(oQ 3 (.bsl true 0 1 0 [] [])),
 (oQ 4 (.mv (.t 0))),
 (oQ 5 (.app 1 1 8 (.t 3) (.t 4))),
 (oQ 2 (.mv (.t 5)))])
 .ret))⟩
def A_base_CopyInts : Nat → Ty := tyAt [tQ, tQ]
abbrev P_base_CopyInts : List PSh := [.one (.sl tQ)]
abbrev R_base_CopyInts : List PSh := [.one (.sl tQ)]
abbrev E_base_CopyInts : Ty := tQ
theorem e_base_CopyInts : cFn Tryd.prog 31 = some F_base_CopyInts.erase := by kernel_rfl
theorem k_base_CopyInts : callable Tryd.prog 31 = true := by kernel_rfl
def F_gravity_ResidualsOf : TFn := ⟨66, 15, [.tmp 6, .tmp 7],
 (.seq (.reg [(oQ 3 (.box 0 (.t 0))),
 (oQ 5 (.box 1 (.t 2))),
 (oQ 6 (.mv (.c (.p (.sl 0 [] true))))),
 (oQ 7 (.mv (iQ 0)))])
 (.seq (.regd [(oQ 14 (.ld1 (.t 3))),
 (kQ 15 2 102 [(.t 14)]),
 (oQ 16 (.mv (.t 1))),
 (kQ 17 3 99 [(.t 16)]),
 (oQ 18 (.ld1 (.t 5))),
 (kQ 19 4 94 [(.t 18), (iQ 0), (iQ 1000)]),
 (kQ 20 5 89 [(.t 19), (iQ 2)]),
 (oQ 21 (.ld1 (.t 3))),
 (oQ 22 (.len false (.t 21))),
 (oQ 23 (.mv (.t 1))),
 (oQ 24 (.len false (.t 23))),
 (oQ 25 (.bin .eql (.t 22) (.t 24))),
 (oQ 26 (.mv (.t 25))),
 (gQ 27 26 true (.ld1 (.t 3))),
 (gQ 28 26 true (.len false (.t 27))),
 (gQ 29 26 true (.bin .geq (.t 28) (iQ 3))),
 (oQ 30 (.pick (.t 26) (.t 29) (.c (.p (.bool false))))),
 (kQ 31 6 89 [(.t 30), (iQ 10)]),
 (oQ 32 (.bsl false 7 1 4 [zQ, zQ, zQ, zQ] [(0, 1, (.t 15)), (1, 1, (.t 17)), (2, 1, (.t 20)), (3, 1, (.t 31))])),
 (kQ 33 8 88 [(.t 32)]),
 (oQ 8 (.mv (.t 33)))] [(0, 4), (1, 4), (3, 4), (0, 7), (1, 7), (3, 7), (4, 7), (5, 7), (6, 7)] [])
 (.seq (.seq (.reg [(oQ 34 (.mv (.t 8))),
 (oQ 35 (.bin .neq (.t 34) (iQ 0)))])
 (.cond (.t 35) (.seq (.reg [(oQ 36 (.mv (.t 8))),
 (oQ 6 (.mv (.c (.p (.sl 0 [] true))))),
 (oQ 7 (.mv (.t 36)))])
 .ret) .skip))
 (.seq (.reg [(oQ 9 (.newz 9 [(.p (.sl 0 [] true))]))])
 (.seq (.seq (.reg [(oQ 37 (.mv (.t 1))),
 (kQ 38 10 100 [(.t 37), (iQ 3)])])
 (.block 0 (.rng (.t 38) [39, 40] [39, 40, 10, 11, 41, 42, 43, 12, 44, 45, 46, 47, 48, 13, 49, 50, 51, 52, 53, 54, 55, 56, 57, 58, 59, 60, 61, 62, 63, 64] [.q 9 14 pQ] [9, 12, 14] [12, 14] (.seq (.reg [(oQ 10 (.mv (.t 39)))])
 (.reg [(oQ 11 (.mv (.t 40)))]))
 (.block 1 (.seq (.reg [(oQ 41 (.sla 1 3 (.c (.ipt [(.int .i64 1), (.int .i64 (-2)), (.int .i64 1)])) none none)),
 (oQ 42 (.mv (.t 11))),
 (kQ 43 11 101 [(.t 41), (.t 42)]),
 (oQ 12 (.newz 12 [zQ, zQ])),
 (uQ (.st 2 (.t 12) (.t 43)))])
 (.seq (.reg [(oQ 44 (.ld1 (.t 3))),
 (oQ 45 (.mv (.t 10))),
 (oQ 46 (.bin .add (.t 45) (iQ 1))),
 (oQ 47 (.ia 1 (.t 44) (.t 46))),
 (oQ 48 (.ld1 (.t 47))),
 (oQ 13 (.mv (.t 48)))])
 (.reg [(oQ 49 (.ld1 (.t 9))),
 (oQ 50 (.mv (.t 13))),
 (oQ 51 (.ld1 (.t 5))),
 (oQ 52 (.fa 1 (.t 12))),
 (oQ 53 (.ld1 (.t 52))),
 (oQ 54 (.bin .mul (.t 51) (.t 53))),
 (oQ 55 (.bin .sub (.t 50) (.t 54))),
 (oQ 56 (.mv (.t 13))),
 (oQ 57 (.ld1 (.t 5))),
 (oQ 58 (.fa 0 (.t 12))),
 (oQ 59 (.ld1 (.t 58))),
 (oQ 60 (.bin .mul (.t 57) (.t 59))),
 (oQ 61 (.bin .sub (.t 56) (.t 60))),
 (oQ 62 (.build [zQ, zQ] [(0, 1, (.t 55)), (1, 1, (.t 61))])),
 (oQ 63 (.bsl false 13 2 1 [zQ, zQ] [(0, 2, (.t 62))])),
 (oQ 64 (.app 14 2 16 (.t 49) (.t 63))),
 (uQ (.st 1 (.t 9) (.t 64)))])))))))
 (.seq (.reg [(oQ 65 (.ld1 (.t 9))),
 (oQ 6 (.mv (.t 65))),
 (oQ 7 (.mv (iQ 0)))])
 .ret))))))⟩
def A_gravity_ResidualsOf : Nat → Ty := tyAt [.un, .un, .un, .un, .un, .un, .un, tQ, .un, .un, .un, .un, .un, pQ, pQ]
abbrev P_gravity_ResidualsOf : List PSh := [.one (.sl tQ), .one (.sl pQ), .one tQ]
abbrev R_gravity_ResidualsOf : List PSh := [.one (.sl pQ), .one tQ]
theorem e_gravity_ResidualsOf : cFn Tryd.prog 30 = some F_gravity_ResidualsOf.erase := by kernel_rfl
theorem k_gravity_ResidualsOf : callable Tryd.prog 30 = true := by kernel_rfl
def F_base_Ranges : TFn := ⟨26, 0, [.tmp 4],
 (.seq (.reg [(oQ 4 (.mv (.c (.p (.bool false)))))])
 (.seq (.seq (.reg [(oQ 6 (.mv (.t 0))),
 (oQ 7 (.len false (.t 6))),
 (oQ 8 (.mv (.t 1))),
 (oQ 9 (.len false (.t 8))),
 (oQ 10 (.bin .neq (.t 7) (.t 9)))])
 (.cond (.t 10) (.seq (.reg [(oQ 4 (.mv (.c (.p (.bool false)))))])
 .ret) .skip))
 (.seq (.seq (.reg [(oQ 5 (.mv (iQ 0)))])
 (.block 0 (.loop [.v 5 tQ] [] [] (.seq (.seq (.reg [(oQ 11 (.mv (.t 5))),
 (oQ 12 (.mv (.t 0))),
 (oQ 13 (.len false (.t 12))),
 (oQ 14 (.bin .lss (.t 11) (.t 13)))])
 (.cond (.t 14) .skip (.exit 0)))
 (.seq (.block 1 (.seq (.regd [(oQ 17 (.mv (.t 0))),
 (oQ 18 (.mv (.t 5))),
 (oQ 19 (.ia 2 (.t 17) (.t 18))),
 (oQ 20 (.ldn 2 (.t 19))),
 (oQ 21 (.mv (.t 1))),
 (oQ 22 (.mv (.t 5))),
 (oQ 23 (.ia 2 (.t 21) (.t 22))),
 (oQ 24 (.ldn 2 (.t 23))),
 (oQ 25 (.eqa true 2 [(true, 0), (true, 1)] (.t 20) (.t 24)))] [(3, 7)] [])
 (.cond (.t 25) (.seq (.reg [(oQ 4 (.mv (.c (.p (.bool false)))))])
 .ret) .skip)))
 (.reg [(oQ 15 (.mv (.t 5))),
 (oQ 16 (.bin .add (.t 15) (iQ 1))),
 (oQ 5 (.mv (.t 16)))]))))))
 (.seq (.reg [(oQ 4 (.mv (.c (.p (.bool true)))))])
 .ret))))⟩
def A_base_Ranges : Nat → Ty := tyAt []
abbrev P_base_Ranges : List PSh := [.one (.sl pQ), .one (.sl pQ)]
abbrev R_base_Ranges : List PSh := [.one .bool]
theorem e_base_Ranges : cFn Tryd.prog 33 = some F_base_Ranges.erase := by kernel_rfl
theorem k_base_Ranges : callable Tryd.prog 33 = true := by kernel_rfl
def F_law05_fewTies : TFn := ⟨7, 1, [.tmp 2],
 (.seq (.reg [(oQ 1 (.box 0 (.t 0))),
 (oQ 2 (.mv (.c (.p (.bool false)))))])
 (.seq (.reg [(oQ 3 (.fa 1 (.t 1))),
 (oQ 4 (.ld1 (.t 3))),
 (oQ 5 (.len false (.t 4))),
 (oQ 6 (.bin .leq (.t 5) (iQ 14))),
 (oQ 2 (.mv (.t 6)))])
 .ret))⟩
def A_law05_fewTies : Nat → Ty := tyAt [.un]
abbrev P_law05_fewTies : List PSh := [.agg (.pr tQ (.sl (.pr tQ (.pr tQ pQ))))]
abbrev R_law05_fewTies : List PSh := [.one .bool]
theorem e_law05_fewTies : cFn Tryd.prog 40 = some F_law05_fewTies.erase := by kernel_rfl
theorem k_law05_fewTies : callable Tryd.prog 40 = true := by kernel_rfl
def F_ref05_CopyNet : TFn := ⟨9, 4, [.celln 2 2],
 (.seq (.reg [(oQ 1 (.box 0 (.t 0))),
 (oQ 2 (.newz 1 [zQ, (.p (.sl 0 [] true))]))])
 (.seq (.reg [(oQ 3 (.bsl true 2 4 0 [] [])),
 (oQ 4 (.fa 1 (.t 1))),
 (oQ 5 (.ld1 (.t 4))),
 (oQ 6 (.app 3 4 32 (.t 3) (.t 5))),
 (oQ 7 (.fa 1 (.t 1))),
 (uQ (.st 1 (.t 7) (.t 6)))])
 (.seq (.reg [(oQ 8 (.ldn 2 (.t 1))),
 (uQ (.st 2 (.t 2) (.t 8)))])
 .ret)))⟩
def A_ref05_CopyNet : Nat → Ty := tyAt [.un, .un, (.pr tQ (.pr tQ pQ)), (.pr tQ (.pr tQ pQ))]
abbrev P_ref05_CopyNet : List PSh := [.agg (.pr tQ (.sl (.pr tQ (.pr tQ pQ))))]
abbrev R_ref05_CopyNet : List PSh := [.agg (.pr tQ (.sl (.pr tQ (.pr tQ pQ))))]
theorem e_ref05_CopyNet : cFn Tryd.prog 42 = some F_ref05_CopyNet.erase := by kernel_rfl
theorem k_ref05_CopyNet : callable Tryd.prog 42 = true := by kernel_rfl
def F_gravity_CheckNet : TFn := ⟨63, 14, [.tmp 2, .tmp 3],
 (.seq (.reg [(oQ 1 (.box 0 (.t 0))),
 (oQ 2 (.mv (iQ 0))),
 (oQ 3 (.mv (iQ 0)))])
 (.seq (.seq (.regd [(oQ 9 (.fa 0 (.t 1))),
 (oQ 10 (.ld1 (.t 9))),
 (kQ 11 1 94 [(.t 10), (iQ 1), (iQ 8)]),
 (kQ 12 2 89 [(.t 11), (iQ 2)]),
 (oQ 13 (.fa 1 (.t 1))),
 (oQ 14 (.ld1 (.t 13))),
 (oQ 15 (.len false (.t 14))),
 (oQ 16 (.bin .leq (.t 15) (iQ 12))),
 (kQ 17 3 89 [(.t 16), (iQ 8)]),
 (oQ 18 (.bsl false 4 1 2 [zQ, zQ] [(0, 1, (.t 12)), (1, 1, (.t 17))])),
 (kQ 19 5 88 [(.t 18)]),
 (oQ 4 (.mv (.t 19)))] [(1, 5), (2, 5), (3, 5)] [])
 (.seq (.reg [(oQ 20 (.mv (.t 4))),
 (oQ 21 (.bin .neq (.t 20) (iQ 0)))])
 (.cond (.t 21) (.seq (.reg [(oQ 22 (.mv (.t 4))),
 (oQ 2 (.mv (iQ 0))),
 (oQ 3 (.mv (.t 22)))])
 .ret) .skip)))
 (.seq (.seq (.reg [(oQ 23 (.fa 1 (.t 1))),
 (oQ 24 (.ld1 (.t 23))),
 (oQ 25 (.len false (.t 24))),
 (oQ 26 (.mv (iQ 0)))])
 (.block 0 (.loop [.v 26 tQ] [6] [6] (.seq (.reg [(oQ 27 (.bin .lss (.t 26) (.t 25)))])
 (.seq (.cond (.t 27) .skip (.exit 0))
 (.seq (.block 1 (.seq (.reg [(oQ 28 (.mv (.t 26))),
 (oQ 29 (.ia 4 (.t 24) (.t 26))),
 (oQ 30 (.ldn 4 (.t 29))),
 (oQ 6 (.newz 6 [zQ, zQ, zQ, zQ])),
 (oQ 5 (.mv (.t 28))),
 (uQ (.st 4 (.t 6) (.t 30)))])
 (.seq (.reg [(oQ 31 (.fa 0 (.t 6))),
 (oQ 32 (.ld1 (.t 31))),
 (oQ 33 (.fa 0 (.t 1))),
 (oQ 34 (.ld1 (.t 33))),
 (oQ 35 (.bin .sub (.t 34) (iQ 1))),
 (kQ 36 7 94 [(.t 32), (iQ 0), (.t 35)]),
 (oQ 37 (.mv (.t 36))),
 (gQ 38 37 true (.fa 1 (.t 6))),
 (gQ 39 37 true (.ld1 (.t 38))),
 (gQ 40 37 true (.fa 0 (.t 1))),
 (gQ 41 37 true (.ld1 (.t 40))),
 (gQ 42 37 true (.bin .sub (.t 41) (iQ 1))),
 ⟨some 43, some (some 37, true), (.call 8 94 [(.t 39), (iQ 0), (.t 42)])⟩,
 (oQ 44 (.pick (.t 37) (.t 43) (.c (.p (.bool false))))),
 (oQ 7 (.mv (.t 44)))])
 (.seq (.regd [(oQ 45 (.mv (.t 7))),
 (kQ 46 9 89 [(.t 45), (iQ 6)]),
 (oQ 47 (.fa 0 (.t 6))),
 (oQ 48 (.ld1 (.t 47))),
 (oQ 49 (.fa 1 (.t 6))),
 (oQ 50 (.ld1 (.t 49))),
 (oQ 51 (.bin .neq (.t 48) (.t 50))),
 (kQ 52 10 89 [(.t 51), (iQ 13)]),
 (oQ 53 (.fa 2 (.t 6))),
 (oQ 54 (.ldn 2 (.t 53))),
 (kQ 55 11 98 [(.t 54), (iQ 1000000)]),
 (oQ 56 (.bsl false 12 1 3 [zQ, zQ, zQ] [(0, 1, (.t 46)), (1, 1, (.t 52)), (2, 1, (.t 55))])),
 (kQ 57 13 88 [(.t 56)]),
 (oQ 8 (.mv (.t 57)))] [(1, 3), (1, 5), (3, 5), (1, 9), (3, 9), (5, 9), (7, 9)] [])
 (.seq (.reg [(oQ 58 (.mv (.t 8))),
 (oQ 59 (.bin .neq (.t 58) (iQ 0)))])
 (.cond (.t 59) (.seq (.reg [(oQ 60 (.mv (.t 5))),
 (oQ 61 (.mv (.t 8))),
 (oQ 2 (.mv (.t 60))),
 (oQ 3 (.mv (.t 61)))])
 .ret) .skip))))))
 (.reg [(oQ 62 (.bin .add (.t 26) (iQ 1))),
 (oQ 26 (.mv (.t 62)))])))))))
 (.seq (.reg [(oQ 2 (.mv (iQ 0))),
 (oQ 3 (.mv (iQ 0)))])
 .ret))))⟩
def A_gravity_CheckNet : Nat → Ty := tyAt [.un, .un, .un, .un, tQ, .un, .un, .un, .un, .un, .un, .un, tQ, .un]
abbrev P_gravity_CheckNet : List PSh := [.agg (.pr tQ (.sl (.pr tQ (.pr tQ pQ))))]
abbrev R_gravity_CheckNet : List PSh := [.one tQ, .one tQ]
theorem e_gravity_CheckNet : cFn Tryd.prog 41 = some F_gravity_CheckNet.erase := by kernel_rfl
theorem k_gravity_CheckNet : callable Tryd.prog 41 = true := by kernel_rfl
def F_gravity_ValuesOf : TFn := ⟨27, 3, [.tmp 2, .tmp 3],
 (.seq (.reg [(oQ 1 (.box 0 (.t 0))),
 (oQ 2 (.mv (.c (.p (.sl 0 [] true))))),
 (oQ 3 (.mv (iQ 0)))])
 (.seq (.seq (.reg [(oQ 9 (.ldn 2 (.t 1))),
 (kQ 10 1 41 [(.t 9)]),
 (oQ 8 (.mv (.t 10))),
 (oQ 11 (.ext 0 (.t 8))),
 (oQ 12 (.ext 1 (.t 8))),
 (oQ 4 (.mv (.t 11))),
 (oQ 5 (.mv (.t 12)))])
 (.seq (.reg [(oQ 13 (.mv (.t 5))),
 (oQ 14 (.bin .neq (.t 13) (iQ 0)))])
 (.cond (.t 14) (.seq (.reg [(oQ 15 (.mv (.t 5))),
 (oQ 2 (.mv (.c (.p (.sl 0 [] true))))),
 (oQ 3 (.mv (.t 15)))])
 .ret) .skip)))
 (.seq (.reg [(oQ 17 (.fa 0 (.t 1))),
 (oQ 18 (.ld1 (.t 17))),
 (oQ 19 (.fa 1 (.t 1))),
 (oQ 20 (.ld1 (.t 19))),
 (kQ 21 2 106 [(.t 18), (.t 20)]),
 (oQ 16 (.mv (.t 21))),
 (oQ 22 (.ext 0 (.t 16))),
 (oQ 23 (.ext 1 (.t 16))),
 (oQ 6 (.mv (.t 22))),
 (oQ 7 (.mv (.t 23)))])
 (.seq (.seq (.reg [(oQ 24 (.mv (.t 7))),
 (oQ 25 (.unot (.t 24)))])
 (.cond (.t 25) (.seq (.reg [(oQ 2 (.mv (.c (.p (.sl 0 [] true))))),
 (oQ 3 (.mv (iQ 13)))])
 .ret) .skip))
 (.seq (.reg [(oQ 26 (.mv (.t 6))),
 (oQ 2 (.mv (.t 26))),
 (oQ 3 (.mv (iQ 0)))])
 .ret)))))⟩
def A_gravity_ValuesOf : Nat → Ty := tyAt [.un, .un, .un]
abbrev P_gravity_ValuesOf : List PSh := [.agg (.pr tQ (.sl (.pr tQ (.pr tQ pQ))))]
abbrev R_gravity_ValuesOf : List PSh := [.one (.sl tQ), .one tQ]
theorem e_gravity_ValuesOf : cFn Tryd.prog 43 = some F_gravity_ValuesOf.erase := by kernel_rfl
theorem k_gravity_ValuesOf : callable Tryd.prog 43 = true := by kernel_rfl
def F_ref05_CheckNet : TFn := ⟨53, 6, [.tmp 2, .tmp 3],
 (.seq (.reg [(oQ 1 (.box 0 (.t 0))),
 (oQ 2 (.mv (iQ 0))),
 (oQ 3 (.mv (iQ 0)))])
 (.seq (.seq (.reg [(oQ 7 (.fa 0 (.t 1))),
 (oQ 8 (.ld1 (.t 7))),
 (kQ 9 1 60 [(.t 8), (iQ 1), (iQ 8)]),
 (oQ 10 (.unot (.t 9)))])
 (.cond (.t 10) (.seq (.reg [(oQ 2 (.mv (iQ 0))),
 (oQ 3 (.mv (iQ 2)))])
 .ret) .skip))
 (.seq (.seq (.reg [(oQ 11 (.fa 1 (.t 1))),
 (oQ 12 (.ld1 (.t 11))),
 (oQ 13 (.len false (.t 12))),
 (oQ 14 (.bin .gtr (.t 13) (iQ 12)))])
 (.cond (.t 14) (.seq (.reg [(oQ 2 (.mv (iQ 0))),
 (oQ 3 (.mv (iQ 8)))])
 .ret) .skip))
 (.seq (.seq (.reg [(oQ 4 (.mv (iQ 0)))])
 (.block 0 (.loop [.v 4 tQ] [2] [2] (.seq (.seq (.reg [(oQ 15 (.mv (.t 4))),
 (oQ 16 (.fa 1 (.t 1))),
 (oQ 17 (.ld1 (.t 16))),
 (oQ 18 (.len false (.t 17))),
 (oQ 19 (.bin .lss (.t 15) (.t 18)))])
 (.cond (.t 19) .skip (.exit 0)))
 (.seq (.block 1 (.seq (.reg [(oQ 22 (.fa 1 (.t 1))),
 (oQ 23 (.ld1 (.t 22))),
 (oQ 24 (.mv (.t 4))),
 (oQ 25 (.ia 4 (.t 23) (.t 24))),
 (oQ 26 (.ldn 4 (.t 25))),
 (oQ 5 (.newz 2 [zQ, zQ, zQ, zQ])),
 (uQ (.st 4 (.t 5) (.t 26)))])
 (.seq (.seq (.reg [(oQ 27 (.ldn 2 (.t 1))),
 (oQ 28 (.fa 0 (.t 5))),
 (oQ 29 (.ld1 (.t 28))),
 (kQ 30 3 83 [(.t 27), (.t 29)]),
 (oQ 31 (.bin .neq (.t 30) (iQ 0))),
 (oQ 32 (.mv (.t 31))),
 (gQ 33 32 false (.ldn 2 (.t 1))),
 (gQ 34 32 false (.fa 1 (.t 5))),
 (gQ 35 32 false (.ld1 (.t 34))),
 ⟨some 36, some (some 32, false), (.call 4 83 [(.t 33), (.t 35)])⟩,
 (gQ 37 32 false (.bin .neq (.t 36) (iQ 0))),
 (oQ 38 (.pick (.t 32) (.c (.p (.bool true))) (.t 37)))])
 (.cond (.t 38) (.seq (.reg [(oQ 39 (.mv (.t 4))),
 (oQ 2 (.mv (.t 39))),
 (oQ 3 (.mv (iQ 6)))])
 .ret) .skip))
 (.seq (.seq (.reg [(oQ 40 (.fa 0 (.t 5))),
 (oQ 41 (.ld1 (.t 40))),
 (oQ 42 (.fa 1 (.t 5))),
 (oQ 43 (.ld1 (.t 42))),
 (oQ 44 (.bin .eql (.t 41) (.t 43)))])
 (.cond (.t 44) (.seq (.reg [(oQ 45 (.mv (.t 4))),
 (oQ 2 (.mv (.t 45))),
 (oQ 3 (.mv (iQ 13)))])
 .ret) .skip))
 (.seq (.reg [(oQ 46 (.fa 2 (.t 5))),
 (oQ 47 (.ldn 2 (.t 46))),
 (kQ 48 5 103 [(.t 47), (iQ 1000000)]),
 (oQ 6 (.mv (.t 48)))])
 (.seq (.reg [(oQ 49 (.mv (.t 6))),
 (oQ 50 (.bin .neq (.t 49) (iQ 0)))])
 (.cond (.t 50) (.seq (.reg [(oQ 51 (.mv (.t 4))),
 (oQ 52 (.mv (.t 6))),
 (oQ 2 (.mv (.t 51))),
 (oQ 3 (.mv (.t 52)))])
 .ret) .skip)))))))
 (.reg [(oQ 20 (.mv (.t 4))),
 (oQ 21 (.bin .add (.t 20) (iQ 1))),
 (oQ 4 (.mv (.t 21)))]))))))
 (.seq (.reg [(oQ 2 (.mv (iQ 0))),
 (oQ 3 (.mv (iQ 0)))])
 .ret)))))⟩
def A_ref05_CheckNet : Nat → Ty := tyAt [.un, .un, .un, .un, .un, .un]
abbrev P_ref05_CheckNet : List PSh := [.agg (.pr tQ (.sl (.pr tQ (.pr tQ pQ))))]
abbrev R_ref05_CheckNet : List PSh := [.one tQ, .one tQ]
theorem e_ref05_CheckNet : cFn Tryd.prog 45 = some F_ref05_CheckNet.erase := by kernel_rfl
theorem k_ref05_CheckNet : callable Tryd.prog 45 = true := by kernel_rfl
def F_gravity_CheckVisits : TFn := ⟨57, 11, [.tmp 2, .tmp 3],
 (.seq (.reg [(oQ 2 (.mv (iQ 0))),
 (oQ 3 (.mv (iQ 0)))])
 (.seq (.seq (.reg [(oQ 8 (.mv (.t 0))),
 (oQ 9 (.len false (.t 8))),
 (oQ 10 (.bin .geq (.t 9) (iQ 2))),
 (kQ 11 0 89 [(.t 10), (iQ 10)]),
 (oQ 12 (.mv (.t 0))),
 (oQ 13 (.len false (.t 12))),
 (oQ 14 (.bin .leq (.t 13) (iQ 10))),
 (kQ 15 1 89 [(.t 14), (iQ 8)]),
 (oQ 16 (.bsl false 2 1 2 [zQ, zQ] [(0, 1, (.t 11)), (1, 1, (.t 15))])),
 (kQ 17 3 88 [(.t 16)]),
 (oQ 4 (.mv (.t 17)))])
 (.seq (.reg [(oQ 18 (.mv (.t 4))),
 (oQ 19 (.bin .neq (.t 18) (iQ 0)))])
 (.cond (.t 19) (.seq (.reg [(oQ 20 (.mv (.t 4))),
 (oQ 2 (.mv (iQ 0))),
 (oQ 3 (.mv (.t 20)))])
 .ret) .skip)))
 (.seq (.seq (.reg [(oQ 21 (.mv (.t 0))),
 (oQ 22 (.len false (.t 21))),
 (oQ 23 (.mv (iQ 0)))])
 (.block 0 (.loop [.v 23 tQ] [4] [4] (.seq (.reg [(oQ 24 (.bin .lss (.t 23) (.t 22)))])
 (.seq (.cond (.t 24) .skip (.exit 0))
 (.seq (.block 1 (.seq (.reg [(oQ 25 (.mv (.t 23))),
 (oQ 26 (.ia 3 (.t 21) (.t 23))),
 (oQ 27 (.ldn 3 (.t 26))),
 (oQ 6 (.newz 4 [zQ, zQ, zQ])),
 (oQ 5 (.mv (.t 25))),
 (uQ (.st 3 (.t 6) (.t 27)))])
 (.seq (.regd [(oQ 28 (.fa 0 (.t 6))),
 (oQ 29 (.ld1 (.t 28))),
 (kQ 30 5 94 [(.t 29), (iQ 0), (iQ 1000000)]),
 (kQ 31 6 89 [(.t 30), (iQ 2)]),
 (oQ 32 (.fa 1 (.t 6))),
 (oQ 33 (.ldn 2 (.t 32))),
 (kQ 34 7 98 [(.t 33), (iQ 1000000)]),
 (oQ 35 (.mv (.t 5))),
 (oQ 36 (.bin .eql (.t 35) (iQ 0))),
 (oQ 37 (.mv (.t 36))),
 (gQ 38 37 false (.fa 0 (.t 6))),
 (gQ 39 37 false (.ld1 (.t 38))),
 (gQ 40 37 false (.mv (.t 0))),
 (gQ 41 37 false (.mv (.t 5))),
 (gQ 42 37 false (.bin .sub (.t 41) (iQ 1))),
 (gQ 43 37 false (.mm true (iQ 0) (.t 42))),
 (gQ 44 37 false (.ia 3 (.t 40) (.t 43))),
 (gQ 45 37 false (.fa 0 (.t 44))),
 (gQ 46 37 false (.ld1 (.t 45))),
 (gQ 47 37 false (.bin .gtr (.t 39) (.t 46))),
 (oQ 48 (.pick (.t 37) (.c (.p (.bool true))) (.t 47))),
 (kQ 49 8 89 [(.t 48), (iQ 9)]),
 (oQ 50 (.bsl false 9 1 3 [zQ, zQ, zQ] [(0, 1, (.t 31)), (1, 1, (.t 34)), (2, 1, (.t 49))])),
 (kQ 51 10 88 [(.t 50)]),
 (oQ 7 (.mv (.t 51)))] [(1, 5), (2, 5), (3, 5), (11, 18)] [])
 (.seq (.reg [(oQ 52 (.mv (.t 7))),
 (oQ 53 (.bin .neq (.t 52) (iQ 0)))])
 (.cond (.t 53) (.seq (.reg [(oQ 54 (.mv (.t 5))),
 (oQ 55 (.mv (.t 7))),
 (oQ 2 (.mv (.t 54))),
 (oQ 3 (.mv (.t 55)))])
 .ret) .skip)))))
 (.reg [(oQ 56 (.bin .add (.t 23) (iQ 1))),
 (oQ 23 (.mv (.t 56)))])))))))
 (.seq (.reg [(oQ 2 (.mv (iQ 0))),
 (oQ 3 (.mv (iQ 0)))])
 .ret))))⟩
def A_gravity_CheckVisits : Nat → Ty := tyAt [.un, .un, tQ, .un, .un, .un, .un, .un, .un, tQ, .un]
abbrev P_gravity_CheckVisits : List PSh := [.one (.sl (.pr tQ pQ))]
abbrev R_gravity_CheckVisits : List PSh := [.one tQ, .one tQ]
theorem e_gravity_CheckVisits : cFn Tryd.prog 48 = some F_gravity_CheckVisits.erase := by kernel_rfl
theorem k_gravity_CheckVisits : callable Tryd.prog 48 = true := by kernel_rfl
def F_gravity_RateOf : TFn := ⟨32, 6, [.celln 2 4, .tmp 3],
 (.seq (.reg [(oQ 2 (.newz 0 [zQ, zQ, zQ, zQ])),
 (oQ 3 (.mv (iQ 0)))])
 (.seq (.seq (.reg [(oQ 8 (.mv (.t 0))),
 (kQ 9 1 48 [(.t 8)]),
 (oQ 7 (.mv (.t 9))),
 (oQ 10 (.ext 0 (.t 7))),
 (oQ 11 (.ext 1 (.t 7))),
 (oQ 4 (.mv (.t 10))),
 (oQ 5 (.mv (.t 11)))])
 (.seq (.reg [(oQ 12 (.mv (.t 5))),
 (oQ 13 (.bin .neq (.t 12) (iQ 0)))])
 (.cond (.t 13) (.seq (.reg [(oQ 14 (.build [zQ, zQ, zQ, zQ] [])),
 (oQ 15 (.mv (.t 5))),
 (uQ (.st 4 (.t 2) (.t 14))),
 (oQ 3 (.mv (.t 15)))])
 .ret) .skip)))
 (.seq (.reg [(oQ 16 (.mv (.t 0))),
 (kQ 17 2 111 [(.t 16)]),
 (oQ 6 (.newz 3 [zQ, zQ, zQ, zQ])),
 (uQ (.st 4 (.t 6) (.t 17)))])
 (.seq (.seq (.reg [(oQ 18 (.fa 0 (.t 6))),
 (oQ 19 (.ldn 2 (.t 18))),
 (oQ 20 (.fa 2 (.t 6))),
 (oQ 21 (.ldn 2 (.t 20))),
 (kQ 22 4 112 [(.t 19), (.t 21)]),
 (oQ 23 (.bin .gtr (.t 22) (iQ 0)))])
 (.cond (.t 23) (.seq (.reg [(oQ 24 (.build [zQ, zQ, zQ, zQ] [])),
 (uQ (.st 4 (.t 2) (.t 24))),
 (oQ 3 (.mv (iQ 13)))])
 .ret) .skip))
 (.seq (.reg [(oQ 25 (.fa 0 (.t 6))),
 (oQ 26 (.ldn 2 (.t 25))),
 (oQ 27 (.fa 2 (.t 6))),
 (oQ 28 (.ldn 2 (.t 27))),
 (kQ 29 5 113 [(.t 26), (.t 28)]),
 (oQ 30 (.ext 0 (.t 29))),
 (oQ 31 (.ext 1 (.t 29))),
 (uQ (.st 4 (.t 2) (.t 30))),
 (oQ 3 (.mv (.t 31)))])
 .ret)))))⟩
def A_gravity_RateOf : Nat → Ty := tyAt [.un, .un, .un, .un, .un, .un]
abbrev P_gravity_RateOf : List PSh := [.one (.sl (.pr tQ pQ))]
abbrev R_gravity_RateOf : List PSh := [.agg (.pr pQ pQ), .one tQ]
theorem e_gravity_RateOf : cFn Tryd.prog 50 = some F_gravity_RateOf.erase := by kernel_rfl
theorem k_gravity_RateOf : callable Tryd.prog 50 = true := by kernel_rfl
def F_base_Within : TFn := ⟨15, 0, [.tmp 6],
 (.seq (.reg [(oQ 6 (.mv (.c (.p (.bool false)))))])
 (.seq (.reg [(oQ 7 (.mv (.t 1))),
 (oQ 8 (.mv (.t 0))),
 (oQ 9 (.bin .leq (.t 7) (.t 8))),
 (oQ 10 (.mv (.t 9))),
 (gQ 11 10 true (.mv (.t 0))),
 (gQ 12 10 true (.mv (.t 2))),
 (gQ 13 10 true (.bin .leq (.t 11) (.t 12))),
 (oQ 14 (.pick (.t 10) (.t 13) (.c (.p (.bool false))))),
 (oQ 6 (.mv (.t 14)))])
 .ret))⟩
def A_base_Within : Nat → Ty := tyAt []
abbrev P_base_Within : List PSh := [.one tQ, .one tQ, .one tQ]
abbrev R_base_Within : List PSh := [.one .bool]
theorem e_base_Within : cFn Tryd.prog 60 = some F_base_Within.erase := by kernel_rfl
theorem k_base_Within : callable Tryd.prog 60 = true := by kernel_rfl
def F_gravity_CheckFilter : TFn := ⟨30, 9, [.tmp 2],
 (.seq (.reg [(oQ 1 (.box 0 (.t 0))),
 (oQ 2 (.mv (iQ 0)))])
 (.seq (.reg [(oQ 5 (.fa 0 (.t 1))),
 (oQ 6 (.ld1 (.t 5))),
 (kQ 7 1 91 [(.t 6), (.c (.clo 121 []))]),
 (oQ 3 (.mv (.t 7)))])
 (.seq (.regd [(oQ 8 (.fa 0 (.t 1))),
 (oQ 9 (.ld1 (.t 8))),
 (oQ 10 (.len false (.t 9))),
 (oQ 11 (.bin .gtr (.t 10) (iQ 0))),
 (kQ 12 2 89 [(.t 11), (iQ 10)]),
 (oQ 13 (.fa 0 (.t 1))),
 (oQ 14 (.ld1 (.t 13))),
 (oQ 15 (.len false (.t 14))),
 (oQ 16 (.bin .leq (.t 15) (iQ 9))),
 (kQ 17 3 89 [(.t 16), (iQ 8)]),
 (oQ 18 (.mv (.t 3))),
 (oQ 19 (.unot (.t 18))),
 (kQ 20 4 89 [(.t 19), (iQ 2)]),
 (oQ 21 (.bsl false 5 1 3 [zQ, zQ, zQ] [(0, 1, (.t 12)), (1, 1, (.t 17)), (2, 1, (.t 20))])),
 (kQ 22 6 88 [(.t 21)]),
 (oQ 4 (.mv (.t 22)))] [(1, 6), (4, 6)] [])
 (.seq (.seq (.reg [(oQ 23 (.mv (.t 4))),
 (oQ 24 (.bin .neq (.t 23) (iQ 0)))])
 (.cond (.t 24) (.seq (.reg [(oQ 25 (.mv (.t 4))),
 (oQ 2 (.mv (.t 25)))])
 .ret) .skip))
 (.seq (.reg [(oQ 26 (.ldn 1 (.t 1))),
 (kQ 27 7 116 [(.t 26)]),
 (oQ 28 (.bin .gtr (.t 27) (iQ 0))),
 (kQ 29 8 89 [(.t 28), (iQ 11)]),
 (oQ 2 (.mv (.t 29)))])
 .ret)))))⟩
def A_gravity_CheckFilter : Nat → Ty := tyAt [.un, .un, .un, .un, .un, tQ, .un, .un, .un]
abbrev P_gravity_CheckFilter : List PSh := [.agg (.sl tQ)]
abbrev R_gravity_CheckFilter : List PSh := [.one tQ]
theorem e_gravity_CheckFilter : cFn Tryd.prog 75 = some F_gravity_CheckFilter.erase := by kernel_rfl
theorem k_gravity_CheckFilter : callable Tryd.prog 75 = true := by kernel_rfl
def F_gravity_SpanOf : TFn := ⟨75, 11, [.celln 6 2, .tmp 7],
 (.seq (.reg [(oQ 3 (.box 0 (.t 0))),
 (oQ 6 (.newz 1 [zQ, zQ])),
 (oQ 7 (.mv (iQ 0)))])
 (.seq (.reg [(oQ 18 (.ldn 2 (.t 3))),
 (kQ 19 2 41 [(.t 18)]),
 (oQ 17 (.mv (.t 19))),
 (oQ 20 (.ext 0 (.t 17))),
 (oQ 21 (.ext 1 (.t 17))),
 (oQ 8 (.mv (.t 20))),
 (oQ 9 (.mv (.t 21)))])
 (.seq (.reg [(oQ 22 (.clo 122 [(.t 3)])),
 (oQ 10 (.mv (.t 22)))])
 (.seq (.seq (.reg [(oQ 23 (.mv (.t 9))),
 (oQ 24 (.mv (.t 10))),
 (oQ 25 (.mv (.t 1))),
 ⟨some 26, none, (.callv 3 (.t 24) [(.t 25)])⟩,
 (oQ 27 (.mv (.t 26))),
 (gQ 28 27 true (.mv (.t 10))),
 (gQ 29 27 true (.mv (.t 2))),
 ⟨some 30, some (some 27, true), (.callv 4 (.t 28) [(.t 29)])⟩,
 (oQ 31 (.pick (.t 27) (.t 30) (.c (.p (.bool false))))),
 (kQ 32 5 89 [(.t 31), (iQ 6)]),
 (oQ 33 (.bsl false 6 1 2 [zQ, zQ] [(0, 1, (.t 23)), (1, 1, (.t 32))])),
 (kQ 34 7 88 [(.t 33)]),
 (oQ 9 (.mv (.t 34)))])
 (.seq (.reg [(oQ 35 (.mv (.t 9))),
 (oQ 36 (.bin .neq (.t 35) (iQ 0)))])
 (.cond (.t 36) (.seq (.reg [(oQ 37 (.build [zQ, zQ] [])),
 (oQ 38 (.mv (.t 9))),
 (uQ (.st 2 (.t 6) (.t 37))),
 (oQ 7 (.mv (.t 38)))])
 .ret) .skip)))
 (.seq (.seq (.reg [(oQ 40 (.fa 0 (.t 3))),
 (oQ 41 (.ld1 (.t 40))),
 (oQ 42 (.fa 1 (.t 3))),
 (oQ 43 (.ld1 (.t 42))),
 (kQ 44 8 106 [(.t 41), (.t 43)]),
 (oQ 39 (.mv (.t 44))),
 (oQ 45 (.ext 0 (.t 39))),
 (oQ 46 (.ext 1 (.t 39))),
 (oQ 11 (.mv (.t 45))),
 (oQ 12 (.mv (.t 46)))])
 (.seq (.reg [(oQ 47 (.mv (.t 12))),
 (oQ 48 (.unot (.t 47)))])
 (.cond (.t 48) (.seq (.reg [(oQ 49 (.build [zQ, zQ] [])),
 (uQ (.st 2 (.t 6) (.t 49))),
 (oQ 7 (.mv (iQ 13)))])
 .ret) .skip)))
 (.seq (.reg [(oQ 51 (.ldn 2 (.t 3))),
 (oQ 52 (.mv (.t 1))),
 (oQ 53 (.mv (.t 2))),
 (kQ 54 9 123 [(.t 51), (.t 52), (.t 53)]),
 (oQ 50 (.mv (.t 54))),
 (oQ 55 (.ext 0 (.t 50))),
 (oQ 56 (.ext 1 (.t 50))),
 (oQ 13 (.mv (.t 55))),
 (oQ 14 (.mv (.t 56)))])
 (.seq (.reg [(oQ 58 (.ldn 2 (.t 3))),
 (oQ 59 (.mv (.t 2))),
 (oQ 60 (.mv (.t 1))),
 (kQ 61 10 123 [(.t 58), (.t 59), (.t 60)]),
 (oQ 57 (.mv (.t 61))),
 (oQ 62 (.ext 0 (.t 57))),
 (oQ 63 (.ext 1 (.t 57))),
 (oQ 15 (.mv (.t 62))),
 (oQ 16 (.mv (.t 63)))])
 (.seq (.seq (.reg [(oQ 64 (.mv (.t 14))),
 (oQ 65 (.unot (.t 64))),
 (oQ 66 (.mv (.t 65))),
 (gQ 67 66 false (.mv (.t 16))),
 (gQ 68 66 false (.unot (.t 67))),
 (oQ 69 (.pick (.t 66) (.c (.p (.bool true))) (.t 68)))])
 (.cond (.t 69) (.seq (.reg [(oQ 70 (.build [zQ, zQ] [])),
 (uQ (.st 2 (.t 6) (.t 70))),
 (oQ 7 (.mv (iQ 21)))])
 .ret) .skip))
 (.seq (.reg [(oQ 71 (.mv (.t 15))),
 (oQ 72 (.uneg (.t 71))),
 (oQ 73 (.mv (.t 13))),
 (oQ 74 (.build [zQ, zQ] [(0, 1, (.t 72)), (1, 1, (.t 73))])),
 (uQ (.st 2 (.t 6) (.t 74))),
 (oQ 7 (.mv (iQ 0)))])
 .ret)))))))))⟩
def A_gravity_SpanOf : Nat → Ty := tyAt [.un, .un, .un, .un, .un, .un, tQ, .un, .un, .un, .un]
abbrev P_gravity_SpanOf : List PSh := [.agg (.pr tQ (.sl (.pr tQ (.pr tQ pQ)))), .one tQ, .one tQ]
abbrev R_gravity_SpanOf : List PSh := [.agg pQ, .one tQ]
theorem e_gravity_SpanOf : cFn Tryd.prog 79 = some F_gravity_SpanOf.erase := by kernel_rfl
theorem k_gravity_SpanOf : callable Tryd.prog 79 = true := by kernel_rfl
def F_gravity_ClashOf : TFn := ⟨45, 5, [.tmp 2, .tmp 3],
 (.seq (.reg [(oQ 1 (.box 0 (.t 0))),
 (oQ 2 (.mv (.c (.p (.sl 0 [] true))))),
 (oQ 3 (.mv (iQ 0)))])
 (.seq (.seq (.reg [(oQ 12 (.ldn 2 (.t 1))),
 (kQ 13 1 41 [(.t 12)]),
 (oQ 11 (.mv (.t 13))),
 (oQ 14 (.ext 0 (.t 11))),
 (oQ 15 (.ext 1 (.t 11))),
 (oQ 4 (.mv (.t 14))),
 (oQ 5 (.mv (.t 15)))])
 (.seq (.reg [(oQ 16 (.mv (.t 5))),
 (oQ 17 (.bin .neq (.t 16) (iQ 0)))])
 (.cond (.t 17) (.seq (.reg [(oQ 18 (.mv (.t 5))),
 (oQ 2 (.mv (.c (.p (.sl 0 [] true))))),
 (oQ 3 (.mv (.t 18)))])
 .ret) .skip)))
 (.seq (.seq (.reg [(oQ 20 (.fa 0 (.t 1))),
 (oQ 21 (.ld1 (.t 20))),
 (oQ 22 (.fa 1 (.t 1))),
 (oQ 23 (.ld1 (.t 22))),
 (kQ 24 2 106 [(.t 21), (.t 23)]),
 (oQ 19 (.mv (.t 24))),
 (oQ 25 (.ext 0 (.t 19))),
 (oQ 26 (.ext 1 (.t 19))),
 (oQ 6 (.mv (.t 25))),
 (oQ 7 (.mv (.t 26)))])
 (.seq (.reg [(oQ 27 (.mv (.t 7)))])
 (.cond (.t 27) (.seq (.reg [(oQ 2 (.mv (.c (.p (.sl 0 [] true))))),
 (oQ 3 (.mv (iQ 12)))])
 .ret) .skip)))
 (.seq (.seq (.reg [(oQ 28 (.fa 1 (.t 1))),
 (oQ 29 (.ld1 (.t 28))),
 (oQ 30 (.len false (.t 29))),
 (oQ 31 (.bin .add (.t 30) (iQ 1))),
 (oQ 32 (.mv (iQ 0)))])
 (.block 0 (.loop [.v 32 tQ] [] [] (.seq (.reg [(oQ 33 (.bin .lss (.t 32) (.t 31)))])
 (.seq (.cond (.t 33) .skip (.exit 0))
 (.seq (.block 1 (.seq (.reg [(oQ 34 (.mv (.t 32))),
 (oQ 8 (.mv (.t 34)))])
 (.seq (.reg [(oQ 36 (.ldn 2 (.t 1))),
 (oQ 37 (.mv (.t 8))),
 (kQ 38 3 124 [(.t 36), (.c (.p (.sl 0 [] true))), (iQ 0), (.t 37)]),
 (oQ 35 (.mv (.t 38))),
 (oQ 39 (.ext 0 (.t 35))),
 (oQ 40 (.ext 1 (.t 35))),
 (oQ 9 (.mv (.t 39))),
 (oQ 10 (.mv (.t 40)))])
 (.seq (.reg [(oQ 41 (.mv (.t 10)))])
 (.cond (.t 41) (.seq (.reg [(oQ 42 (.mv (.t 9))),
 (kQ 43 4 125 [(.t 42)]),
 (oQ 2 (.mv (.t 43))),
 (oQ 3 (.mv (iQ 0)))])
 .ret) .skip)))))
 (.reg [(oQ 44 (.bin .add (.t 32) (iQ 1))),
 (oQ 32 (.mv (.t 44)))])))))))
 (.seq (.reg [(oQ 2 (.mv (.c (.p (.sl 0 [] true))))),
 (oQ 3 (.mv (iQ 12)))])
 .ret)))))⟩
def A_gravity_ClashOf : Nat → Ty := tyAt [.un, .un, .un, .un, .un]
abbrev P_gravity_ClashOf : List PSh := [.agg (.pr tQ (.sl (.pr tQ (.pr tQ pQ))))]
abbrev R_gravity_ClashOf : List PSh := [.one (.sl tQ), .one tQ]
theorem e_gravity_ClashOf : cFn Tryd.prog 80 = some F_gravity_ClashOf.erase := by kernel_rfl
theorem k_gravity_ClashOf : callable Tryd.prog 80 = true := by kernel_rfl
def F_ref05_NetErr : TFn := ⟨11, 2, [.tmp 2],
 (.seq (.reg [(oQ 1 (.box 0 (.t 0))),
 (oQ 2 (.mv (iQ 0)))])
 (.seq (.reg [(oQ 6 (.ldn 2 (.t 1))),
 (kQ 7 1 45 [(.t 6)]),
 (oQ 5 (.mv (.t 7))),
 (oQ 8 (.ext 0 (.t 5))),
 (oQ 9 (.ext 1 (.t 5))),
 (oQ 3 (.mv (.t 8))),
 (oQ 4 (.mv (.t 9)))])
 (.seq (.reg [(oQ 10 (.mv (.t 4))),
 (oQ 2 (.mv (.t 10)))])
 .ret)))⟩
def A_ref05_NetErr : Nat → Ty := tyAt [.un, .un]
abbrev P_ref05_NetErr : List PSh := [.agg (.pr tQ (.sl (.pr tQ (.pr tQ pQ))))]
abbrev R_ref05_NetErr : List PSh := [.one tQ]
theorem e_ref05_NetErr : cFn Tryd.prog 81 = some F_ref05_NetErr.erase := by kernel_rfl
theorem k_ref05_NetErr : callable Tryd.prog 81 = true := by kernel_rfl
def F_ref05_Clash : TFn := ⟨22, 2, [.tmp 2, .tmp 3],
 (.seq (.reg [(oQ 1 (.box 0 (.t 0))),
 (oQ 2 (.mv (.c (.p (.sl 0 [] true))))),
 (oQ 3 (.mv (.c (.p (.bool false)))))])
 (.seq (.seq (.reg [(oQ 4 (.mv (iQ 1)))])
 (.block 0 (.loop [.v 4 tQ] [] [] (.seq (.seq (.reg [(oQ 7 (.mv (.t 4))),
 (oQ 8 (.fa 1 (.t 1))),
 (oQ 9 (.ld1 (.t 8))),
 (oQ 10 (.len false (.t 9))),
 (oQ 11 (.bin .leq (.t 7) (.t 10)))])
 (.cond (.t 11) .skip (.exit 0)))
 (.seq (.block 1 (.seq (.reg [(oQ 15 (.ldn 2 (.t 1))),
 (oQ 16 (.mv (.t 4))),
 (kQ 17 1 126 [(.t 15), (.c (.p (.sl 0 [] true))), (.t 16)]),
 (oQ 14 (.mv (.t 17))),
 (oQ 18 (.ext 0 (.t 14))),
 (oQ 19 (.ext 1 (.t 14))),
 (oQ 5 (.mv (.t 18))),
 (oQ 6 (.mv (.t 19)))])
 (.seq (.reg [(oQ 20 (.mv (.t 6)))])
 (.cond (.t 20) (.seq (.reg [(oQ 21 (.mv (.t 5))),
 (oQ 2 (.mv (.t 21))),
 (oQ 3 (.mv (.c (.p (.bool true)))))])
 .ret) .skip))))
 (.reg [(oQ 12 (.mv (.t 4))),
 (oQ 13 (.bin .add (.t 12) (iQ 1))),
 (oQ 4 (.mv (.t 13)))]))))))
 (.seq (.reg [(oQ 2 (.mv (.c (.p (.sl 0 [] true))))),
 (oQ 3 (.mv (.c (.p (.bool false)))))])
 .ret)))⟩
def A_ref05_Clash : Nat → Ty := tyAt [.un, .un]
abbrev P_ref05_Clash : List PSh := [.agg (.pr tQ (.sl (.pr tQ (.pr tQ pQ))))]
abbrev R_ref05_Clash : List PSh := [.one (.sl tQ), .one .bool]
theorem e_ref05_Clash : cFn Tryd.prog 82 = some F_ref05_Clash.erase := by kernel_rfl
theorem k_ref05_Clash : callable Tryd.prog 82 = true := by kernel_rfl
def F_ref05_StationErr : TFn := ⟨11, 2, [.tmp 4],
 (.seq (.reg [(oQ 2 (.box 0 (.t 0))),
 (oQ 4 (.mv (iQ 0)))])
 (.seq (.seq (.reg [(oQ 5 (.mv (.t 1))),
 (oQ 6 (.fa 0 (.t 2))),
 (oQ 7 (.ld1 (.t 6))),
 (oQ 8 (.bin .sub (.t 7) (iQ 1))),
 (kQ 9 1 60 [(.t 5), (iQ 0), (.t 8)]),
 (oQ 10 (.unot (.t 9)))])
 (.cond (.t 10) (.seq (.reg [(oQ 4 (.mv (iQ 6)))])
 .ret) .skip))
 (.seq (.reg [(oQ 4 (.mv (iQ 0)))])
 .ret)))⟩
def A_ref05_StationErr : Nat → Ty := tyAt [.un, .un]
abbrev P_ref05_StationErr : List PSh := [.agg (.pr tQ (.sl (.pr tQ (.pr tQ pQ)))), .one tQ]
abbrev R_ref05_StationErr : List PSh := [.one tQ]
theorem e_ref05_StationErr : cFn Tryd.prog 83 = some F_ref05_StationErr.erase := by kernel_rfl
theorem k_ref05_StationErr : callable Tryd.prog 83 = true := by kernel_rfl
def F_ref05_SpanOf : TFn := ⟨43, 6, [.celln 6 2, .tmp 7],
 (.seq (.reg [(oQ 3 (.box 0 (.t 0))),
 (oQ 6 (.newz 1 [zQ, zQ])),
 (oQ 7 (.mv (iQ 0)))])
 (.seq (.seq (.regd [(oQ 12 (.ldn 2 (.t 3))),
 (oQ 13 (.ldn 2 (.t 3))),
 (kQ 14 2 110 [(.t 13)]),
 (kQ 15 3 127 [(.t 12), (.t 14)]),
 (oQ 16 (.unot (.t 15)))] [(0, 1), (0, 2)] [])
 (.cond (.t 16) (.seq (.reg [(oQ 17 (.build [zQ, zQ] [])),
 (uQ (.st 2 (.t 6) (.t 17))),
 (oQ 7 (.mv (iQ 13)))])
 .ret) .skip))
 (.seq (.reg [(oQ 19 (.ldn 2 (.t 3))),
 (oQ 20 (.mv (.t 1))),
 (oQ 21 (.mv (.t 2))),
 (kQ 22 4 128 [(.t 19), (.t 20), (.t 21)]),
 (oQ 18 (.mv (.t 22))),
 (oQ 23 (.ext 0 (.t 18))),
 (oQ 24 (.ext 1 (.t 18))),
 (oQ 8 (.mv (.t 23))),
 (oQ 9 (.mv (.t 24)))])
 (.seq (.reg [(oQ 26 (.ldn 2 (.t 3))),
 (oQ 27 (.mv (.t 2))),
 (oQ 28 (.mv (.t 1))),
 (kQ 29 5 128 [(.t 26), (.t 27), (.t 28)]),
 (oQ 25 (.mv (.t 29))),
 (oQ 30 (.ext 0 (.t 25))),
 (oQ 31 (.ext 1 (.t 25))),
 (oQ 10 (.mv (.t 30))),
 (oQ 11 (.mv (.t 31)))])
 (.seq (.seq (.reg [(oQ 32 (.mv (.t 9))),
 (oQ 33 (.unot (.t 32))),
 (oQ 34 (.mv (.t 33))),
 (gQ 35 34 false (.mv (.t 11))),
 (gQ 36 34 false (.unot (.t 35))),
 (oQ 37 (.pick (.t 34) (.c (.p (.bool true))) (.t 36)))])
 (.cond (.t 37) (.seq (.reg [(oQ 38 (.build [zQ, zQ] [])),
 (uQ (.st 2 (.t 6) (.t 38))),
 (oQ 7 (.mv (iQ 21)))])
 .ret) .skip))
 (.seq (.reg [(oQ 39 (.mv (.t 10))),
 (oQ 40 (.uneg (.t 39))),
 (oQ 41 (.mv (.t 8))),
 (oQ 42 (.build [zQ, zQ] [(0, 1, (.t 40)), (1, 1, (.t 41))])),
 (uQ (.st 2 (.t 6) (.t 42))),
 (oQ 7 (.mv (iQ 0)))])
 .ret))))))⟩
def A_ref05_SpanOf : Nat → Ty := tyAt [.un, .un, .un, .un, .un, .un]
abbrev P_ref05_SpanOf : List PSh := [.agg (.pr tQ (.sl (.pr tQ (.pr tQ pQ)))), .one tQ, .one tQ]
abbrev R_ref05_SpanOf : List PSh := [.agg pQ, .one tQ]
theorem e_ref05_SpanOf : cFn Tryd.prog 84 = some F_ref05_SpanOf.erase := by kernel_rfl
theorem k_ref05_SpanOf : callable Tryd.prog 84 = true := by kernel_rfl
def F_mathbits_Mul32 : TFn := ⟨17, 0, [.tmp 4, .tmp 5],
 (.seq (.reg [(oQ 4 (.mv (.c (.p (.int .u32 0))))),
 (oQ 5 (.mv (.c (.p (.int .u32 0)))))])
 (.seq (.reg [(oQ 7 (.mv (.t 0))),
 (oQ 8 (.conv .u64 (.t 7))),
 (oQ 9 (.mv (.t 1))),
 (oQ 10 (.conv .u64 (.t 9))),
 (oQ 11 (.bin .mul (.t 8) (.t 10))),
 (oQ 6 (.mv (.t 11)))])
 (.seq (.reg [(oQ 12 (.mv (.t 6))),
 (oQ 13 (.sh false (.t 12) (.c (.p (.int .u64 32))))),
 (oQ 14 (.conv .u32 (.t 13))),
 (oQ 15 (.mv (.t 6))),
 (oQ 16 (.conv .u32 (.t 15))),
 (oQ 4 (.mv (.t 14))),
 (oQ 5 (.mv (.t 16)))])
 .ret)))⟩
def A_mathbits_Mul32 : Nat → Ty := tyAt []
abbrev P_mathbits_Mul32 : List PSh := [.one (.int .u32), .one (.int .u32)]
abbrev R_mathbits_Mul32 : List PSh := [.one (.int .u32), .one (.int .u32)]
theorem e_mathbits_Mul32 : cFn Tryd.prog 137 = some F_mathbits_Mul32.erase := by kernel_rfl
theorem k_mathbits_Mul32 : callable Tryd.prog 137 = true := by kernel_rfl
def F_law05_Heights : TFn := ⟨5, 1, [.tmp 0],
 (.seq (.reg [(oQ 0 (.mv (.c (.p (.sl 0 [] true)))))])
 (.seq (.reg [(oQ 1 (.build [zQ, zQ] [(1, 1, (iQ 2))])),
 (oQ 2 (.build [zQ, zQ] [(0, 1, (iQ 1)), (1, 1, (iQ 1))])),
 (oQ 3 (.build [zQ, zQ] [(0, 1, (iQ 4)), (1, 1, (iQ 6))])),
 (oQ 4 (.bsl false 0 2 3 [zQ, zQ, zQ, zQ, zQ, zQ] [(0, 2, (.t 1)), (2, 2, (.t 2)), (4, 2, (.t 3))])),
 (oQ 0 (.mv (.t 4)))])
 .ret))⟩
def A_law05_Heights : Nat → Ty := tyAt [pQ]
abbrev P_law05_Heights : List PSh := []
abbrev R_law05_Heights : List PSh := [.one (.sl pQ)]
theorem e_law05_Heights : cFn Tryd.prog 85 = some F_law05_Heights.erase := by kernel_rfl
theorem k_law05_Heights : callable Tryd.prog 85 = true := by kernel_rfl
def F_law05_Visits : TFn := ⟨6, 1, [.tmp 0],
 (.seq (.reg [(oQ 0 (.mv (.c (.p (.sl 0 [] true)))))])
 (.seq (.reg [(oQ 1 (.build [zQ, zQ] [(0, 1, (iQ 10)), (1, 1, (iQ 12))])),
 (oQ 2 (.build [zQ, zQ, zQ] [(1, 2, (.t 1))])),
 (oQ 3 (.build [zQ, zQ] [(0, 1, (iQ 20)), (1, 1, (iQ 21))])),
 (oQ 4 (.build [zQ, zQ, zQ] [(0, 1, (iQ 10)), (1, 2, (.t 3))])),
 (oQ 5 (.bsl false 0 3 2 [zQ, zQ, zQ, zQ, zQ, zQ] [(0, 3, (.t 2)), (3, 3, (.t 4))])),
 (oQ 0 (.mv (.t 5)))])
 .ret))⟩
def A_law05_Visits : Nat → Ty := tyAt [(.pr tQ pQ)]
abbrev P_law05_Visits : List PSh := []
abbrev R_law05_Visits : List PSh := [.one (.sl (.pr tQ pQ))]
theorem e_law05_Visits : cFn Tryd.prog 86 = some F_law05_Visits.erase := by kernel_rfl
theorem k_law05_Visits : callable Tryd.prog 86 = true := by kernel_rfl
def F_law05_Net : TFn := ⟨9, 2, [.celln 0 2],
 (.seq (.reg [(oQ 0 (.newz 0 [zQ, (.p (.sl 0 [] true))]))])
 (.seq (.reg [(oQ 1 (.build [zQ, zQ] [(0, 1, (iQ 5)), (1, 1, (iQ 6))])),
 (oQ 2 (.build [zQ, zQ, zQ, zQ] [(1, 1, (iQ 1)), (2, 2, (.t 1))])),
 (oQ 3 (.build [zQ, zQ] [(0, 1, (iQ 2)), (1, 1, (iQ 3))])),
 (oQ 4 (.build [zQ, zQ, zQ, zQ] [(0, 1, (iQ 1)), (1, 1, (iQ 2)), (2, 2, (.t 3))])),
 (oQ 5 (.build [zQ, zQ] [(0, 1, (iQ 7)), (1, 1, (iQ 8))])),
 (oQ 6 (.build [zQ, zQ, zQ, zQ] [(1, 1, (iQ 2)), (2, 2, (.t 5))])),
 (oQ 7 (.bsl false 1 4 3 [zQ, zQ, zQ, zQ, zQ, zQ, zQ, zQ, zQ, zQ, zQ, zQ] [(0, 4, (.t 2)), (4, 4, (.t 4)), (8, 4, (.t 6))])),
 (oQ 8 (.build [zQ, (.p (.sl 0 [] true))] [(0, 1, (iQ 3)), (1, 1, (.t 7))])),
 (uQ (.st 2 (.t 0) (.t 8)))])
 .ret))⟩
def A_law05_Net : Nat → Ty := tyAt [.un, (.pr tQ (.pr tQ pQ))]
abbrev P_law05_Net : List PSh := []
abbrev R_law05_Net : List PSh := [.agg (.pr tQ (.sl (.pr tQ (.pr tQ pQ))))]
theorem e_law05_Net : cFn Tryd.prog 87 = some F_law05_Net.erase := by kernel_rfl
theorem k_law05_Net : callable Tryd.prog 87 = true := by kernel_rfl
def F_gravity_unless : TFn := ⟨7, 0, [.tmp 4],
 (.seq (.reg [(oQ 4 (.mv (iQ 0)))])
 (.seq (.seq (.reg [(oQ 5 (.mv (.t 0)))])
 (.cond (.t 5) (.seq (.reg [(oQ 4 (.mv (iQ 0)))])
 .ret) .skip))
 (.seq (.reg [(oQ 6 (.mv (.t 1))),
 (oQ 4 (.mv (.t 6)))])
 .ret)))⟩
def A_gravity_unless : Nat → Ty := tyAt []
abbrev P_gravity_unless : List PSh := [.one .bool, .one tQ]
abbrev R_gravity_unless : List PSh := [.one tQ]
theorem e_gravity_unless : cFn Tryd.prog 89 = some F_gravity_unless.erase := by kernel_rfl
theorem k_gravity_unless : callable Tryd.prog 89 = true := by kernel_rfl
def F_gravity_first : TFn := ⟨15, 0, [.tmp 2],
 (.seq (.reg [(oQ 2 (.mv (iQ 0)))])
 (.seq (.seq (.reg [(oQ 5 (.mv (.t 0))),
 (oQ 6 (.len false (.t 5))),
 (oQ 7 (.mv (iQ 0)))])
 (.block 0 (.loop [.v 7 tQ] [] [] (.seq (.reg [(oQ 8 (.bin .lss (.t 7) (.t 6)))])
 (.seq (.cond (.t 8) .skip (.exit 0))
 (.seq (.block 1 (.seq (.reg [(oQ 9 (.ia 1 (.t 5) (.t 7))),
 (oQ 10 (.ld1 (.t 9))),
 (oQ 4 (.mv (.t 10)))])
 (.seq (.reg [(oQ 11 (.mv (.t 4))),
 (oQ 12 (.bin .neq (.t 11) (iQ 0)))])
 (.cond (.t 12) (.seq (.reg [(oQ 13 (.mv (.t 4))),
 (oQ 2 (.mv (.t 13)))])
 .ret) .skip))))
 (.reg [(oQ 14 (.bin .add (.t 7) (iQ 1))),
 (oQ 7 (.mv (.t 14)))])))))))
 (.seq (.reg [(oQ 2 (.mv (iQ 0)))])
 .ret)))⟩
def A_gravity_first : Nat → Ty := tyAt []
abbrev P_gravity_first : List PSh := [.one (.sl tQ)]
abbrev R_gravity_first : List PSh := [.one tQ]
theorem e_gravity_first : cFn Tryd.prog 88 = some F_gravity_first.erase := by kernel_rfl
theorem k_gravity_first : callable Tryd.prog 88 = true := by kernel_rfl
def F_gravity_both : TFn := ⟨14, 4, [.tmp 2],
 (.seq (.reg [(oQ 1 (.box 0 (.t 0))),
 (oQ 2 (.mv (.c (.p (.sl 0 [] true)))))])
 (.seq (.reg [(oQ 4 (.fa 0 (.t 1))),
 (oQ 5 (.ld1 (.t 4))),
 (kQ 6 1 125 [(.t 5)]),
 (oQ 3 (.mv (.t 6)))])
 (.seq (.reg [(oQ 7 (.mv (.t 3))),
 (kQ 8 2 129 [(.t 7)])])
 (.seq (.reg [(oQ 9 (.mv (.t 3))),
 (oQ 10 (.fa 0 (.t 1))),
 (oQ 11 (.ld1 (.t 10))),
 (oQ 12 (.sl 1 (.t 11) (some (iQ 1)) none)),
 (oQ 13 (.app 3 1 8 (.t 9) (.t 12))),
 (oQ 2 (.mv (.t 13)))])
 .ret))))⟩
def A_gravity_both : Nat → Ty := tyAt [.un, .un, .un, tQ]
abbrev P_gravity_both : List PSh := [.agg (.sl tQ)]
abbrev R_gravity_both : List PSh := [.one (.sl tQ)]
abbrev E_gravity_both : Ty := tQ
theorem e_gravity_both : cFn Tryd.prog 90 = some F_gravity_both.erase := by kernel_rfl
theorem k_gravity_both : callable Tryd.prog 90 = true := by kernel_rfl
def F_gravity_isSized : TFn := ⟨10, 1, [.tmp 4],
 (.seq (.reg [(oQ 4 (.mv (.c (.p (.bool false)))))])
 (.seq (.reg [(oQ 5 (.mv (.t 0))),
 (oQ 6 (.mv (.t 1))),
 (oQ 7 (.uneg (.t 6))),
 (oQ 8 (.mv (.t 1))),
 (kQ 9 0 94 [(.t 5), (.t 7), (.t 8)]),
 (oQ 4 (.mv (.t 9)))])
 .ret))⟩
def A_gravity_isSized : Nat → Ty := tyAt [.un]
abbrev P_gravity_isSized : List PSh := [.one tQ, .one tQ]
abbrev R_gravity_isSized : List PSh := [.one .bool]
theorem e_gravity_isSized : cFn Tryd.prog 93 = some F_gravity_isSized.erase := by kernel_rfl
theorem k_gravity_isSized : callable Tryd.prog 93 = true := by kernel_rfl
def F_gravity_within : TFn := ⟨15, 0, [.tmp 6],
 (.seq (.reg [(oQ 6 (.mv (.c (.p (.bool false)))))])
 (.seq (.reg [(oQ 7 (.mv (.t 1))),
 (oQ 8 (.mv (.t 0))),
 (oQ 9 (.bin .leq (.t 7) (.t 8))),
 (oQ 10 (.mv (.t 9))),
 (gQ 11 10 true (.mv (.t 0))),
 (gQ 12 10 true (.mv (.t 2))),
 (gQ 13 10 true (.bin .leq (.t 11) (.t 12))),
 (oQ 14 (.pick (.t 10) (.t 13) (.c (.p (.bool false))))),
 (oQ 6 (.mv (.t 14)))])
 .ret))⟩
def A_gravity_within : Nat → Ty := tyAt []
abbrev P_gravity_within : List PSh := [.one tQ, .one tQ, .one tQ]
abbrev R_gravity_within : List PSh := [.one .bool]
theorem e_gravity_within : cFn Tryd.prog 94 = some F_gravity_within.erase := by kernel_rfl
theorem k_gravity_within : callable Tryd.prog 94 = true := by kernel_rfl
def F_gravity_fraction : TFn := ⟨29, 4, [.celln 4 2, .tmp 5],
 (.seq (.reg [(oQ 4 (.newz 0 [zQ, zQ])),
 (oQ 5 (.mv (iQ 0)))])
 (.seq (.reg [(oQ 8 (.mv (.t 0))),
 (oQ 9 (.mv (.t 1))),
 (kQ 10 1 114 [(.t 8), (.t 9)]),
 (oQ 6 (.mv (.t 10)))])
 (.seq (.regd [(oQ 11 (.mv (.t 0))),
 (oQ 12 (.mv (.t 6))),
 (oQ 13 (.bin .quo (.t 11) (.t 12))),
 (oQ 14 (.mv (.t 1))),
 (oQ 15 (.mv (.t 6))),
 (oQ 16 (.bin .quo (.t 14) (.t 15))),
 (oQ 17 (.build [zQ, zQ] [(0, 1, (.t 13)), (1, 1, (.t 16))])),
 (oQ 7 (.newz 2 [zQ, zQ])),
 (uQ (.st 2 (.t 7) (.t 17)))] [] [])
 (.seq (.seq (.reg [(oQ 18 (.fa 0 (.t 7))),
 (oQ 19 (.ld1 (.t 18))),
 (kQ 20 3 93 [(.t 19), (iQ 1000000000)]),
 (oQ 21 (.unot (.t 20))),
 (oQ 22 (.mv (.t 21))),
 (gQ 23 22 false (.fa 1 (.t 7))),
 (gQ 24 22 false (.ld1 (.t 23))),
 (gQ 25 22 false (.bin .gtr (.t 24) (iQ 1000000000))),
 (oQ 26 (.pick (.t 22) (.c (.p (.bool true))) (.t 25)))])
 (.cond (.t 26) (.seq (.reg [(oQ 27 (.build [zQ, zQ] [])),
 (uQ (.st 2 (.t 4) (.t 27))),
 (oQ 5 (.mv (iQ 8)))])
 .ret) .skip))
 (.seq (.reg [(oQ 28 (.ldn 2 (.t 7))),
 (uQ (.st 2 (.t 4) (.t 28))),
 (oQ 5 (.mv (iQ 0)))])
 .ret)))))⟩
def A_gravity_fraction : Nat → Ty := tyAt [.un, .un, .un, .un]
abbrev P_gravity_fraction : List PSh := [.one tQ, .one tQ]
abbrev R_gravity_fraction : List PSh := [.agg pQ, .one tQ]
theorem e_gravity_fraction : cFn Tryd.prog 95 = some F_gravity_fraction.erase := by kernel_rfl
theorem k_gravity_fraction : callable Tryd.prog 95 = true := by kernel_rfl
def F_gravity_rangeErr : TFn := ⟨24, 7, [.tmp 4],
 (.seq (.reg [(oQ 2 (.box 0 (.t 0))),
 (oQ 4 (.mv (iQ 0)))])
 (.seq (.regd [(oQ 5 (.fa 0 (.t 2))),
 (oQ 6 (.ld1 (.t 5))),
 (oQ 7 (.mv (.t 1))),
 (kQ 8 1 93 [(.t 6), (.t 7)]),
 (oQ 9 (.mv (.t 8))),
 (gQ 10 9 true (.fa 1 (.t 2))),
 (gQ 11 9 true (.ld1 (.t 10))),
 (gQ 12 9 true (.mv (.t 1))),
 ⟨some 13, some (some 9, true), (.call 2 93 [(.t 11), (.t 12)])⟩,
 (oQ 14 (.pick (.t 9) (.t 13) (.c (.p (.bool false))))),
 (kQ 15 3 89 [(.t 14), (iQ 2)]),
 (oQ 16 (.fa 0 (.t 2))),
 (oQ 17 (.ld1 (.t 16))),
 (oQ 18 (.fa 1 (.t 2))),
 (oQ 19 (.ld1 (.t 18))),
 (oQ 20 (.bin .leq (.t 17) (.t 19))),
 (kQ 21 4 89 [(.t 20), (iQ 9)]),
 (oQ 22 (.bsl false 5 1 2 [zQ, zQ] [(0, 1, (.t 15)), (1, 1, (.t 21))])),
 (kQ 23 6 88 [(.t 22)]),
 (oQ 4 (.mv (.t 23)))] [(1, 12), (3, 12), (6, 12), (8, 12), (10, 12), (1, 14), (3, 14), (6, 14), (8, 14), (10, 14), (12, 14)] [])
 .ret))⟩
def A_gravity_rangeErr : Nat → Ty := tyAt [.un, .un, .un, .un, .un, tQ, .un]
abbrev P_gravity_rangeErr : List PSh := [.agg pQ, .one tQ]
abbrev R_gravity_rangeErr : List PSh := [.one tQ]
theorem e_gravity_rangeErr : cFn Tryd.prog 98 = some F_gravity_rangeErr.erase := by kernel_rfl
theorem k_gravity_rangeErr : callable Tryd.prog 98 = true := by kernel_rfl
def F_gravity_rangesErr : TFn := ⟨11, 1, [.tmp 2],
 (.seq (.reg [(oQ 2 (.mv (iQ 0)))])
 (.seq (.reg [(oQ 6 (.mv (.t 0))),
 (kQ 7 0 27 [(.t 6)]),
 (oQ 5 (.mv (.t 7))),
 (oQ 8 (.ext 0 (.t 5))),
 (oQ 9 (.ext 1 (.t 5))),
 (oQ 3 (.mv (.t 8))),
 (oQ 4 (.mv (.t 9)))])
 (.seq (.reg [(oQ 10 (.mv (.t 4))),
 (oQ 2 (.mv (.t 10)))])
 .ret)))⟩
def A_gravity_rangesErr : Nat → Ty := tyAt [.un]
abbrev P_gravity_rangesErr : List PSh := [.one (.sl pQ)]
abbrev R_gravity_rangesErr : List PSh := [.one tQ]
theorem e_gravity_rangesErr : cFn Tryd.prog 99 = some F_gravity_rangesErr.erase := by kernel_rfl
theorem k_gravity_rangesErr : callable Tryd.prog 99 = true := by kernel_rfl
def F_gravity_windows : TFn := ⟨6, 2, [.tmp 4],
 (.seq (.reg [(oQ 2 (.box 0 (.t 0))),
 (oQ 3 (.box 1 (.t 1))),
 (oQ 4 (.mv (.c .und)))])
 (.seq (.reg [(oQ 5 (.clo 130 [(.t 2), (.t 3)])),
 (oQ 4 (.mv (.t 5)))])
 .ret))⟩
def A_gravity_windows : Nat → Ty := tyAt [.un, .un]
abbrev P_gravity_windows : List PSh := [.one (.sl pQ), .one tQ]
abbrev R_gravity_windows : List PSh := [.fn 130 [(.sl pQ), tQ]]
theorem e_gravity_windows : cFn Tryd.prog 100 = some F_gravity_windows.erase := by kernel_rfl
theorem k_gravity_windows : callable Tryd.prog 100 = true := by kernel_rfl
def F_gravity_windows_1 : TFn := ⟨25, 1, [],
 (.seq (.reg [(oQ 5 (.ld1 (.t 1))),
 (oQ 6 (.len false (.t 5))),
 (oQ 7 (.ld1 (.t 2))),
 (oQ 8 (.bin .sub (.t 6) (.t 7))),
 (oQ 9 (.bin .add (.t 8) (iQ 1))),
 (oQ 10 (.mm true (iQ 0) (.t 9))),
 (oQ 11 (.mv (iQ 0)))])
 (.block 0 (.loop [] [] [] (.seq (.reg [(oQ 12 (.bin .lss (.t 11) (.t 10)))])
 (.seq (.cond (.t 12) .skip (.exit 0))
 (.seq (.block 1 (.seq (.reg [(oQ 13 (.mv (.t 11))),
 (oQ 4 (.mv (.t 13)))])
 (.seq (.reg [(oQ 14 (.mv (.t 0))),
 (oQ 15 (.mv (.t 4))),
 (oQ 16 (.ld1 (.t 1))),
 (oQ 17 (.mv (.t 4))),
 (oQ 18 (.mv (.t 4))),
 (oQ 19 (.ld1 (.t 2))),
 (oQ 20 (.bin .add (.t 18) (.t 19))),
 (oQ 21 (.sl 2 (.t 16) (some (.t 17)) (some (.t 20)))),
 ⟨some 22, none, (.callv 0 (.t 14) [(.t 15), (.t 21)])⟩,
 (oQ 23 (.unot (.t 22)))])
 (.cond (.t 23) .ret .skip))))
 (.reg [(oQ 24 (.bin .add (.t 11) (iQ 1))),
 (oQ 11 (.mv (.t 24)))])))))))⟩
def A_gravity_windows_1 : Nat → Ty := tyAt []
abbrev P_gravity_windows_1 : List PSh := [.fn 130 [(.sl pQ), tQ], .one tQ, .one (.sl pQ)]
abbrev R_gravity_windows_1 : List PSh := []
theorem e_gravity_windows_1 : cFn Tryd.prog 130 = some F_gravity_windows_1.erase := by kernel_rfl
theorem k_gravity_windows_1 : callable Tryd.prog 130 = true := by kernel_rfl
def F_gravity_linear : TFn := ⟨46, 2, [.celln 4 2],
 (.seq (.reg [(oQ 4 (.newz 0 [zQ, zQ]))])
 (.seq (.reg [(oQ 5 (.newz 1 [zQ, zQ]))])
 (.seq (.seq (.reg [(oQ 10 (.mv (.t 0))),
 (oQ 11 (.len false (.t 10))),
 (oQ 12 (.mv (iQ 0)))])
 (.block 0 (.loop [.v 12 tQ, .c 1 pQ] [1] [] (.seq (.reg [(oQ 13 (.bin .lss (.t 12) (.t 11)))])
 (.seq (.cond (.t 13) .skip (.exit 0))
 (.seq (.block 1 (.seq (.reg [(oQ 14 (.mv (.t 12))),
 (oQ 15 (.ia 1 (.t 10) (.t 12))),
 (oQ 16 (.ld1 (.t 15))),
 (oQ 6 (.mv (.t 14))),
 (oQ 7 (.mv (.t 16)))])
 (.seq (.regd [(oQ 17 (.mv (.t 7))),
 (oQ 18 (.mv (.t 1))),
 (oQ 19 (.mv (.t 6))),
 (oQ 20 (.ia 2 (.t 18) (.t 19))),
 (oQ 21 (.fa 0 (.t 20))),
 (oQ 22 (.ld1 (.t 21))),
 (oQ 23 (.bin .mul (.t 17) (.t 22))),
 (oQ 24 (.mv (.t 7))),
 (oQ 25 (.mv (.t 1))),
 (oQ 26 (.mv (.t 6))),
 (oQ 27 (.ia 2 (.t 25) (.t 26))),
 (oQ 28 (.fa 1 (.t 27))),
 (oQ 29 (.ld1 (.t 28))),
 (oQ 30 (.bin .mul (.t 24) (.t 29))),
 (oQ 8 (.mv (.t 23))),
 (oQ 9 (.mv (.t 30)))] [(5, 12)] [])
 (.reg [(oQ 31 (.fa 0 (.t 5))),
 (oQ 32 (.ld1 (.t 31))),
 (oQ 33 (.mv (.t 8))),
 (oQ 34 (.mv (.t 9))),
 (oQ 35 (.mm false (.t 33) (.t 34))),
 (oQ 36 (.bin .add (.t 32) (.t 35))),
 (oQ 37 (.fa 1 (.t 5))),
 (oQ 38 (.ld1 (.t 37))),
 (oQ 39 (.mv (.t 8))),
 (oQ 40 (.mv (.t 9))),
 (oQ 41 (.mm true (.t 39) (.t 40))),
 (oQ 42 (.bin .add (.t 38) (.t 41))),
 (oQ 43 (.build [zQ, zQ] [(0, 1, (.t 36)), (1, 1, (.t 42))])),
 (uQ (.st 2 (.t 5) (.t 43)))]))))
 (.reg [(oQ 44 (.bin .add (.t 12) (iQ 1))),
 (oQ 12 (.mv (.t 44)))])))))))
 (.seq (.reg [(oQ 45 (.ldn 2 (.t 5))),
 (uQ (.st 2 (.t 4) (.t 45)))])
 .ret))))⟩
def A_gravity_linear : Nat → Ty := tyAt [.un, .un]
abbrev P_gravity_linear : List PSh := [.one (.sl tQ), .one (.sl pQ)]
abbrev R_gravity_linear : List PSh := [.agg pQ]
theorem e_gravity_linear : cFn Tryd.prog 101 = some F_gravity_linear.erase := by kernel_rfl
theorem k_gravity_linear : callable Tryd.prog 101 = true := by kernel_rfl
def F_gravity_readingsErr : TFn := ⟨15, 5, [.tmp 2],
 (.seq (.reg [(oQ 2 (.mv (iQ 0)))])
 (.seq (.reg [(oQ 4 (.mv (.t 0))),
 (kQ 5 0 91 [(.t 4), (.c (.clo 131 []))]),
 (oQ 3 (.mv (.t 5)))])
 (.seq (.reg [(oQ 6 (.mv (.t 0))),
 (oQ 7 (.len false (.t 6))),
 (oQ 8 (.bin .leq (.t 7) (iQ 64))),
 (kQ 9 1 89 [(.t 8), (iQ 8)]),
 (oQ 10 (.mv (.t 3))),
 (oQ 11 (.unot (.t 10))),
 (kQ 12 2 89 [(.t 11), (iQ 2)]),
 (oQ 13 (.bsl false 3 1 2 [zQ, zQ] [(0, 1, (.t 9)), (1, 1, (.t 12))])),
 (kQ 14 4 88 [(.t 13)]),
 (oQ 2 (.mv (.t 14)))])
 .ret)))⟩
def A_gravity_readingsErr : Nat → Ty := tyAt [.un, .un, .un, tQ, .un]
abbrev P_gravity_readingsErr : List PSh := [.one (.sl tQ)]
abbrev R_gravity_readingsErr : List PSh := [.one tQ]
theorem e_gravity_readingsErr : cFn Tryd.prog 102 = some F_gravity_readingsErr.erase := by kernel_rfl
theorem k_gravity_readingsErr : callable Tryd.prog 102 = true := by kernel_rfl
def F_ref05_rangeErr : TFn := ⟨26, 3, [.tmp 4],
 (.seq (.reg [(oQ 2 (.box 0 (.t 0))),
 (oQ 4 (.mv (iQ 0)))])
 (.seq (.seq (.reg [(oQ 5 (.fa 0 (.t 2))),
 (oQ 6 (.ld1 (.t 5))),
 (oQ 7 (.mv (.t 1))),
 (oQ 8 (.uneg (.t 7))),
 (oQ 9 (.mv (.t 1))),
 (kQ 10 1 60 [(.t 6), (.t 8), (.t 9)]),
 (oQ 11 (.unot (.t 10))),
 (oQ 12 (.mv (.t 11))),
 (gQ 13 12 false (.fa 1 (.t 2))),
 (gQ 14 12 false (.ld1 (.t 13))),
 (gQ 15 12 false (.mv (.t 1))),
 (gQ 16 12 false (.uneg (.t 15))),
 (gQ 17 12 false (.mv (.t 1))),
 ⟨some 18, some (some 12, false), (.call 2 60 [(.t 14), (.t 16), (.t 17)])⟩,
 (gQ 19 12 false (.unot (.t 18))),
 (oQ 20 (.pick (.t 12) (.c (.p (.bool true))) (.t 19)))])
 (.cond (.t 20) (.seq (.reg [(oQ 4 (.mv (iQ 2)))])
 .ret) .skip))
 (.seq (.seq (.reg [(oQ 21 (.fa 0 (.t 2))),
 (oQ 22 (.ld1 (.t 21))),
 (oQ 23 (.fa 1 (.t 2))),
 (oQ 24 (.ld1 (.t 23))),
 (oQ 25 (.bin .gtr (.t 22) (.t 24)))])
 (.cond (.t 25) (.seq (.reg [(oQ 4 (.mv (iQ 9)))])
 .ret) .skip))
 (.seq (.reg [(oQ 4 (.mv (iQ 0)))])
 .ret))))⟩
def A_ref05_rangeErr : Nat → Ty := tyAt [.un, .un, .un]
abbrev P_ref05_rangeErr : List PSh := [.agg pQ, .one tQ]
abbrev R_ref05_rangeErr : List PSh := [.one tQ]
theorem e_ref05_rangeErr : cFn Tryd.prog 103 = some F_ref05_rangeErr.erase := by kernel_rfl
theorem k_ref05_rangeErr : callable Tryd.prog 103 = true := by kernel_rfl
def F_slices_Repeatint_int : TFn := ⟨0, 0, [],
 .skip⟩
def A_slices_Repeatint_int : Nat → Ty := tyAt []
abbrev P_slices_Repeatint_int : List PSh := [.one (.sl tQ), .one tQ]
abbrev R_slices_Repeatint_int : List PSh := [.one (.sl tQ)]
abbrev E_slices_Repeatint_int : Ty := tQ

theorem k_slices_Repeatint_int : callable Tryd.prog 105 = true := by kernel_rfl
def F_gravity_greatest : TFn := ⟨18, 4, [.tmp 4, .tmp 5],
 (.seq (.reg [(oQ 4 (.mv (.c (.p (.sl 0 [] true))))),
 (oQ 5 (.mv (.c (.p (.bool false)))))])
 (.seq (.reg [(oQ 8 (.mv (.t 0))),
 (oQ 9 (.mk 0 1 8 [zQ] (.t 8))),
 (oQ 6 (.mv (.t 9)))])
 (.seq (.reg [(oQ 10 (.mv (.t 1))),
 (oQ 11 (.mv (.t 6))),
 (oQ 12 (.bsl false 1 1 1 [(.p (.bool false))] [(0, 1, (.c (.p (.bool true))))])),
 (oQ 13 (.mv (.t 0))),
 (kQ 14 2 134 [(.t 12), (.t 13)]),
 (kQ 15 3 133 [(.t 10), (.t 11), (.t 14)]),
 (oQ 7 (.mv (.t 15)))])
 (.seq (.reg [(oQ 16 (.mv (.t 6))),
 (oQ 17 (.mv (.t 7))),
 (oQ 4 (.mv (.t 16))),
 (oQ 5 (.mv (.t 17)))])
 .ret))))⟩
def A_gravity_greatest : Nat → Ty := tyAt [tQ, .bool, .un, .un]
abbrev P_gravity_greatest : List PSh := [.one tQ, .one (.sl (.pr tQ (.pr tQ pQ)))]
abbrev R_gravity_greatest : List PSh := [.one (.sl tQ), .one .bool]
theorem e_gravity_greatest : cFn Tryd.prog 106 = some F_gravity_greatest.erase := by kernel_rfl
theorem k_gravity_greatest : callable Tryd.prog 106 = true := by kernel_rfl
def F_ref05_every : TFn := ⟨17, 3, [.tmp 2],
 (.seq (.reg [(oQ 1 (.box 0 (.t 0))),
 (oQ 2 (.mv (.c (.p (.sl 0 [] true)))))])
 (.seq (.reg [(oQ 3 (.mv (.c (.p (.sl 0 [] true)))))])
 (.seq (.seq (.reg [(oQ 4 (.mv (iQ 0)))])
 (.block 0 (.loop [.v 4 tQ, .o 3 2 tQ] [2] [2] (.seq (.seq (.reg [(oQ 5 (.mv (.t 4))),
 (oQ 6 (.fa 1 (.t 1))),
 (oQ 7 (.ld1 (.t 6))),
 (oQ 8 (.len false (.t 7))),
 (oQ 9 (.bin .lss (.t 5) (.t 8)))])
 (.cond (.t 9) .skip (.exit 0)))
 (.seq (.block 1 (.reg [(oQ 12 (.mv (.t 3))),
 (oQ 13 (.mv (.t 4))),
 (oQ 14 (.bsl false 1 1 1 [zQ] [(0, 1, (.t 13))])),
 (oQ 15 (.app 2 1 8 (.t 12) (.t 14))),
 (oQ 3 (.mv (.t 15)))]))
 (.reg [(oQ 10 (.mv (.t 4))),
 (oQ 11 (.bin .add (.t 10) (iQ 1))),
 (oQ 4 (.mv (.t 11)))]))))))
 (.seq (.reg [(oQ 16 (.mv (.t 3))),
 (oQ 2 (.mv (.t 16)))])
 .ret))))⟩
def A_ref05_every : Nat → Ty := tyAt [.un, tQ, tQ]
abbrev P_ref05_every : List PSh := [.agg (.pr tQ (.sl (.pr tQ (.pr tQ pQ))))]
abbrev R_ref05_every : List PSh := [.one (.sl tQ)]
theorem e_ref05_every : cFn Tryd.prog 110 = some F_ref05_every.erase := by kernel_rfl
theorem k_ref05_every : callable Tryd.prog 110 = true := by kernel_rfl
def F_ref05_lowered : TFn := ⟨94, 3, [.tmp 6, .tmp 7],
 (.seq (.reg [(oQ 3 (.box 0 (.t 0))),
 (oQ 6 (.mv (.c (.p (.sl 0 [] true))))),
 (oQ 7 (.mv (.c (.p (.bool false)))))])
 (.seq (.reg [(oQ 13 (.mv (.t 2))),
 (kQ 14 1 31 [(.t 13)]),
 (oQ 8 (.mv (.t 14)))])
 (.seq (.seq (.reg [(oQ 9 (.mv (iQ 0)))])
 (.block 0 (.loop [.v 9 tQ, .d 1 tQ] [1, 2] [2] (.seq (.seq (.reg [(oQ 15 (.mv (.t 9))),
 (oQ 16 (.fa 0 (.t 3))),
 (oQ 17 (.ld1 (.t 16))),
 (oQ 18 (.bin .leq (.t 15) (.t 17)))])
 (.cond (.t 18) .skip (.exit 0)))
 (.seq (.block 1 (.seq (.reg [(oQ 10 (.mv (.c (.p (.bool false)))))])
 (.seq (.seq (.reg [(oQ 11 (.mv (iQ 0)))])
 (.block 2 (.loop [.v 11 tQ, .v 10 .bool, .d 1 tQ] [1, 2] [2] (.seq (.seq (.reg [(oQ 21 (.mv (.t 11))),
 (oQ 22 (.mv (.t 1))),
 (oQ 23 (.len false (.t 22))),
 (oQ 24 (.bin .lss (.t 21) (.t 23)))])
 (.cond (.t 24) .skip (.exit 2)))
 (.seq (.block 3 (.seq (.regd [(oQ 27 (.fa 1 (.t 3))),
 (oQ 28 (.ld1 (.t 27))),
 (oQ 29 (.mv (.t 1))),
 (oQ 30 (.mv (.t 11))),
 (oQ 31 (.ia 1 (.t 29) (.t 30))),
 (oQ 32 (.ld1 (.t 31))),
 (oQ 33 (.ia 4 (.t 28) (.t 32))),
 (oQ 34 (.ldn 4 (.t 33))),
 (oQ 12 (.newz 2 [zQ, zQ, zQ, zQ])),
 (uQ (.st 4 (.t 12) (.t 34)))] [(1, 5), (1, 8), (5, 8), (7, 8)] [])
 (.seq (.seq (.regd [(oQ 35 (.mv (.t 8))),
 (oQ 36 (.fa 1 (.t 12))),
 (oQ 37 (.ld1 (.t 36))),
 (oQ 38 (.ia 1 (.t 35) (.t 37))),
 (oQ 39 (.ld1 (.t 38))),
 (oQ 40 (.mv (.t 8))),
 (oQ 41 (.fa 0 (.t 12))),
 (oQ 42 (.ld1 (.t 41))),
 (oQ 43 (.ia 1 (.t 40) (.t 42))),
 (oQ 44 (.ld1 (.t 43))),
 (oQ 45 (.fa 2 (.t 12))),
 (oQ 46 (.fa 1 (.t 45))),
 (oQ 47 (.ld1 (.t 46))),
 (oQ 48 (.bin .add (.t 44) (.t 47))),
 (oQ 49 (.bin .gtr (.t 39) (.t 48)))] [(2, 7), (4, 7), (2, 9), (4, 9), (2, 12), (4, 12), (7, 12), (9, 12)] [])
 (.cond (.t 49) (.regd [(oQ 50 (.mv (.t 8))),
 (oQ 51 (.fa 1 (.t 12))),
 (oQ 52 (.ld1 (.t 51))),
 (oQ 53 (.mv (.t 8))),
 (oQ 54 (.fa 0 (.t 12))),
 (oQ 55 (.ld1 (.t 54))),
 (oQ 56 (.ia 1 (.t 53) (.t 55))),
 (oQ 57 (.ld1 (.t 56))),
 (oQ 58 (.fa 2 (.t 12))),
 (oQ 59 (.fa 1 (.t 58))),
 (oQ 60 (.ld1 (.t 59))),
 (oQ 61 (.bin .add (.t 57) (.t 60))),
 (oQ 62 (.ia 1 (.t 50) (.t 52))),
 (uQ (.st 1 (.t 62) (.t 61))),
 (oQ 10 (.mv (.c (.p (.bool true)))))] [(2, 5), (2, 7), (2, 10), (5, 10), (7, 10)] []) .skip))
 (.seq (.regd [(oQ 63 (.mv (.t 8))),
 (oQ 64 (.fa 0 (.t 12))),
 (oQ 65 (.ld1 (.t 64))),
 (oQ 66 (.ia 1 (.t 63) (.t 65))),
 (oQ 67 (.ld1 (.t 66))),
 (oQ 68 (.mv (.t 8))),
 (oQ 69 (.fa 1 (.t 12))),
 (oQ 70 (.ld1 (.t 69))),
 (oQ 71 (.ia 1 (.t 68) (.t 70))),
 (oQ 72 (.ld1 (.t 71))),
 (oQ 73 (.fa 2 (.t 12))),
 (oQ 74 (.fa 0 (.t 73))),
 (oQ 75 (.ld1 (.t 74))),
 (oQ 76 (.bin .sub (.t 72) (.t 75))),
 (oQ 77 (.bin .gtr (.t 67) (.t 76)))] [(2, 7), (4, 7), (2, 9), (4, 9), (2, 12), (4, 12), (7, 12), (9, 12)] [])
 (.cond (.t 77) (.regd [(oQ 78 (.mv (.t 8))),
 (oQ 79 (.fa 0 (.t 12))),
 (oQ 80 (.ld1 (.t 79))),
 (oQ 81 (.mv (.t 8))),
 (oQ 82 (.fa 1 (.t 12))),
 (oQ 83 (.ld1 (.t 82))),
 (oQ 84 (.ia 1 (.t 81) (.t 83))),
 (oQ 85 (.ld1 (.t 84))),
 (oQ 86 (.fa 2 (.t 12))),
 (oQ 87 (.fa 0 (.t 86))),
 (oQ 88 (.ld1 (.t 87))),
 (oQ 89 (.bin .sub (.t 85) (.t 88))),
 (oQ 90 (.ia 1 (.t 78) (.t 80))),
 (uQ (.st 1 (.t 90) (.t 89))),
 (oQ 10 (.mv (.c (.p (.bool true)))))] [(2, 5), (2, 7), (2, 10), (5, 10), (7, 10)] []) .skip)))))
 (.reg [(oQ 25 (.mv (.t 11))),
 (oQ 26 (.bin .add (.t 25) (iQ 1))),
 (oQ 11 (.mv (.t 26)))]))))))
 (.seq (.reg [(oQ 91 (.mv (.t 10))),
 (oQ 92 (.unot (.t 91)))])
 (.cond (.t 92) (.seq (.reg [(oQ 93 (.mv (.t 8))),
 (oQ 6 (.mv (.t 93))),
 (oQ 7 (.mv (.c (.p (.bool true)))))])
 .ret) .skip)))))
 (.reg [(oQ 19 (.mv (.t 9))),
 (oQ 20 (.bin .add (.t 19) (iQ 1))),
 (oQ 9 (.mv (.t 20)))]))))))
 (.seq (.reg [(oQ 6 (.mv (.c (.p (.sl 0 [] true))))),
 (oQ 7 (.mv (.c (.p (.bool false)))))])
 .ret))))⟩
def A_ref05_lowered : Nat → Ty := tyAt [.un, .un, .un]
abbrev P_ref05_lowered : List PSh := [.agg (.pr tQ (.sl (.pr tQ (.pr tQ pQ)))), .one (.sl tQ), .one (.sl tQ)]
abbrev R_ref05_lowered : List PSh := [.one (.sl tQ), .one .bool]
theorem e_ref05_lowered : cFn Tryd.prog 109 = some F_ref05_lowered.erase := by kernel_rfl
theorem k_ref05_lowered : callable Tryd.prog 109 = true := by kernel_rfl
def F_gravity_rates : TFn := ⟨82, 8, [.celln 2 4],
 (.seq (.reg [(oQ 2 (.newz 0 [zQ, zQ, zQ, zQ]))])
 (.seq (.reg [(oQ 3 (.newz 1 [zQ, zQ, zQ, zQ]))])
 (.seq (.seq (.reg [(oQ 12 (.mv (.t 0))),
 (oQ 13 (.len false (.t 12))),
 (oQ 14 (.mv (iQ 0)))])
 (.block 0 (.loop [.v 14 tQ, .c 1 (.pr tQ (.pr tQ pQ))] [1, 2, 3, 4, 5] [2, 3, 4, 5] (.seq (.reg [(oQ 15 (.bin .lss (.t 14) (.t 13)))])
 (.seq (.cond (.t 15) .skip (.exit 0))
 (.seq (.block 1 (.seq (.reg [(oQ 16 (.mv (.t 14))),
 (oQ 17 (.ia 3 (.t 12) (.t 14))),
 (oQ 18 (.ldn 3 (.t 17))),
 (oQ 5 (.newz 2 [zQ, zQ, zQ])),
 (oQ 4 (.mv (.t 16))),
 (uQ (.st 3 (.t 5) (.t 18)))])
 (.seq (.reg [(oQ 19 (.mv (.t 0))),
 (oQ 20 (.mv (.t 4))),
 (oQ 21 (.sl 3 (.t 19) none (some (.t 20)))),
 (oQ 22 (.len false (.t 21))),
 (oQ 23 (.mv (iQ 0)))])
 (.block 2 (.loop [.v 23 tQ, .c 1 (.pr tQ (.pr tQ pQ))] [1, 3, 4, 5] [3, 4, 5] (.seq (.reg [(oQ 24 (.bin .lss (.t 23) (.t 22)))])
 (.seq (.cond (.t 24) .skip (.exit 2))
 (.seq (.block 3 (.seq (.reg [(oQ 25 (.mv (.t 23))),
 (oQ 26 (.ia 3 (.t 21) (.t 23))),
 (oQ 27 (.ldn 3 (.t 26))),
 (oQ 7 (.newz 3 [zQ, zQ, zQ])),
 (oQ 6 (.mv (.t 25))),
 (uQ (.st 3 (.t 7) (.t 27)))])
 (.seq (.reg [(oQ 28 (.fa 0 (.t 5))),
 (oQ 29 (.ld1 (.t 28))),
 (oQ 30 (.fa 0 (.t 7))),
 (oQ 31 (.ld1 (.t 30))),
 (oQ 32 (.bin .sub (.t 29) (.t 31))),
 (oQ 8 (.mv (.t 32)))])
 (.seq (.reg [(oQ 33 (.fa 1 (.t 5))),
 (oQ 34 (.fa 0 (.t 33))),
 (oQ 35 (.ld1 (.t 34))),
 (oQ 36 (.fa 1 (.t 7))),
 (oQ 37 (.fa 1 (.t 36))),
 (oQ 38 (.ld1 (.t 37))),
 (oQ 39 (.bin .sub (.t 35) (.t 38))),
 (oQ 40 (.mv (.t 8))),
 (oQ 41 (.build [zQ, zQ] [(0, 1, (.t 39)), (1, 1, (.t 40))])),
 (oQ 9 (.newz 4 [zQ, zQ])),
 (uQ (.st 2 (.t 9) (.t 41)))])
 (.seq (.reg [(oQ 42 (.fa 1 (.t 5))),
 (oQ 43 (.fa 1 (.t 42))),
 (oQ 44 (.ld1 (.t 43))),
 (oQ 45 (.fa 1 (.t 7))),
 (oQ 46 (.fa 0 (.t 45))),
 (oQ 47 (.ld1 (.t 46))),
 (oQ 48 (.bin .sub (.t 44) (.t 47))),
 (oQ 49 (.mv (.t 8))),
 (oQ 50 (.build [zQ, zQ] [(0, 1, (.t 48)), (1, 1, (.t 49))])),
 (oQ 10 (.newz 5 [zQ, zQ])),
 (uQ (.st 2 (.t 10) (.t 50)))])
 (.seq (.reg [(oQ 51 (.mv (.t 4))),
 (oQ 52 (.bin .gtr (.t 51) (iQ 1))),
 (oQ 53 (.mv (.t 52))),
 (gQ 54 53 false (.mv (.t 6))),
 (gQ 55 53 false (.bin .gtr (.t 54) (iQ 0))),
 (oQ 56 (.pick (.t 53) (.c (.p (.bool true))) (.t 55))),
 (oQ 11 (.mv (.t 56)))])
 (.seq (.seq (.reg [(oQ 57 (.mv (.t 11))),
 (oQ 58 (.unot (.t 57))),
 (oQ 59 (.mv (.t 58))),
 (gQ 60 59 false (.ldn 2 (.t 9))),
 (gQ 61 59 false (.fa 0 (.t 3))),
 (gQ 62 59 false (.ldn 2 (.t 61))),
 ⟨some 63, some (some 59, false), (.call 6 112 [(.t 60), (.t 62)])⟩,
 (gQ 64 59 false (.bin .gtr (.t 63) (iQ 0))),
 (oQ 65 (.pick (.t 59) (.c (.p (.bool true))) (.t 64)))])
 (.cond (.t 65) (.reg [(oQ 66 (.ldn 2 (.t 9))),
 (oQ 67 (.fa 0 (.t 3))),
 (uQ (.st 2 (.t 67) (.t 66)))]) .skip))
 (.seq (.reg [(oQ 68 (.mv (.t 11))),
 (oQ 69 (.unot (.t 68))),
 (oQ 70 (.mv (.t 69))),
 (gQ 71 70 false (.ldn 2 (.t 10))),
 (gQ 72 70 false (.fa 2 (.t 3))),
 (gQ 73 70 false (.ldn 2 (.t 72))),
 ⟨some 74, some (some 70, false), (.call 7 112 [(.t 71), (.t 73)])⟩,
 (gQ 75 70 false (.bin .lss (.t 74) (iQ 0))),
 (oQ 76 (.pick (.t 70) (.c (.p (.bool true))) (.t 75)))])
 (.cond (.t 76) (.reg [(oQ 77 (.ldn 2 (.t 10))),
 (oQ 78 (.fa 2 (.t 3))),
 (uQ (.st 2 (.t 78) (.t 77)))]) .skip)))))))))
 (.reg [(oQ 79 (.bin .add (.t 23) (iQ 1))),
 (oQ 23 (.mv (.t 79)))])))))))))
 (.reg [(oQ 80 (.bin .add (.t 14) (iQ 1))),
 (oQ 14 (.mv (.t 80)))])))))))
 (.seq (.reg [(oQ 81 (.ldn 4 (.t 3))),
 (uQ (.st 4 (.t 2) (.t 81)))])
 .ret))))⟩
def A_gravity_rates : Nat → Ty := tyAt [.un, .un, .un, .un, .un, .un, .un, .un]
abbrev P_gravity_rates : List PSh := [.one (.sl (.pr tQ pQ))]
abbrev R_gravity_rates : List PSh := [.agg (.pr pQ pQ)]
theorem e_gravity_rates : cFn Tryd.prog 111 = some F_gravity_rates.erase := by kernel_rfl
theorem k_gravity_rates : callable Tryd.prog 111 = true := by kernel_rfl
def F_gravity_compare : TFn := ⟨16, 3, [.tmp 4],
 (.seq (.reg [(oQ 2 (.box 0 (.t 0))),
 (oQ 3 (.box 1 (.t 1))),
 (oQ 4 (.mv (iQ 0)))])
 (.seq (.reg [(oQ 5 (.fa 0 (.t 2))),
 (oQ 6 (.ld1 (.t 5))),
 (oQ 7 (.fa 1 (.t 3))),
 (oQ 8 (.ld1 (.t 7))),
 (oQ 9 (.bin .mul (.t 6) (.t 8))),
 (oQ 10 (.fa 0 (.t 3))),
 (oQ 11 (.ld1 (.t 10))),
 (oQ 12 (.fa 1 (.t 2))),
 (oQ 13 (.ld1 (.t 12))),
 (oQ 14 (.bin .mul (.t 11) (.t 13))),
 (kQ 15 2 135 [(.t 9), (.t 14)]),
 (oQ 4 (.mv (.t 15)))])
 .ret))⟩
def A_gravity_compare : Nat → Ty := tyAt [.un, .un, .un]
abbrev P_gravity_compare : List PSh := [.agg pQ, .agg pQ]
abbrev R_gravity_compare : List PSh := [.one tQ]
theorem e_gravity_compare : cFn Tryd.prog 112 = some F_gravity_compare.erase := by kernel_rfl
theorem k_gravity_compare : callable Tryd.prog 112 = true := by kernel_rfl
def F_gravity_span : TFn := ⟨37, 9, [.celln 4 4, .tmp 5],
 (.seq (.reg [(oQ 2 (.box 0 (.t 0))),
 (oQ 3 (.box 1 (.t 1))),
 (oQ 4 (.newz 2 [zQ, zQ, zQ, zQ])),
 (oQ 5 (.mv (iQ 0)))])
 (.seq (.reg [(oQ 11 (.fa 0 (.t 2))),
 (oQ 12 (.ld1 (.t 11))),
 (oQ 13 (.fa 1 (.t 2))),
 (oQ 14 (.ld1 (.t 13))),
 (kQ 15 3 95 [(.t 12), (.t 14)]),
 (oQ 10 (.mv (.t 15))),
 (oQ 16 (.ext 0 (.t 10))),
 (oQ 17 (.ext 1 (.t 10))),
 (oQ 6 (.newz 4 [zQ, zQ])),
 (uQ (.st 2 (.t 6) (.t 16))),
 (oQ 7 (.mv (.t 17)))])
 (.seq (.reg [(oQ 19 (.fa 0 (.t 3))),
 (oQ 20 (.ld1 (.t 19))),
 (oQ 21 (.fa 1 (.t 3))),
 (oQ 22 (.ld1 (.t 21))),
 (kQ 23 5 95 [(.t 20), (.t 22)]),
 (oQ 18 (.mv (.t 23))),
 (oQ 24 (.ext 0 (.t 18))),
 (oQ 25 (.ext 1 (.t 18))),
 (oQ 8 (.newz 6 [zQ, zQ])),
 (uQ (.st 2 (.t 8) (.t 24))),
 (oQ 9 (.mv (.t 25)))])
 (.seq (.seq (.reg [(oQ 26 (.mv (.t 7))),
 (oQ 27 (.mv (.t 9))),
 (oQ 28 (.bsl false 7 1 2 [zQ, zQ] [(0, 1, (.t 26)), (1, 1, (.t 27))])),
 (kQ 29 8 88 [(.t 28)]),
 (oQ 7 (.mv (.t 29)))])
 (.seq (.reg [(oQ 30 (.mv (.t 7))),
 (oQ 31 (.bin .neq (.t 30) (iQ 0)))])
 (.cond (.t 31) (.seq (.reg [(oQ 32 (.build [zQ, zQ, zQ, zQ] [])),
 (oQ 33 (.mv (.t 7))),
 (uQ (.st 4 (.t 4) (.t 32))),
 (oQ 5 (.mv (.t 33)))])
 .ret) .skip)))
 (.seq (.reg [(oQ 34 (.ldn 2 (.t 6))),
 (oQ 35 (.ldn 2 (.t 8))),
 (oQ 36 (.build [zQ, zQ, zQ, zQ] [(0, 2, (.t 34)), (2, 2, (.t 35))])),
 (uQ (.st 4 (.t 4) (.t 36))),
 (oQ 5 (.mv (iQ 0)))])
 .ret)))))⟩
def A_gravity_span : Nat → Ty := tyAt [.un, .un, .un, .un, .un, .un, .un, tQ, .un]
abbrev P_gravity_span : List PSh := [.agg pQ, .agg pQ]
abbrev R_gravity_span : List PSh := [.agg (.pr pQ pQ), .one tQ]
theorem e_gravity_span : cFn Tryd.prog 113 = some F_gravity_span.erase := by kernel_rfl
theorem k_gravity_span : callable Tryd.prog 113 = true := by kernel_rfl
def F_gravity_divisor : TFn := ⟨15, 0, [.tmp 4],
 (.seq (.reg [(oQ 4 (.mv (iQ 0)))])
 (.seq (.block 0 (.loop [.v 1 tQ, .v 0 tQ] [] [] (.seq (.seq (.reg [(oQ 5 (.mv (.t 1))),
 (oQ 6 (.bin .neq (.t 5) (iQ 0)))])
 (.cond (.t 6) .skip (.exit 0)))
 (.block 1 (.regd [(oQ 7 (.mv (.t 1))),
 (oQ 8 (.mv (.t 0))),
 (oQ 9 (.mv (.t 1))),
 (oQ 10 (.bin .rem (.t 8) (.t 9))),
 (oQ 0 (.mv (.t 7))),
 (oQ 1 (.mv (.t 10)))] [] [])))))
 (.seq (.reg [(oQ 11 (.mv (.t 0))),
 (oQ 12 (.mv (.t 0))),
 (oQ 13 (.uneg (.t 12))),
 (oQ 14 (.mm true (.t 11) (.t 13))),
 (oQ 4 (.mv (.t 14)))])
 .ret)))⟩
def A_gravity_divisor : Nat → Ty := tyAt []
abbrev P_gravity_divisor : List PSh := [.one tQ, .one tQ]
abbrev R_gravity_divisor : List PSh := [.one tQ]
theorem e_gravity_divisor : cFn Tryd.prog 114 = some F_gravity_divisor.erase := by kernel_rfl
theorem k_gravity_divisor : callable Tryd.prog 114 = true := by kernel_rfl
def F_gravity_sum : TFn := ⟨18, 2, [.tmp 2],
 (.seq (.reg [(oQ 1 (.box 0 (.t 0))),
 (oQ 2 (.mv (iQ 0)))])
 (.seq (.reg [(oQ 3 (.mv (iQ 0)))])
 (.seq (.seq (.reg [(oQ 6 (.ldn 1 (.t 1))),
 (kQ 7 1 90 [(.t 6)]),
 (oQ 8 (.len false (.t 7))),
 (oQ 9 (.mv (iQ 0)))])
 (.block 0 (.loop [.v 9 tQ, .v 3 tQ] [] [] (.seq (.reg [(oQ 10 (.bin .lss (.t 9) (.t 8)))])
 (.seq (.cond (.t 10) .skip (.exit 0))
 (.seq (.block 1 (.seq (.reg [(oQ 11 (.ia 1 (.t 7) (.t 9))),
 (oQ 12 (.ld1 (.t 11))),
 (oQ 5 (.mv (.t 12)))])
 (.reg [(oQ 13 (.mv (.t 3))),
 (oQ 14 (.mv (.t 5))),
 (oQ 15 (.bin .add (.t 13) (.t 14))),
 (oQ 3 (.mv (.t 15)))])))
 (.reg [(oQ 16 (.bin .add (.t 9) (iQ 1))),
 (oQ 9 (.mv (.t 16)))])))))))
 (.seq (.reg [(oQ 17 (.mv (.t 3))),
 (oQ 2 (.mv (.t 17)))])
 .ret))))⟩
def A_gravity_sum : Nat → Ty := tyAt [.un, .un]
abbrev P_gravity_sum : List PSh := [.agg (.sl tQ)]
abbrev R_gravity_sum : List PSh := [.one tQ]
theorem e_gravity_sum : cFn Tryd.prog 116 = some F_gravity_sum.erase := by kernel_rfl
theorem k_gravity_sum : callable Tryd.prog 116 = true := by kernel_rfl
def F_gravity_SpanOf_1 : TFn := ⟨9, 1, [.tmp 3],
 (.seq (.reg [(oQ 3 (.mv (.c (.p (.bool false)))))])
 (.seq (.reg [(oQ 4 (.mv (.t 0))),
 (oQ 5 (.fa 0 (.t 1))),
 (oQ 6 (.ld1 (.t 5))),
 (oQ 7 (.bin .sub (.t 6) (iQ 1))),
 (kQ 8 0 94 [(.t 4), (iQ 0), (.t 7)]),
 (oQ 3 (.mv (.t 8)))])
 .ret))⟩
def A_gravity_SpanOf_1 : Nat → Ty := tyAt [.un]
abbrev P_gravity_SpanOf_1 : List PSh := [.one tQ, .ptr (.pr tQ (.sl (.pr tQ (.pr tQ pQ))))]
abbrev R_gravity_SpanOf_1 : List PSh := [.one .bool]
theorem e_gravity_SpanOf_1 : cFn Tryd.prog 122 = some F_gravity_SpanOf_1.erase := by kernel_rfl
theorem k_gravity_SpanOf_1 : callable Tryd.prog 122 = true := by kernel_rfl
def F_gravity_farthest : TFn := ⟨32, 4, [.tmp 6, .tmp 7],
 (.seq (.reg [(oQ 3 (.box 0 (.t 0))),
 (oQ 6 (.mv (iQ 0))),
 (oQ 7 (.mv (.c (.p (.bool false)))))])
 (.seq (.regd [(oQ 10 (.fa 0 (.t 3))),
 (oQ 11 (.ld1 (.t 10))),
 (oQ 12 (.mk 1 1 8 [zQ] (.t 11))),
 (oQ 13 (.fa 0 (.t 3))),
 (oQ 14 (.ld1 (.t 13))),
 (oQ 15 (.mk 2 1 1 [(.p (.bool false))] (.t 14))),
 (oQ 8 (.mv (.t 12))),
 (oQ 9 (.mv (.t 15)))] [(1, 4), (2, 4), (1, 5), (2, 5)] [])
 (.seq (.reg [(oQ 16 (.mv (.t 9))),
 (oQ 17 (.mv (.t 1))),
 (oQ 18 (.ia 1 (.t 16) (.t 17))),
 (uQ (.st 1 (.t 18) (.c (.p (.bool true)))))])
 (.seq (.reg [(oQ 19 (.fa 1 (.t 3))),
 (oQ 20 (.ld1 (.t 19))),
 (oQ 21 (.mv (.t 8))),
 (oQ 22 (.mv (.t 9))),
 (kQ 23 3 133 [(.t 20), (.t 21), (.t 22)])])
 (.seq (.regd [(oQ 24 (.mv (.t 8))),
 (oQ 25 (.mv (.t 2))),
 (oQ 26 (.ia 1 (.t 24) (.t 25))),
 (oQ 27 (.ld1 (.t 26))),
 (oQ 28 (.mv (.t 9))),
 (oQ 29 (.mv (.t 2))),
 (oQ 30 (.ia 1 (.t 28) (.t 29))),
 (oQ 31 (.ld1 (.t 30))),
 (oQ 6 (.mv (.t 27))),
 (oQ 7 (.mv (.t 31)))] [(3, 7)] [])
 .ret)))))⟩
def A_gravity_farthest : Nat → Ty := tyAt [.un, tQ, .bool, .un]
abbrev P_gravity_farthest : List PSh := [.agg (.pr tQ (.sl (.pr tQ (.pr tQ pQ)))), .one tQ, .one tQ]
abbrev R_gravity_farthest : List PSh := [.one tQ, .one .bool]
theorem e_gravity_farthest : cFn Tryd.prog 123 = some F_gravity_farthest.erase := by kernel_rfl
theorem k_gravity_farthest : callable Tryd.prog 123 = true := by kernel_rfl
def F_gravity_clash : TFn := ⟨69, 8, [.tmp 8, .tmp 9],
 (.seq (.reg [(oQ 4 (.box 0 (.t 0))),
 (oQ 8 (.mv (.c (.p (.sl 0 [] true))))),
 (oQ 9 (.mv (.c (.p (.bool false)))))])
 (.seq (.seq (.reg [(oQ 18 (.mv (.t 3))),
 (oQ 19 (.bin .eql (.t 18) (iQ 0)))])
 (.cond (.t 19) (.seq (.reg [(oQ 10 (.mv (.c (.p (.sl 0 [] true)))))])
 (.seq (.seq (.reg [(oQ 20 (.mv (.t 1))),
 (oQ 21 (.len false (.t 20))),
 (oQ 22 (.mv (iQ 0)))])
 (.block 0 (.loop [.v 22 tQ, .o 10 2 (.pr tQ (.pr tQ pQ))] [2] [2] (.seq (.reg [(oQ 23 (.bin .lss (.t 22) (.t 21)))])
 (.seq (.cond (.t 23) .skip (.exit 0))
 (.seq (.block 1 (.seq (.reg [(oQ 24 (.ia 1 (.t 20) (.t 22))),
 (oQ 25 (.ld1 (.t 24))),
 (oQ 12 (.mv (.t 25)))])
 (.reg [(oQ 26 (.mv (.t 10))),
 (oQ 27 (.fa 1 (.t 4))),
 (oQ 28 (.ld1 (.t 27))),
 (oQ 29 (.mv (.t 12))),
 (oQ 30 (.ia 4 (.t 28) (.t 29))),
 (oQ 31 (.ldn 4 (.t 30))),
 (oQ 32 (.bsl false 1 4 1 [zQ, zQ, zQ, zQ] [(0, 4, (.t 31))])),
 (oQ 33 (.app 2 4 32 (.t 26) (.t 32))),
 (oQ 10 (.mv (.t 33)))])))
 (.reg [(oQ 34 (.bin .add (.t 22) (iQ 1))),
 (oQ 22 (.mv (.t 34)))])))))))
 (.seq (.reg [(oQ 36 (.fa 0 (.t 4))),
 (oQ 37 (.ld1 (.t 36))),
 (oQ 38 (.mv (.t 10))),
 (kQ 39 3 106 [(.t 37), (.t 38)]),
 (oQ 35 (.mv (.t 39))),
 (oQ 40 (.ext 0 (.t 35))),
 (oQ 41 (.ext 1 (.t 35))),
 (oQ 13 (.mv (.t 40))),
 (oQ 14 (.mv (.t 41)))])
 (.seq (.reg [(oQ 42 (.mv (.t 1))),
 (oQ 43 (.mv (.t 14))),
 (oQ 44 (.unot (.t 43))),
 (oQ 8 (.mv (.t 42))),
 (oQ 9 (.mv (.t 44)))])
 .ret)))) .skip))
 (.seq (.seq (.reg [(oQ 45 (.mv (.t 2))),
 (oQ 15 (.mv (.t 45)))])
 (.block 2 (.loop [.v 15 tQ] [] [] (.seq (.seq (.reg [(oQ 46 (.mv (.t 15))),
 (oQ 47 (.fa 1 (.t 4))),
 (oQ 48 (.ld1 (.t 47))),
 (oQ 49 (.len false (.t 48))),
 (oQ 50 (.bin .lss (.t 46) (.t 49)))])
 (.cond (.t 50) .skip (.exit 2)))
 (.seq (.block 3 (.seq (.regd [(oQ 54 (.ldn 2 (.t 4))),
 (oQ 55 (.mv (.t 1))),
 (kQ 56 4 136 [(.t 55)]),
 (oQ 57 (.mv (.t 15))),
 (oQ 58 (.bsl false 5 1 1 [zQ] [(0, 1, (.t 57))])),
 (oQ 59 (.app 6 1 8 (.t 56) (.t 58))),
 (oQ 60 (.mv (.t 15))),
 (oQ 61 (.bin .add (.t 60) (iQ 1))),
 (oQ 62 (.mv (.t 3))),
 (oQ 63 (.bin .sub (.t 62) (iQ 1))),
 (kQ 64 7 124 [(.t 54), (.t 59), (.t 61), (.t 63)]),
 (oQ 53 (.mv (.t 64))),
 (oQ 65 (.ext 0 (.t 53))),
 (oQ 66 (.ext 1 (.t 53))),
 (oQ 16 (.mv (.t 65))),
 (oQ 17 (.mv (.t 66)))] [(0, 2), (0, 5)] [])
 (.seq (.reg [(oQ 67 (.mv (.t 17)))])
 (.cond (.t 67) (.seq (.reg [(oQ 68 (.mv (.t 16))),
 (oQ 8 (.mv (.t 68))),
 (oQ 9 (.mv (.c (.p (.bool true)))))])
 .ret) .skip))))
 (.reg [(oQ 51 (.mv (.t 15))),
 (oQ 52 (.bin .add (.t 51) (iQ 1))),
 (oQ 15 (.mv (.t 52)))]))))))
 (.seq (.reg [(oQ 8 (.mv (.c (.p (.sl 0 [] true))))),
 (oQ 9 (.mv (.c (.p (.bool false)))))])
 .ret))))⟩
def A_gravity_clash : Nat → Ty := tyAt [.un, (.pr tQ (.pr tQ pQ)), (.pr tQ (.pr tQ pQ)), .un, .un, tQ, tQ, .un]
abbrev P_gravity_clash : List PSh := [.agg (.pr tQ (.sl (.pr tQ (.pr tQ pQ)))), .one (.sl tQ), .one tQ, .one tQ]
abbrev R_gravity_clash : List PSh := [.one (.sl tQ), .one .bool]
theorem e_gravity_clash : cFn Tryd.prog 124 = some F_gravity_clash.erase := by kernel_rfl
theorem k_gravity_clash : callable Tryd.prog 124 = true := by kernel_rfl
def F_slices_Cloneint_int : TFn := ⟨8, 2, [.tmp 2],
 (.seq (.reg [(oQ 2 (.mv (.c (.p (.sl 0 [] true)))))])
 (.seq (.seq (.reg [(oQ 3 (.mv (.t 0))),
 (oQ 4 (.isn (.t 3)))])
 (.cond (.t 4) (.seq (.reg [(oQ 2 (.mv (.c (.p (.sl 0 [] true)))))])
 .ret) .skip))
 (.seq (.reg [(oQ 5 (.bsl true 0 1 0 [] [])),
 (oQ 6 (.mv (.t 0))),
 (oQ 7 (.app 1 1 8 (.t 5) (.t 6))),
 (oQ 2 (.mv (.t 7)))])
 .ret)))⟩
def A_slices_Cloneint_int : Nat → Ty := tyAt [tQ, tQ]
abbrev P_slices_Cloneint_int : List PSh := [.one (.sl tQ)]
abbrev R_slices_Cloneint_int : List PSh := [.one (.sl tQ)]
abbrev E_slices_Cloneint_int : Ty := tQ
theorem e_slices_Cloneint_int : cFn Tryd.prog 125 = some F_slices_Cloneint_int.erase := by kernel_rfl
theorem k_slices_Cloneint_int : callable Tryd.prog 125 = true := by kernel_rfl
def F_ref05_clashOf : TFn := ⟨51, 6, [.tmp 6, .tmp 7],
 (.seq (.reg [(oQ 3 (.box 0 (.t 0))),
 (oQ 6 (.mv (.c (.p (.sl 0 [] true))))),
 (oQ 7 (.mv (.c (.p (.bool false)))))])
 (.seq (.seq (.reg [(oQ 12 (.mv (.t 2))),
 (oQ 13 (.bin .eql (.t 12) (iQ 0)))])
 (.cond (.t 13) (.seq (.reg [(oQ 14 (.mv (.t 1))),
 (oQ 15 (.ldn 2 (.t 3))),
 (oQ 16 (.mv (.t 1))),
 (kQ 17 1 127 [(.t 15), (.t 16)]),
 (oQ 18 (.unot (.t 17))),
 (oQ 6 (.mv (.t 14))),
 (oQ 7 (.mv (.t 18)))])
 .ret) .skip))
 (.seq (.reg [(oQ 8 (.mv (iQ 0)))])
 (.seq (.seq (.reg [(oQ 19 (.mv (.t 1))),
 (oQ 20 (.len false (.t 19))),
 (oQ 21 (.bin .gtr (.t 20) (iQ 0)))])
 (.cond (.t 21) (.reg [(oQ 22 (.mv (.t 1))),
 (oQ 23 (.mv (.t 1))),
 (oQ 24 (.len false (.t 23))),
 (oQ 25 (.bin .sub (.t 24) (iQ 1))),
 (oQ 26 (.ia 1 (.t 22) (.t 25))),
 (oQ 27 (.ld1 (.t 26))),
 (oQ 28 (.bin .add (.t 27) (iQ 1))),
 (oQ 8 (.mv (.t 28)))]) .skip))
 (.seq (.seq (.reg [(oQ 29 (.mv (.t 8))),
 (oQ 9 (.mv (.t 29)))])
 (.block 0 (.loop [.v 9 tQ] [2] [2] (.seq (.seq (.reg [(oQ 30 (.mv (.t 9))),
 (oQ 31 (.fa 1 (.t 3))),
 (oQ 32 (.ld1 (.t 31))),
 (oQ 33 (.len false (.t 32))),
 (oQ 34 (.bin .lss (.t 30) (.t 33)))])
 (.cond (.t 34) .skip (.exit 0)))
 (.seq (.block 1 (.seq (.regd [(oQ 38 (.ldn 2 (.t 3))),
 (oQ 39 (.mv (.t 1))),
 (kQ 40 2 31 [(.t 39)]),
 (oQ 41 (.mv (.t 9))),
 (oQ 42 (.bsl false 3 1 1 [zQ] [(0, 1, (.t 41))])),
 (oQ 43 (.app 4 1 8 (.t 40) (.t 42))),
 (oQ 44 (.mv (.t 2))),
 (oQ 45 (.bin .sub (.t 44) (iQ 1))),
 (kQ 46 5 126 [(.t 38), (.t 43), (.t 45)]),
 (oQ 37 (.mv (.t 46))),
 (oQ 47 (.ext 0 (.t 37))),
 (oQ 48 (.ext 1 (.t 37))),
 (oQ 10 (.mv (.t 47))),
 (oQ 11 (.mv (.t 48)))] [(0, 2), (0, 5)] [])
 (.seq (.reg [(oQ 49 (.mv (.t 11)))])
 (.cond (.t 49) (.seq (.reg [(oQ 50 (.mv (.t 10))),
 (oQ 6 (.mv (.t 50))),
 (oQ 7 (.mv (.c (.p (.bool true)))))])
 .ret) .skip))))
 (.reg [(oQ 35 (.mv (.t 9))),
 (oQ 36 (.bin .add (.t 35) (iQ 1))),
 (oQ 9 (.mv (.t 36)))]))))))
 (.seq (.reg [(oQ 6 (.mv (.c (.p (.sl 0 [] true))))),
 (oQ 7 (.mv (.c (.p (.bool false)))))])
 .ret))))))⟩
def A_ref05_clashOf : Nat → Ty := tyAt [.un, .un, .un, tQ, tQ, .un]
abbrev P_ref05_clashOf : List PSh := [.agg (.pr tQ (.sl (.pr tQ (.pr tQ pQ)))), .one (.sl tQ), .one tQ]
abbrev R_ref05_clashOf : List PSh := [.one (.sl tQ), .one .bool]
theorem e_ref05_clashOf : cFn Tryd.prog 126 = some F_ref05_clashOf.erase := by kernel_rfl
theorem k_ref05_clashOf : callable Tryd.prog 126 = true := by kernel_rfl
def F_ref05_Agree : TFn := ⟨17, 3, [.tmp 4],
 (.seq (.reg [(oQ 2 (.box 0 (.t 0))),
 (oQ 4 (.mv (.c (.p (.bool false)))))])
 (.seq (.regd [(oQ 8 (.ldn 2 (.t 2))),
 (oQ 9 (.mv (.t 1))),
 (oQ 10 (.fa 0 (.t 2))),
 (oQ 11 (.ld1 (.t 10))),
 (oQ 12 (.mk 1 1 8 [zQ] (.t 11))),
 (kQ 13 2 109 [(.t 8), (.t 9), (.t 12)]),
 (oQ 7 (.mv (.t 13))),
 (oQ 14 (.ext 0 (.t 7))),
 (oQ 15 (.ext 1 (.t 7))),
 (oQ 5 (.mv (.t 14))),
 (oQ 6 (.mv (.t 15)))] [(0, 3), (0, 4)] [])
 (.seq (.reg [(oQ 16 (.mv (.t 6))),
 (oQ 4 (.mv (.t 16)))])
 .ret)))⟩
def A_ref05_Agree : Nat → Ty := tyAt [.un, tQ, .un]
abbrev P_ref05_Agree : List PSh := [.agg (.pr tQ (.sl (.pr tQ (.pr tQ pQ)))), .one (.sl tQ)]
abbrev R_ref05_Agree : List PSh := [.one .bool]
theorem e_ref05_Agree : cFn Tryd.prog 127 = some F_ref05_Agree.erase := by kernel_rfl
theorem k_ref05_Agree : callable Tryd.prog 127 = true := by kernel_rfl
def F_ref05_most : TFn := ⟨105, 3, [.tmp 6, .tmp 7],
 (.seq (.reg [(oQ 3 (.box 0 (.t 0))),
 (oQ 6 (.mv (iQ 0))),
 (oQ 7 (.mv (.c (.p (.bool false)))))])
 (.seq (.reg [(oQ 13 (.fa 0 (.t 3))),
 (oQ 14 (.ld1 (.t 13))),
 (oQ 15 (.mk 1 1 8 [zQ] (.t 14))),
 (oQ 8 (.mv (.t 15)))])
 (.seq (.seq (.reg [(oQ 9 (.mv (iQ 0)))])
 (.block 0 (.loop [.v 9 tQ, .d 1 tQ] [1] [] (.seq (.seq (.reg [(oQ 16 (.mv (.t 9))),
 (oQ 17 (.mv (.t 8))),
 (oQ 18 (.len false (.t 17))),
 (oQ 19 (.bin .lss (.t 16) (.t 18)))])
 (.cond (.t 19) .skip (.exit 0)))
 (.seq (.block 1 (.reg [(oQ 22 (.mv (.t 8))),
 (oQ 23 (.mv (.t 9))),
 (oQ 24 (.ia 1 (.t 22) (.t 23))),
 (uQ (.st 1 (.t 24) (iQ 100000000)))]))
 (.reg [(oQ 20 (.mv (.t 9))),
 (oQ 21 (.bin .add (.t 20) (iQ 1))),
 (oQ 9 (.mv (.t 21)))]))))))
 (.seq (.reg [(oQ 25 (.mv (.t 8))),
 (oQ 26 (.mv (.t 1))),
 (oQ 27 (.ia 1 (.t 25) (.t 26))),
 (uQ (.st 1 (.t 27) (iQ 0)))])
 (.seq (.seq (.reg [(oQ 10 (.mv (iQ 0)))])
 (.block 2 (.loop [.v 10 tQ, .d 1 tQ] [1, 2] [2] (.seq (.seq (.reg [(oQ 28 (.mv (.t 10))),
 (oQ 29 (.fa 0 (.t 3))),
 (oQ 30 (.ld1 (.t 29))),
 (oQ 31 (.bin .lss (.t 28) (.t 30)))])
 (.cond (.t 31) .skip (.exit 2)))
 (.seq (.block 3 (.seq (.reg [(oQ 11 (.mv (iQ 0)))])
 (.block 4 (.loop [.v 11 tQ, .d 1 tQ] [1, 2] [2] (.seq (.seq (.reg [(oQ 34 (.mv (.t 11))),
 (oQ 35 (.fa 1 (.t 3))),
 (oQ 36 (.ld1 (.t 35))),
 (oQ 37 (.len false (.t 36))),
 (oQ 38 (.bin .lss (.t 34) (.t 37)))])
 (.cond (.t 38) .skip (.exit 4)))
 (.seq (.block 5 (.seq (.reg [(oQ 41 (.fa 1 (.t 3))),
 (oQ 42 (.ld1 (.t 41))),
 (oQ 43 (.mv (.t 11))),
 (oQ 44 (.ia 4 (.t 42) (.t 43))),
 (oQ 45 (.ldn 4 (.t 44))),
 (oQ 12 (.newz 2 [zQ, zQ, zQ, zQ])),
 (uQ (.st 4 (.t 12) (.t 45)))])
 (.seq (.seq (.reg [(oQ 46 (.mv (.t 8))),
 (oQ 47 (.fa 0 (.t 12))),
 (oQ 48 (.ld1 (.t 47))),
 (oQ 49 (.ia 1 (.t 46) (.t 48))),
 (oQ 50 (.ld1 (.t 49))),
 (oQ 51 (.bin .lss (.t 50) (iQ 50000000)))])
 (.cond (.t 51) (.regd [(oQ 52 (.mv (.t 8))),
 (oQ 53 (.fa 1 (.t 12))),
 (oQ 54 (.ld1 (.t 53))),
 (oQ 55 (.mv (.t 8))),
 (oQ 56 (.fa 1 (.t 12))),
 (oQ 57 (.ld1 (.t 56))),
 (oQ 58 (.ia 1 (.t 55) (.t 57))),
 (oQ 59 (.ld1 (.t 58))),
 (oQ 60 (.mv (.t 8))),
 (oQ 61 (.fa 0 (.t 12))),
 (oQ 62 (.ld1 (.t 61))),
 (oQ 63 (.ia 1 (.t 60) (.t 62))),
 (oQ 64 (.ld1 (.t 63))),
 (oQ 65 (.fa 2 (.t 12))),
 (oQ 66 (.fa 1 (.t 65))),
 (oQ 67 (.ld1 (.t 66))),
 (oQ 68 (.bin .add (.t 64) (.t 67))),
 (oQ 69 (.mm false (.t 59) (.t 68))),
 (oQ 70 (.ia 1 (.t 52) (.t 54))),
 (uQ (.st 1 (.t 70) (.t 69)))] [(2, 5), (2, 7), (2, 10), (5, 10), (7, 10), (2, 12), (5, 12), (7, 12), (2, 15), (5, 15), (7, 15), (10, 15), (12, 15)] []) .skip))
 (.seq (.reg [(oQ 71 (.mv (.t 8))),
 (oQ 72 (.fa 1 (.t 12))),
 (oQ 73 (.ld1 (.t 72))),
 (oQ 74 (.ia 1 (.t 71) (.t 73))),
 (oQ 75 (.ld1 (.t 74))),
 (oQ 76 (.bin .lss (.t 75) (iQ 50000000)))])
 (.cond (.t 76) (.regd [(oQ 77 (.mv (.t 8))),
 (oQ 78 (.fa 0 (.t 12))),
 (oQ 79 (.ld1 (.t 78))),
 (oQ 80 (.mv (.t 8))),
 (oQ 81 (.fa 0 (.t 12))),
 (oQ 82 (.ld1 (.t 81))),
 (oQ 83 (.ia 1 (.t 80) (.t 82))),
 (oQ 84 (.ld1 (.t 83))),
 (oQ 85 (.mv (.t 8))),
 (oQ 86 (.fa 1 (.t 12))),
 (oQ 87 (.ld1 (.t 86))),
 (oQ 88 (.ia 1 (.t 85) (.t 87))),
 (oQ 89 (.ld1 (.t 88))),
 (oQ 90 (.fa 2 (.t 12))),
 (oQ 91 (.fa 0 (.t 90))),
 (oQ 92 (.ld1 (.t 91))),
 (oQ 93 (.bin .sub (.t 89) (.t 92))),
 (oQ 94 (.mm false (.t 84) (.t 93))),
 (oQ 95 (.ia 1 (.t 77) (.t 79))),
 (uQ (.st 1 (.t 95) (.t 94)))] [(2, 5), (2, 7), (2, 10), (5, 10), (7, 10), (2, 12), (5, 12), (7, 12), (2, 15), (5, 15), (7, 15), (10, 15), (12, 15)] []) .skip)))))
 (.reg [(oQ 39 (.mv (.t 11))),
 (oQ 40 (.bin .add (.t 39) (iQ 1))),
 (oQ 11 (.mv (.t 40)))])))))))
 (.reg [(oQ 32 (.mv (.t 10))),
 (oQ 33 (.bin .add (.t 32) (iQ 1))),
 (oQ 10 (.mv (.t 33)))]))))))
 (.seq (.regd [(oQ 96 (.mv (.t 8))),
 (oQ 97 (.mv (.t 2))),
 (oQ 98 (.ia 1 (.t 96) (.t 97))),
 (oQ 99 (.ld1 (.t 98))),
 (oQ 100 (.mv (.t 8))),
 (oQ 101 (.mv (.t 2))),
 (oQ 102 (.ia 1 (.t 100) (.t 101))),
 (oQ 103 (.ld1 (.t 102))),
 (oQ 104 (.bin .lss (.t 103) (iQ 50000000))),
 (oQ 6 (.mv (.t 99))),
 (oQ 7 (.mv (.t 104)))] [(3, 7)] [])
 .ret))))))⟩
def A_ref05_most : Nat → Ty := tyAt [.un, tQ, .un]
abbrev P_ref05_most : List PSh := [.agg (.pr tQ (.sl (.pr tQ (.pr tQ pQ)))), .one tQ, .one tQ]
abbrev R_ref05_most : List PSh := [.one tQ, .one .bool]
theorem e_ref05_most : cFn Tryd.prog 128 = some F_ref05_most.erase := by kernel_rfl
theorem k_ref05_most : callable Tryd.prog 128 = true := by kernel_rfl
def F_slices_Reverseint_int : TFn := ⟨28, 0, [],
 (.seq (.reg [(oQ 4 (.mv (.t 0))),
 (oQ 5 (.len false (.t 4))),
 (oQ 6 (.bin .sub (.t 5) (iQ 1))),
 (oQ 2 (.mv (iQ 0))),
 (oQ 3 (.mv (.t 6)))])
 (.block 0 (.loop [.v 3 tQ, .v 2 tQ, .d 0 tQ] [0] [] (.seq (.seq (.reg [(oQ 7 (.mv (.t 2))),
 (oQ 8 (.mv (.t 3))),
 (oQ 9 (.bin .lss (.t 7) (.t 8)))])
 (.cond (.t 9) .skip (.exit 0)))
 (.seq (.block 1 (.regd [(oQ 14 (.mv (.t 0))),
 (oQ 15 (.mv (.t 2))),
 (oQ 16 (.mv (.t 0))),
 (oQ 17 (.mv (.t 3))),
 (oQ 18 (.mv (.t 0))),
 (oQ 19 (.mv (.t 3))),
 (oQ 20 (.ia 1 (.t 18) (.t 19))),
 (oQ 21 (.ld1 (.t 20))),
 (oQ 22 (.mv (.t 0))),
 (oQ 23 (.mv (.t 2))),
 (oQ 24 (.ia 1 (.t 22) (.t 23))),
 (oQ 25 (.ld1 (.t 24))),
 (oQ 26 (.ia 1 (.t 14) (.t 15))),
 (uQ (.st 1 (.t 26) (.t 21))),
 (oQ 27 (.ia 1 (.t 16) (.t 17))),
 (uQ (.st 1 (.t 27) (.t 25)))] [(7, 11)] []))
 (.reg [(oQ 10 (.mv (.t 2))),
 (oQ 11 (.bin .add (.t 10) (iQ 1))),
 (oQ 12 (.mv (.t 3))),
 (oQ 13 (.bin .sub (.t 12) (iQ 1))),
 (oQ 2 (.mv (.t 11))),
 (oQ 3 (.mv (.t 13)))]))))))⟩
def A_slices_Reverseint_int : Nat → Ty := tyAt [.un]
abbrev P_slices_Reverseint_int : List PSh := [.one (.sl tQ)]
abbrev R_slices_Reverseint_int : List PSh := [.one (.sl tQ)]
theorem e_slices_Reverseint_int : cFnN Tryd.prog 1 129 = some F_slices_Reverseint_int.erase := by kernel_rfl
theorem k_slices_Reverseint_int : callable Tryd.prog 129 = true := by kernel_rfl
def F_slices_ContainsFuncint_int__gravity_readingsErr_1 : TFn := ⟨9, 1, [.tmp 4],
 (.seq (.reg [(oQ 4 (.mv (.c (.p (.bool false)))))])
 (.seq (.reg [(oQ 5 (.mv (.t 0))),
 (oQ 6 (.mv (.t 1))),
 (kQ 7 0 107 [(.t 5), (.t 6)]),
 (oQ 8 (.bin .geq (.t 7) (iQ 0))),
 (oQ 4 (.mv (.t 8)))])
 .ret))⟩
def A_slices_ContainsFuncint_int__gravity_readingsErr_1 : Nat → Ty := tyAt [.un]
abbrev P_slices_ContainsFuncint_int__gravity_readingsErr_1 : List PSh := [.one (.sl tQ), .fn 131 []]
abbrev R_slices_ContainsFuncint_int__gravity_readingsErr_1 : List PSh := [.one .bool]
theorem e_slices_ContainsFuncint_int__gravity_readingsErr_1 : cFn Tryd.prog 91 = some F_slices_ContainsFuncint_int__gravity_readingsErr_1.erase := by kernel_rfl
theorem k_slices_ContainsFuncint_int__gravity_readingsErr_1 : callable Tryd.prog 91 = true := by kernel_rfl
def F_slices_Repeatbool_bool : TFn := ⟨0, 0, [],
 .skip⟩
def A_slices_Repeatbool_bool : Nat → Ty := tyAt []
abbrev P_slices_Repeatbool_bool : List PSh := [.one (.sl .bool), .one tQ]
abbrev R_slices_Repeatbool_bool : List PSh := [.one (.sl .bool)]
abbrev E_slices_Repeatbool_bool : Ty := .bool

theorem k_slices_Repeatbool_bool : callable Tryd.prog 134 = true := by kernel_rfl
def F_gravity_lowered : TFn := ⟨59, 5, [.tmp 6],
 (.seq (.reg [(oQ 4 (.box 2 (.t 1))),
 (oQ 5 (.box 3 (.t 2))),
 (oQ 6 (.mv (.c (.p (.bool false)))))])
 (.seq (.seq (.reg [(oQ 10 (.ld1 (.t 4))),
 (oQ 11 (.len false (.t 10))),
 (oQ 12 (.bin .add (.t 11) (iQ 1))),
 (oQ 13 (.mv (iQ 0)))])
 (.block 0 (.loop [.v 13 tQ, .d 0 tQ, .d 1 .bool] [0, 1, 4, 6] [4, 6] (.seq (.reg [(oQ 14 (.bin .lss (.t 13) (.t 12)))])
 (.seq (.cond (.t 14) .skip (.exit 0))
 (.seq (.block 1 (.seq (.reg [(oQ 7 (.newz 4 [(.p (.bool false))])),
 (uQ (.st 1 (.t 7) (.c (.p (.bool false)))))])
 (.seq (.seq (.reg [(oQ 15 (.mv (.t 0))),
 (kQ 16 5 139 [(.t 15)])])
 (.block 2 (.rng (.t 16) [17] [17, 8, 18, 19, 20, 21, 22, 23, 24, 25, 26, 27, 28, 29, 30, 31, 9, 32, 33, 34, 35, 36, 37, 38, 39, 40, 41, 42, 43, 44, 45, 46, 47, 48, 49, 50, 51, 52, 53, 54, 55] [.d 0 tQ, .d 1 .bool, .c 4 .bool] [0, 1, 4, 6] [6] (.reg [(oQ 8 (.newz 6 [zQ, zQ, zQ])),
 (uQ (.st 3 (.t 8) (.t 17)))])
 (.block 3 (.seq (.seq (.reg [(oQ 18 (.ld1 (.t 5))),
 (oQ 19 (.fa 1 (.t 8))),
 (oQ 20 (.ld1 (.t 19))),
 (oQ 21 (.ia 1 (.t 18) (.t 20))),
 (oQ 22 (.ld1 (.t 21))),
 (oQ 23 (.unot (.t 22)))])
 (.cond (.t 23) (.exit 3) .skip))
 (.seq (.regd [(oQ 24 (.ld1 (.t 4))),
 (oQ 25 (.fa 1 (.t 8))),
 (oQ 26 (.ld1 (.t 25))),
 (oQ 27 (.ia 1 (.t 24) (.t 26))),
 (oQ 28 (.ld1 (.t 27))),
 (oQ 29 (.fa 2 (.t 8))),
 (oQ 30 (.ld1 (.t 29))),
 (oQ 31 (.bin .add (.t 28) (.t 30))),
 (oQ 9 (.mv (.t 31)))] [(0, 2), (0, 6), (2, 6), (4, 6)] [])
 (.seq (.reg [(oQ 32 (.ld1 (.t 5))),
 (oQ 33 (.fa 0 (.t 8))),
 (oQ 34 (.ld1 (.t 33))),
 (oQ 35 (.ia 1 (.t 32) (.t 34))),
 (oQ 36 (.ld1 (.t 35))),
 (oQ 37 (.unot (.t 36))),
 (oQ 38 (.mv (.t 37))),
 (gQ 39 38 false (.mv (.t 9))),
 (gQ 40 38 false (.ld1 (.t 4))),
 (gQ 41 38 false (.fa 0 (.t 8))),
 (gQ 42 38 false (.ld1 (.t 41))),
 (gQ 43 38 false (.ia 1 (.t 40) (.t 42))),
 (gQ 44 38 false (.ld1 (.t 43))),
 (gQ 45 38 false (.bin .lss (.t 39) (.t 44))),
 (oQ 46 (.pick (.t 38) (.c (.p (.bool true))) (.t 45)))])
 (.cond (.t 46) (.regd [(oQ 47 (.ld1 (.t 4))),
 (oQ 48 (.fa 0 (.t 8))),
 (oQ 49 (.ld1 (.t 48))),
 (oQ 50 (.ld1 (.t 5))),
 (oQ 51 (.fa 0 (.t 8))),
 (oQ 52 (.ld1 (.t 51))),
 (oQ 53 (.mv (.t 9))),
 (oQ 54 (.ia 1 (.t 47) (.t 49))),
 (uQ (.st 1 (.t 54) (.t 53))),
 (oQ 55 (.ia 1 (.t 50) (.t 52))),
 (uQ (.st 1 (.t 55) (.c (.p (.bool true))))),
 (uQ (.st 1 (.t 7) (.c (.p (.bool true)))))] [(0, 2), (0, 3), (2, 3), (0, 5), (2, 5), (3, 5), (3, 8), (5, 8)] []) .skip))))))))
 (.seq (.reg [(oQ 56 (.ld1 (.t 7))),
 (oQ 57 (.unot (.t 56)))])
 (.cond (.t 57) (.seq (.reg [(oQ 6 (.mv (.c (.p (.bool true)))))])
 .ret) .skip)))))
 (.reg [(oQ 58 (.bin .add (.t 13) (iQ 1))),
 (oQ 13 (.mv (.t 58)))])))))))
 (.seq (.reg [(oQ 6 (.mv (.c (.p (.bool false)))))])
 .ret)))⟩
def A_gravity_lowered : Nat → Ty := tyAt [.un, .un, .un, .un, .un, .un, .un]
abbrev P_gravity_lowered : List PSh := [.one (.sl (.pr tQ (.pr tQ pQ))), .one (.sl tQ), .one (.sl .bool)]
abbrev R_gravity_lowered : List PSh := [.one .bool, .one (.sl tQ), .one (.sl .bool)]
theorem e_gravity_lowered : cFnN Tryd.prog 2 133 = some F_gravity_lowered.erase := by kernel_rfl
theorem k_gravity_lowered : callable Tryd.prog 133 = true := by kernel_rfl
def F_cmp_Compareint : TFn := ⟨20, 2, [.tmp 4],
 (.seq (.reg [(oQ 4 (.mv (iQ 0)))])
 (.seq (.reg [(oQ 7 (.mv (.t 0))),
 (kQ 8 0 140 [(.t 7)]),
 (oQ 5 (.mv (.t 8)))])
 (.seq (.reg [(oQ 9 (.mv (.t 1))),
 (kQ 10 1 140 [(.t 9)]),
 (oQ 6 (.mv (.t 10)))])
 (.seq (.seq (.reg [(oQ 11 (.mv (.t 5)))])
 (.cond (.t 11) (.seq (.seq (.reg [(oQ 12 (.mv (.t 6)))])
 (.cond (.t 12) (.seq (.reg [(oQ 4 (.mv (iQ 0)))])
 .ret) .skip))
 (.seq (.reg [(oQ 4 (.mv (iQ (-1))))])
 .ret)) .skip))
 (.seq (.seq (.reg [(oQ 13 (.mv (.t 6)))])
 (.cond (.t 13) (.seq (.reg [(oQ 4 (.mv (iQ 1)))])
 .ret) .skip))
 (.seq (.seq (.reg [(oQ 14 (.mv (.t 0))),
 (oQ 15 (.mv (.t 1))),
 (oQ 16 (.bin .lss (.t 14) (.t 15)))])
 (.cond (.t 16) (.seq (.reg [(oQ 4 (.mv (iQ (-1))))])
 .ret) .skip))
 (.seq (.seq (.reg [(oQ 17 (.mv (.t 0))),
 (oQ 18 (.mv (.t 1))),
 (oQ 19 (.bin .gtr (.t 17) (.t 18)))])
 (.cond (.t 19) (.seq (.reg [(oQ 4 (.mv (iQ 1)))])
 .ret) .skip))
 (.seq (.reg [(oQ 4 (.mv (iQ 0)))])
 .ret))))))))⟩
def A_cmp_Compareint : Nat → Ty := tyAt [.un, .un]
abbrev P_cmp_Compareint : List PSh := [.one tQ, .one tQ]
abbrev R_cmp_Compareint : List PSh := [.one tQ]
theorem e_cmp_Compareint : cFn Tryd.prog 135 = some F_cmp_Compareint.erase := by kernel_rfl
theorem k_cmp_Compareint : callable Tryd.prog 135 = true := by kernel_rfl
def F_gravity_Composed_1 : TFn := ⟨6, 1, [.tmp 2],
 (.seq (.reg [(oQ 2 (.mv (.c (.p (.bool false)))))])
 (.seq (.reg [(oQ 3 (.mv (.t 0))),
 (kQ 4 0 93 [(.t 3), (iQ 100000)]),
 (oQ 5 (.unot (.t 4))),
 (oQ 2 (.mv (.t 5)))])
 .ret))⟩
def A_gravity_Composed_1 : Nat → Ty := tyAt [.un]
abbrev P_gravity_Composed_1 : List PSh := [.one tQ]
abbrev R_gravity_Composed_1 : List PSh := [.one .bool]
theorem e_gravity_Composed_1 : cFn Tryd.prog 92 = some F_gravity_Composed_1.erase := by kernel_rfl
theorem k_gravity_Composed_1 : callable Tryd.prog 92 = true := by kernel_rfl
def F_slices_IndexFuncint_int__gravity_readingsErr_1 : TFn := ⟨19, 1, [.tmp 4],
 (.seq (.reg [(oQ 4 (.mv (iQ 0)))])
 (.seq (.seq (.reg [(oQ 6 (.mv (.t 0))),
 (oQ 7 (.len false (.t 6))),
 (oQ 8 (.mv (iQ 0)))])
 (.block 0 (.loop [.v 8 tQ] [] [] (.seq (.reg [(oQ 9 (.bin .lss (.t 8) (.t 7)))])
 (.seq (.cond (.t 9) .skip (.exit 0))
 (.seq (.block 1 (.seq (.reg [(oQ 10 (.mv (.t 8))),
 (oQ 5 (.mv (.t 10)))])
 (.seq (.reg [(oQ 11 (.mv (.t 1))),
 (oQ 12 (.mv (.t 0))),
 (oQ 13 (.mv (.t 5))),
 (oQ 14 (.ia 1 (.t 12) (.t 13))),
 (oQ 15 (.ld1 (.t 14))),
 ⟨some 16, none, (.callv 0 (.t 11) [(.t 15)])⟩])
 (.cond (.t 16) (.seq (.reg [(oQ 17 (.mv (.t 5))),
 (oQ 4 (.mv (.t 17)))])
 .ret) .skip))))
 (.reg [(oQ 18 (.bin .add (.t 8) (iQ 1))),
 (oQ 8 (.mv (.t 18)))])))))))
 (.seq (.reg [(oQ 4 (.mv (iQ (-1))))])
 .ret)))⟩
def A_slices_IndexFuncint_int__gravity_readingsErr_1 : Nat → Ty := tyAt [.un]
abbrev P_slices_IndexFuncint_int__gravity_readingsErr_1 : List PSh := [.one (.sl tQ), .fn 131 []]
abbrev R_slices_IndexFuncint_int__gravity_readingsErr_1 : List PSh := [.one tQ]
theorem e_slices_IndexFuncint_int__gravity_readingsErr_1 : cFn Tryd.prog 107 = some F_slices_IndexFuncint_int__gravity_readingsErr_1.erase := by kernel_rfl
theorem k_slices_IndexFuncint_int__gravity_readingsErr_1 : callable Tryd.prog 107 = true := by kernel_rfl
def F_gravity_bounds : TFn := ⟨4, 1, [.tmp 2],
 (.seq (.reg [(oQ 1 (.box 0 (.t 0))),
 (oQ 2 (.mv (.c .und)))])
 (.seq (.reg [(oQ 3 (.clo 141 [(.t 1)])),
 (oQ 2 (.mv (.t 3)))])
 .ret))⟩
def A_gravity_bounds : Nat → Ty := tyAt [.un]
abbrev P_gravity_bounds : List PSh := [.one (.sl (.pr tQ (.pr tQ pQ)))]
abbrev R_gravity_bounds : List PSh := [.fn 141 [(.sl (.pr tQ (.pr tQ pQ)))]]
theorem e_gravity_bounds : cFn Tryd.prog 139 = some F_gravity_bounds.erase := by kernel_rfl
theorem k_gravity_bounds : callable Tryd.prog 139 = true := by kernel_rfl
def F_gravity_bounds_1 : TFn := ⟨37, 3, [],
 (.seq (.reg [(oQ 5 (.ld1 (.t 1))),
 (oQ 6 (.len false (.t 5))),
 (oQ 7 (.mv (iQ 0)))])
 (.block 0 (.loop [] [] [] (.seq (.reg [(oQ 8 (.bin .lss (.t 7) (.t 6)))])
 (.seq (.cond (.t 8) .skip (.exit 0))
 (.seq (.block 1 (.seq (.reg [(oQ 9 (.ia 4 (.t 5) (.t 7))),
 (oQ 10 (.ldn 4 (.t 9))),
 (oQ 4 (.newz 0 [zQ, zQ, zQ, zQ])),
 (uQ (.st 4 (.t 4) (.t 10)))])
 (.seq (.reg [(oQ 11 (.mv (.t 0))),
 (oQ 12 (.fa 1 (.t 4))),
 (oQ 13 (.ld1 (.t 12))),
 (oQ 14 (.fa 0 (.t 4))),
 (oQ 15 (.ld1 (.t 14))),
 (oQ 16 (.fa 2 (.t 4))),
 (oQ 17 (.fa 1 (.t 16))),
 (oQ 18 (.ld1 (.t 17))),
 (oQ 19 (.build [zQ, zQ, zQ] [(0, 1, (.t 13)), (1, 1, (.t 15)), (2, 1, (.t 18))])),
 ⟨some 20, none, (.callv 1 (.t 11) [(.t 19)])⟩,
 (oQ 21 (.unot (.t 20))),
 (oQ 22 (.mv (.t 21))),
 (gQ 23 22 false (.mv (.t 0))),
 (gQ 24 22 false (.fa 0 (.t 4))),
 (gQ 25 22 false (.ld1 (.t 24))),
 (gQ 26 22 false (.fa 1 (.t 4))),
 (gQ 27 22 false (.ld1 (.t 26))),
 (gQ 28 22 false (.fa 2 (.t 4))),
 (gQ 29 22 false (.fa 0 (.t 28))),
 (gQ 30 22 false (.ld1 (.t 29))),
 (gQ 31 22 false (.uneg (.t 30))),
 (gQ 32 22 false (.build [zQ, zQ, zQ] [(0, 1, (.t 25)), (1, 1, (.t 27)), (2, 1, (.t 31))])),
 ⟨some 33, some (some 22, false), (.callv 2 (.t 23) [(.t 32)])⟩,
 (gQ 34 22 false (.unot (.t 33))),
 (oQ 35 (.pick (.t 22) (.c (.p (.bool true))) (.t 34)))])
 (.cond (.t 35) .ret .skip))))
 (.reg [(oQ 36 (.bin .add (.t 7) (iQ 1))),
 (oQ 7 (.mv (.t 36)))])))))))⟩
def A_gravity_bounds_1 : Nat → Ty := tyAt []
abbrev P_gravity_bounds_1 : List PSh := [.fn 141 [(.sl (.pr tQ (.pr tQ pQ)))], .agg (.pr tQ pQ)]
abbrev R_gravity_bounds_1 : List PSh := []
theorem e_gravity_bounds_1 : cFn Tryd.prog 141 = some F_gravity_bounds_1.erase := by kernel_rfl
theorem k_gravity_bounds_1 : callable Tryd.prog 141 = true := by kernel_rfl
def F_cmp_isNaNint : TFn := ⟨6, 0, [.tmp 2],
 (.seq (.reg [(oQ 2 (.mv (.c (.p (.bool false)))))])
 (.seq (.reg [(oQ 3 (.mv (.t 0))),
 (oQ 4 (.mv (.t 0))),
 (oQ 5 (.bin .neq (.t 3) (.t 4))),
 (oQ 2 (.mv (.t 5)))])
 .ret))⟩
def A_cmp_isNaNint : Nat → Ty := tyAt []
abbrev P_cmp_isNaNint : List PSh := [.one tQ]
abbrev R_cmp_isNaNint : List PSh := [.one .bool]
theorem e_cmp_isNaNint : cFn Tryd.prog 140 = some F_cmp_isNaNint.erase := by kernel_rfl
theorem k_cmp_isNaNint : callable Tryd.prog 140 = true := by kernel_rfl
def F_gravity_CheckFilter_1 : TFn := ⟨6, 1, [.tmp 2],
 (.seq (.reg [(oQ 2 (.mv (.c (.p (.bool false)))))])
 (.seq (.reg [(oQ 3 (.mv (.t 0))),
 (kQ 4 0 93 [(.t 3), (iQ 100000)]),
 (oQ 5 (.unot (.t 4))),
 (oQ 2 (.mv (.t 5)))])
 .ret))⟩
def A_gravity_CheckFilter_1 : Nat → Ty := tyAt [.un]
abbrev P_gravity_CheckFilter_1 : List PSh := [.one tQ]
abbrev R_gravity_CheckFilter_1 : List PSh := [.one .bool]
theorem e_gravity_CheckFilter_1 : cFn Tryd.prog 121 = some F_gravity_CheckFilter_1.erase := by kernel_rfl
theorem k_gravity_CheckFilter_1 : callable Tryd.prog 121 = true := by kernel_rfl
def F_gravity_readingsErr_1 : TFn := ⟨6, 1, [.tmp 2],
 (.seq (.reg [(oQ 2 (.mv (.c (.p (.bool false)))))])
 (.seq (.reg [(oQ 3 (.mv (.t 0))),
 (kQ 4 0 93 [(.t 3), (iQ 1000000)]),
 (oQ 5 (.unot (.t 4))),
 (oQ 2 (.mv (.t 5)))])
 .ret))⟩
def A_gravity_readingsErr_1 : Nat → Ty := tyAt [.un]
abbrev P_gravity_readingsErr_1 : List PSh := [.one tQ]
abbrev R_gravity_readingsErr_1 : List PSh := [.one .bool]
theorem e_gravity_readingsErr_1 : cFn Tryd.prog 131 = some F_gravity_readingsErr_1.erase := by kernel_rfl
theorem k_gravity_readingsErr_1 : callable Tryd.prog 131 = true := by kernel_rfl
end Go.Proofs.YtcecdmdnfmgnfaaDoor
