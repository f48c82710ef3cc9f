/- The code of the functions that GravityStrings reaches, as it is walked: each equals what the given program's text gives. -/
import Derived.Test.YtepdfhjmngbhhaaGreatDoorGsBGravityStrings
import Derived.Test.YtepdfhjmngbhhaaGreatDoorProg
import Derived.KernelRfl
namespace Go.Proofs.YtepdfhjmngbhhaaGreatDoor
open Go Go.Mx
set_option maxRecDepth 100000
abbrev mQ (d x:Nat):AIns := ⟨some d,none,.op (.mv (.t x))⟩
abbrev fQ (d f x:Nat):AIns := ⟨some d,none,.op (.fa f (.t x))⟩
abbrev lQ (d x:Nat):AIns := ⟨some d,none,.op (.ld1 (.t x))⟩
abbrev nQ (d n x:Nat):AIns := ⟨some d,none,.op (.ldn n (.t x))⟩
abbrev hQ (d x:Nat):AIns := ⟨some d,none,.op (.len false (.t x))⟩
abbrev sQ (n x v:Nat):AIns := ⟨none,none,.op (.st n (.t x) (.t v))⟩
abbrev jQ (d k x i:Nat):AIns := ⟨some d,none,.op (.ia k (.t x) (.t i))⟩
abbrev bQ (d:Nat) (b:BinOp) (x y:Nat):AIns := ⟨some d,none,.op (.bin b (.t x) (.t y))⟩
abbrev cQ (d:Nat) (b:BinOp) (x:Nat) (n:Int):AIns := ⟨some d,none,.op (.bin b (.t x) (.c (.p (.int .i64 n))))⟩
abbrev vQ (d g:Nat) (b:Bool) (x:Nat):AIns := ⟨some d,some (some g,b),.op (.mv (.t x))⟩
abbrev cF:Opd := .c (.p (.bool false))
abbrev cT:Opd := .c (.p (.bool true))
abbrev oQ (d:Nat) (o:AOp):AIns := ⟨some d,none,.op o⟩
abbrev uQ (o:AOp):AIns := ⟨none,none,.op o⟩
abbrev gQ (d g:Nat) (b:Bool) (o:AOp):AIns := ⟨some d,some (some g,b),.op o⟩
abbrev kQ (d s f:Nat) (a:List Opd):AIns := ⟨some d,none,.call s f a⟩
abbrev iQ (n:Int):Opd := .c (.p (.int .i64 n))
abbrev zQ:V := .p (.int .i64 0)
abbrev tQ:Ty := .int .i64
abbrev pQ:Ty := .pr tQ tQ
def F_Z1:TFn := ⟨129,29,[.tmp 6],(.seq (.reg [(oQ 3 (.box 0 (.t 0))),(oQ 4 (.box 1 (.t 1))),(oQ 6 (.mv cF))])
 (.seq (.seq (.reg [(kQ 21 2 38 []),(oQ 22 (.unot (.t 21)))])
 (.cond (.t 22) (.seq (.reg [(oQ 6 (.mv cF))])
 .ret) .skip))
 (.seq (.seq (.reg [(nQ 23 1 3),(kQ 24 3 39 [(.t 23)]),(oQ 25 (.unot (.t 24))),(mQ 26 25),(gQ 27 26 false (.ldn 2 (.t 4))),⟨some 28,some (some 26,false),(.call 4 40 [(.t 27)])⟩,(gQ 29 26 false (.unot (.t 28))),(oQ 30 (.pick (.t 26) cT (.t 29))),(mQ 31 30),(vQ 32 31 false 2),(gQ 33 31 false (.len true (.t 32))),(gQ 34 31 false (.bin .gtr (.t 33) (iQ 300))),(oQ 35 (.pick (.t 31) cT (.t 34)))])
 (.cond (.t 35) (.seq (.reg [(oQ 6 (.mv cT))])
 .ret) .skip))
 (.seq (.regd [(nQ 36 1 3),(kQ 37 5 42 [(.t 36)]),(kQ 38 6 41 [(.t 37)]),(nQ 39 2 4),(kQ 40 7 12 [(.t 39)]),(kQ 41 8 11 [(.t 40)]),(mQ 7 38),(mQ 8 41)] [(0,3),(1,3),(2,3)] [])
 (.seq (.reg [(mQ 43 2),(kQ 44 9 43 [(.t 43)]),(mQ 42 44),(oQ 45 (.ext 0 (.t 42))),(oQ 46 (.ext 1 (.t 42))),(oQ 9 (.newz 10 [(.p (.sl 0 [] true))])),(sQ 1 9 45),(mQ 10 46)])
 (.seq (.reg [(mQ 48 2),(kQ 49 11 10 [(.t 48)]),(mQ 47 49),(oQ 50 (.ext 0 (.t 47))),(oQ 51 (.ext 1 (.t 47))),(oQ 11 (.newz 12 [zQ,(.p (.sl 0 [] true))])),(sQ 2 11 50),(mQ 12 51)])
 (.seq (.reg [(mQ 53 2),(kQ 54 13 44 [(.t 53)]),(mQ 52 54),(oQ 55 (.ext 0 (.t 52))),(oQ 56 (.ext 1 (.t 52))),(oQ 13 (.newz 14 [(.p (.sl 0 [] true))])),(sQ 1 13 55),(mQ 14 56)])
 (.seq (.reg [(mQ 58 2),(kQ 59 15 45 [(.t 58)]),(mQ 57 59),(oQ 60 (.ext 0 (.t 57))),(oQ 61 (.ext 1 (.t 57))),(oQ 15 (.newz 16 [zQ,(.p (.sl 0 [] true))])),(sQ 2 15 60),(mQ 16 61)])
 (.seq (.seq (.reg [(mQ 62 7),(nQ 63 1 3),(kQ 64 17 46 [(.t 63)]),(oQ 65 (.scmp true (.t 62) (.t 64))),(mQ 66 65),(vQ 67 66 false 8),(gQ 68 66 false (.ldn 2 (.t 4))),⟨some 69,some (some 66,false),(.call 18 47 [(.t 68)])⟩,(gQ 70 66 false (.scmp true (.t 67) (.t 69))),(oQ 71 (.pick (.t 66) cT (.t 70))),(mQ 72 71),(vQ 73 72 false 10),(vQ 74 72 false 14),(gQ 75 72 false (.bin .neq (.t 73) (.t 74))),(oQ 76 (.pick (.t 72) cT (.t 75))),(mQ 77 76),(gQ 78 77 false (.fa 0 (.t 9))),(gQ 79 77 false (.ld1 (.t 78))),(gQ 80 77 false (.fa 0 (.t 13))),(gQ 81 77 false (.ld1 (.t 80))),⟨some 82,some (some 77,false),(.call 19 48 [(.t 79),(.t 81)])⟩,(gQ 83 77 false (.unot (.t 82))),(oQ 84 (.pick (.t 77) cT (.t 83))),(mQ 85 84),(vQ 86 85 false 12),(vQ 87 85 false 16),(gQ 88 85 false (.bin .neq (.t 86) (.t 87))),(oQ 89 (.pick (.t 85) cT (.t 88))),(mQ 90 89),(gQ 91 90 false (.ldn 2 (.t 11))),(gQ 92 90 false (.ldn 2 (.t 15))),⟨some 93,some (some 90,false),(.call 20 13 [(.t 91),(.t 92)])⟩,(gQ 94 90 false (.unot (.t 93))),(oQ 95 (.pick (.t 90) cT (.t 94)))])
 (.cond (.t 95) (.seq (.reg [(oQ 6 (.mv cF))])
 .ret) .skip))
 (.seq (.seq (.reg [(nQ 96 1 3),(kQ 97 21 49 [(.t 96)]),(cQ 98 .eql 97 0)])
 (.cond (.t 98) (.seq (.reg [(mQ 100 7),(kQ 101 22 43 [(.t 100)]),(mQ 99 101),(oQ 102 (.ext 0 (.t 99))),(oQ 103 (.ext 1 (.t 99))),(oQ 17 (.newz 23 [(.p (.sl 0 [] true))])),(sQ 1 17 102),(mQ 18 103)])
 (.seq (.reg [(mQ 104 18),(cQ 105 .neq 104 0),(mQ 106 105),(gQ 107 106 false (.fa 0 (.t 17))),(gQ 108 106 false (.ld1 (.t 107))),(gQ 109 106 false (.fa 0 (.t 3))),(gQ 110 106 false (.ld1 (.t 109))),⟨some 111,some (some 106,false),(.call 24 48 [(.t 108),(.t 110)])⟩,(gQ 112 106 false (.unot (.t 111))),(oQ 113 (.pick (.t 106) cT (.t 112)))])
 (.cond (.t 113) (.seq (.reg [(oQ 6 (.mv cF))])
 .ret) .skip))) .skip))
 (.seq (.seq (.reg [(nQ 114 2 4),(kQ 115 25 50 [(.t 114)]),(cQ 116 .neq 115 0)])
 (.cond (.t 116) (.seq (.reg [(oQ 6 (.mv cT))])
 .ret) .skip))
 (.seq (.reg [(mQ 118 8),(kQ 119 26 10 [(.t 118)]),(mQ 117 119),(oQ 120 (.ext 0 (.t 117))),(oQ 121 (.ext 1 (.t 117))),(oQ 19 (.newz 27 [zQ,(.p (.sl 0 [] true))])),(sQ 2 19 120),(mQ 20 121)])
 (.seq (.reg [(mQ 122 20),(cQ 123 .eql 122 0),(mQ 124 123),(gQ 125 124 true (.ldn 2 (.t 19))),(gQ 126 124 true (.ldn 2 (.t 4))),⟨some 127,some (some 124,true),(.call 28 13 [(.t 125),(.t 126)])⟩,(oQ 128 (.pick (.t 124) (.t 127) cF)),(mQ 6 128)])
 .ret)))))))))))))⟩
def A_Z1:Nat→Ty := tyAt [.un,.un,.un,.un,.un,.un,.un,.un,.un,.un,.un,.un,.un,.un,.un,.un,.un,.un,.un,.un,.un,.un,.un,.un,.un,.un,.un,.un,.un]
abbrev P_Z1:List PSh := [.agg (.sl tQ),.agg (.pr tQ (.sl (.pr tQ (.pr tQ pQ)))),.one .str]
abbrev R_Z1:List PSh := [.one .bool]
theorem e_Z1:cFn Tryz.prog 5 = some F_Z1.erase := by kernel_rfl
theorem k_Z1:callable Tryz.prog 5 = true := by kernel_rfl
def F_Za:TFn := ⟨15,0,[.tmp 6],(.seq (.reg [(oQ 6 (.mv cF))])
 (.seq (.reg [(mQ 7 1),(mQ 8 0),(bQ 9 .leq 7 8),(mQ 10 9),(vQ 11 10 true 0),(vQ 12 10 true 2),(gQ 13 10 true (.bin .leq (.t 11) (.t 12))),(oQ 14 (.pick (.t 10) (.t 13) cF)),(mQ 6 14)])
 .ret))⟩
def A_Za:Nat→Ty := tyAt []
abbrev P_Za:List PSh := [.one tQ,.one tQ,.one tQ]
abbrev R_Za:List PSh := [.one .bool]
theorem e_Za:cFn Tryz.prog 8 = some F_Za.erase := by kernel_rfl
theorem k_Za:callable Tryz.prog 8 = true := by kernel_rfl
def F_Z13:TFn := ⟨11,2,[.tmp 4],(.seq (.reg [(oQ 2 (.box 0 (.t 0))),(oQ 4 (.mv (iQ 0)))])
 (.seq (.seq (.reg [(mQ 5 1),(fQ 6 0 2),(lQ 7 6),(cQ 8 .sub 7 1),(kQ 9 1 8 [(.t 5),(iQ 0),(.t 8)]),(oQ 10 (.unot (.t 9)))])
 (.cond (.t 10) (.seq (.reg [(oQ 4 (.mv (iQ 6)))])
 .ret) .skip))
 (.seq (.reg [(oQ 4 (.mv (iQ 0)))])
 .ret)))⟩
def A_Z13:Nat→Ty := tyAt [.un,.un]
abbrev P_Z13:List PSh := [.agg (.pr tQ (.sl (.pr tQ (.pr tQ pQ)))),.one tQ]
abbrev R_Z13:List PSh := [.one tQ]
theorem e_Z13:cFn Tryz.prog 9 = some F_Z13.erase := by kernel_rfl
theorem k_Z13:callable Tryz.prog 9 = true := by kernel_rfl
def F_Z15:TFn := ⟨9,4,[.celln 2 2],(.seq (.reg [(oQ 1 (.box 0 (.t 0))),(oQ 2 (.newz 1 [zQ,(.p (.sl 0 [] true))]))])
 (.seq (.reg [(oQ 3 (.bsl true 2 4 0 [] [])),(fQ 4 1 1),(lQ 5 4),(oQ 6 (.app 3 4 32 (.t 3) (.t 5))),(fQ 7 1 1),(sQ 1 7 6)])
 (.seq (.reg [(nQ 8 2 1),(sQ 2 2 8)])
 .ret)))⟩
def A_Z15:Nat→Ty := tyAt [.un,.un,(.pr tQ (.pr tQ pQ)),(.pr tQ (.pr tQ pQ))]
abbrev P_Z15:List PSh := [.agg (.pr tQ (.sl (.pr tQ (.pr tQ pQ))))]
abbrev R_Z15:List PSh := [.agg (.pr tQ (.sl (.pr tQ (.pr tQ pQ))))]
theorem e_Z15:cFn Tryz.prog 12 = some F_Z15.erase := by kernel_rfl
theorem k_Z15:callable Tryz.prog 12 = true := by kernel_rfl
def F_Zf:TFn := ⟨36,10,[.tmp 2],(.seq (.reg [(oQ 1 (.box 0 (.t 0))),⟨some 2,none,(.op (.mv (.c (.p (.str ⟨#[]⟩)))))⟩])
 (.seq (.reg [(fQ 6 0 1),(lQ 7 6),(oQ 8 (.bsl false 1 1 1 [zQ] [(0,1,(.t 7))])),(kQ 9 2 78 [(.t 8)]),⟨some 10,none,(.op (.bsl true 3 1 1 [(.p (.str ⟨#[]⟩))] [(0,1,(.t 9))]))⟩,(mQ 3 10)])
 (.seq (.seq (.reg [(fQ 11 1 1),(lQ 12 11),(hQ 13 12),(oQ 14 (.mv (iQ 0)))])
 (.block 0 (.loop [.v 14 tQ,.o 3 3 .str] [3,4] [3,4] (.seq (.reg [(bQ 15 .lss 14 13)])
 (.seq (.cond (.t 15) .skip (.exit 0))
 (.seq (.block 1 (.seq (.reg [(jQ 16 4 12 14),(nQ 17 4 16),(oQ 5 (.newz 4 [zQ,zQ,zQ,zQ])),(sQ 4 5 17)])
 (.reg [(mQ 18 3),(fQ 19 0 5),(lQ 20 19),(fQ 21 1 5),(lQ 22 21),(fQ 23 2 5),(fQ 24 0 23),(lQ 25 24),(fQ 26 2 5),(fQ 27 1 26),(lQ 28 27),(oQ 29 (.bsl false 5 1 4 [zQ,zQ,zQ,zQ] [(0,1,(.t 20)),(1,1,(.t 22)),(2,1,(.t 25)),(3,1,(.t 28))])),(kQ 30 6 78 [(.t 29)]),⟨some 31,none,(.op (.bsl false 7 1 1 [(.p (.str ⟨#[]⟩))] [(0,1,(.t 30))]))⟩,(oQ 32 (.app 8 1 16 (.t 18) (.t 31))),(mQ 3 32)])))
 (.reg [(cQ 33 .add 14 1),(mQ 14 33)])))))))
 (.seq (.reg [(mQ 34 3),⟨some 35,none,(.call 9 79 [(.t 34),(.c (.p (.str ⟨#[59]⟩)))])⟩,(mQ 2 35)])
 .ret))))⟩
def A_Zf:Nat→Ty := tyAt [.un,tQ,.un,.str,.un,tQ,.un,.str,.str,.un]
abbrev P_Zf:List PSh := [.agg (.pr tQ (.sl (.pr tQ (.pr tQ pQ))))]
abbrev R_Zf:List PSh := [.one .str]
theorem e_Zf:cFn Tryz.prog 11 = some F_Zf.erase := by kernel_rfl
theorem k_Zf:callable Tryz.prog 11 = true := by kernel_rfl
def F_Z2:TFn := ⟨85,7,[.celln 2 2,.tmp 3],(.seq (.reg [(oQ 2 (.newz 0 [zQ,(.p (.sl 0 [] true))])),(oQ 3 (.mv (iQ 0)))])
 (.seq (.seq (.reg [(mQ 11 0),(oQ 12 (.len true (.t 11))),(cQ 13 .gtr 12 60000)])
 (.cond (.t 13) (.seq (.reg [(oQ 14 (.build [zQ,(.p (.sl 0 [] true))] [])),(sQ 2 2 14),(oQ 3 (.mv (iQ 8)))])
 .ret) .skip))
 (.seq (.reg [(oQ 4 (.newz 1 [zQ,(.p (.sl 0 [] true))]))])
 (.seq (.seq (.reg [(mQ 15 0),⟨some 16,none,(.call 2 75 [(.t 15),(.c (.p (.str ⟨#[59]⟩)))])⟩,(hQ 17 16),(oQ 18 (.mv (iQ 0)))])
 (.block 0 (.loop [.v 18 tQ,.qp 1 5 tQ (.pr tQ (.pr tQ pQ))] [1,5] [5] (.seq (.reg [(bQ 19 .lss 18 17)])
 (.seq (.cond (.t 19) .skip (.exit 0))
 (.seq (.block 1 (.seq (.reg [(mQ 20 18),(jQ 21 1 16 18),(lQ 22 21),(mQ 5 20),(mQ 6 22)])
 (.seq (.reg [(mQ 24 6),(kQ 25 3 76 [(.t 24),(iQ 8),(iQ 2)]),(mQ 23 25),(oQ 26 (.ext 0 (.t 23))),(oQ 27 (.ext 1 (.t 23))),(mQ 7 26),(mQ 8 27)])
 (.block 2 (.seq (.reg [(mQ 30 8),(mQ 31 30),(vQ 32 31 true 5),(gQ 33 31 true (.bin .eql (.t 32) (iQ 0))),(oQ 34 (.pick (.t 31) (.t 33) cF)),(mQ 35 34),(vQ 36 35 true 7),(gQ 37 35 true (.len false (.t 36))),(gQ 38 35 true (.bin .eql (.t 37) (iQ 1))),(oQ 39 (.pick (.t 35) (.t 38) cF)),(mQ 29 39)])
 (.cond (.t 29) (.reg [(mQ 40 7),(oQ 41 (.ia 1 (.t 40) (iQ 0))),(lQ 42 41),(fQ 43 0 4),(sQ 1 43 42)]) (.seq (.reg [(mQ 45 8),(mQ 46 45),(vQ 47 46 true 5),(gQ 48 46 true (.bin .gtr (.t 47) (iQ 0))),(oQ 49 (.pick (.t 46) (.t 48) cF)),(mQ 50 49),(vQ 51 50 true 7),(gQ 52 50 true (.len false (.t 51))),(gQ 53 50 true (.bin .eql (.t 52) (iQ 4))),(oQ 54 (.pick (.t 50) (.t 53) cF)),(mQ 44 54)])
 (.cond (.t 44) (.regd [(fQ 55 1 4),(lQ 56 55),(mQ 57 7),(oQ 58 (.ia 1 (.t 57) (iQ 0))),(lQ 59 58),(mQ 60 7),(oQ 61 (.ia 1 (.t 60) (iQ 1))),(lQ 62 61),(mQ 63 7),(oQ 64 (.ia 1 (.t 63) (iQ 2))),(lQ 65 64),(mQ 66 7),(oQ 67 (.ia 1 (.t 66) (iQ 3))),(lQ 68 67),(oQ 69 (.build [zQ,zQ] [(0,1,(.t 65)),(1,1,(.t 68))])),(oQ 70 (.build [zQ,zQ,zQ,zQ] [(0,1,(.t 59)),(1,1,(.t 62)),(2,2,(.t 69))])),(oQ 71 (.bsl false 4 4 1 [zQ,zQ,zQ,zQ] [(0,4,(.t 70))])),(oQ 72 (.app 5 4 32 (.t 56) (.t 71))),(fQ 73 1 4),(sQ 1 73 72)] [(1,4),(1,7),(4,7),(1,10),(4,10),(7,10),(1,13),(4,13),(7,13),(10,13)] []) (.seq (.reg [(oQ 28 (.build [zQ,(.p (.sl 0 [] true))] [])),(sQ 2 2 28),(oQ 3 (.mv (iQ 7)))])
 .ret)))))))))
 (.reg [(cQ 74 .add 18 1),(mQ 18 74)])))))))
 (.seq (.seq (.reg [(nQ 76 2 4),(kQ 77 6 77 [(.t 76)]),(mQ 75 77),(oQ 78 (.ext 0 (.t 75))),(oQ 79 (.ext 1 (.t 75))),(mQ 9 78),(mQ 10 79)])
 (.seq (.reg [(mQ 80 10),(cQ 81 .neq 80 0)])
 (.cond (.t 81) (.seq (.reg [(oQ 82 (.build [zQ,(.p (.sl 0 [] true))] [])),(mQ 83 10),(sQ 2 2 82),(mQ 3 83)])
 .ret) .skip)))
 (.seq (.reg [(nQ 84 2 4),(sQ 2 2 84),(oQ 3 (.mv (iQ 0)))])
 .ret))))))⟩
def A_Z2:Nat→Ty := tyAt [.un,.un,.un,.un,(.pr tQ (.pr tQ pQ)),(.pr tQ (.pr tQ pQ)),.un]
abbrev P_Z2:List PSh := [.one .str]
abbrev R_Z2:List PSh := [.agg (.pr tQ (.sl (.pr tQ (.pr tQ pQ)))),.one tQ]
theorem e_Z2:cFn Tryz.prog 10 = some F_Z2.erase := by kernel_rfl
theorem k_Z2:callable Tryz.prog 10 = true := by kernel_rfl
def F_Zd:TFn := ⟨38,2,[.tmp 4],(.seq (.reg [(oQ 2 (.box 0 (.t 0))),(oQ 3 (.box 1 (.t 1))),(oQ 4 (.mv cF))])
 (.seq (.seq (.reg [(fQ 6 0 2),(lQ 7 6),(fQ 8 0 3),(lQ 9 8),(bQ 10 .neq 7 9),(mQ 11 10),(gQ 12 11 false (.fa 1 (.t 2))),(gQ 13 11 false (.ld1 (.t 12))),(gQ 14 11 false (.len false (.t 13))),(gQ 15 11 false (.fa 1 (.t 3))),(gQ 16 11 false (.ld1 (.t 15))),(gQ 17 11 false (.len false (.t 16))),(gQ 18 11 false (.bin .neq (.t 14) (.t 17))),(oQ 19 (.pick (.t 11) cT (.t 18)))])
 (.cond (.t 19) (.seq (.reg [(oQ 4 (.mv cF))])
 .ret) .skip))
 (.seq (.seq (.reg [(oQ 5 (.mv (iQ 0)))])
 (.block 0 (.loop [.v 5 tQ] [] [] (.seq (.seq (.reg [(mQ 20 5),(fQ 21 1 2),(lQ 22 21),(hQ 23 22),(bQ 24 .lss 20 23)])
 (.cond (.t 24) .skip (.exit 0)))
 (.seq (.block 1 (.seq (.regd [(fQ 27 1 2),(lQ 28 27),(mQ 29 5),(jQ 30 4 28 29),(nQ 31 4 30),(fQ 32 1 3),(lQ 33 32),(mQ 34 5),(jQ 35 4 33 34),(nQ 36 4 35),(oQ 37 (.eqa true 4 [(true,0),(true,1),(true,2),(true,3)] (.t 31) (.t 36)))] [(1,6),(4,6),(1,9),(4,9)] [])
 (.cond (.t 37) (.seq (.reg [(oQ 4 (.mv cF))])
 .ret) .skip)))
 (.reg [(mQ 25 5),(cQ 26 .add 25 1),(mQ 5 26)]))))))
 (.seq (.reg [(oQ 4 (.mv cT))])
 .ret))))⟩
def A_Zd:Nat→Ty := tyAt [.un,.un]
abbrev P_Zd:List PSh := [.agg (.pr tQ (.sl (.pr tQ (.pr tQ pQ)))),.agg (.pr tQ (.sl (.pr tQ (.pr tQ pQ))))]
abbrev R_Zd:List PSh := [.one .bool]
theorem e_Zd:cFn Tryz.prog 13 = some F_Zd.erase := by kernel_rfl
theorem k_Zd:callable Tryz.prog 13 = true := by kernel_rfl
def F_Z12:TFn := ⟨6,2,[.tmp 2],(.seq (.reg [(oQ 2 (.mv (.c (.p (.sl 0 [] true)))))])
 (.seq (.reg [(oQ 3 (.bsl true 0 1 0 [] [])),(mQ 4 0),(oQ 5 (.app 1 1 8 (.t 3) (.t 4))),(mQ 2 5)])
 .ret))⟩
def A_Z12:Nat→Ty := tyAt [tQ,tQ]
abbrev P_Z12:List PSh := [.one (.sl tQ)]
abbrev E_Z12:Ty := tQ
theorem e_Z12:cFn Tryz.prog 16 = some F_Z12.erase := by kernel_rfl
theorem k_Z12:callable Tryz.prog 16 = true := by kernel_rfl
def F_Zv:TFn := ⟨14,0,[.tmp 4],(.seq (.reg [(oQ 4 (.mv (iQ 0)))])
 (.seq (.reg [(mQ 5 0),(mQ 6 1),(bQ 7 .rem 5 6),(mQ 0 7)])
 (.seq (.seq (.reg [(mQ 8 0),(cQ 9 .lss 8 0)])
 (.cond (.t 9) (.reg [(mQ 10 0),(mQ 11 1),(bQ 12 .add 10 11),(mQ 0 12)]) .skip))
 (.seq (.reg [(mQ 13 0),(mQ 4 13)])
 .ret))))⟩
def A_Zv:Nat→Ty := tyAt []
abbrev P_Zv:List PSh := [.one tQ,.one tQ]
abbrev R_Zv:List PSh := [.one tQ]
theorem e_Zv:cFn Tryz.prog 18 = some F_Zv.erase := by kernel_rfl
theorem k_Zv:callable Tryz.prog 18 = true := by kernel_rfl
def F_Z1c:TFn := ⟨86,20,[.tmp 0],(.seq (.reg [(oQ 0 (.mv cF))])
 (.seq (.reg [(oQ 12 (.bsl false 0 1 3 [zQ,zQ,zQ] [(0,1,(iQ 10)),(1,1,(iQ 20)),(2,1,(iQ 30))])),(kQ 13 1 72 []),(kQ 14 2 71 [(.t 12),(.t 13),(iQ 3)]),(mQ 11 14),(oQ 15 (.ext 0 (.t 11))),(oQ 16 (.ext 1 (.t 11))),(mQ 1 15),(mQ 2 16)])
 (.seq (.reg [(oQ 18 (.bsl false 3 1 2 [zQ,zQ] [(0,1,(iQ 2)),(1,1,(iQ 1))])),(oQ 19 (.build [(.p (.sl 0 [] true))] [(0,1,(.t 18))])),(oQ 20 (.bsl false 4 1 2 [zQ,zQ] [(0,1,(iQ 2)),(1,1,(iQ 1))])),(oQ 21 (.build [(.p (.sl 0 [] true))] [(0,1,(.t 20))])),(kQ 22 5 106 [(.t 19),(.t 21)]),(mQ 17 22),(oQ 23 (.ext 0 (.t 17))),(oQ 24 (.ext 1 (.t 17))),(oQ 3 (.newz 6 [(.p (.sl 0 [] true))])),(sQ 1 3 23),(mQ 4 24)])
 (.seq (.reg [(kQ 26 7 108 []),(kQ 27 8 107 [(.t 26)]),(mQ 25 27),(oQ 28 (.ext 0 (.t 25))),(oQ 29 (.ext 1 (.t 25))),(oQ 5 (.newz 9 [zQ,zQ,zQ,zQ])),(sQ 4 5 28),(mQ 6 29)])
 (.seq (.reg [(kQ 31 10 73 []),(kQ 32 11 20 [(.t 31)]),(mQ 30 32),(oQ 33 (.ext 0 (.t 30))),(oQ 34 (.ext 1 (.t 30))),(mQ 7 33),(mQ 8 34)])
 (.seq (.reg [(kQ 36 12 109 [(iQ 1000),(iQ 50),(iQ 267)]),(mQ 35 36),(oQ 37 (.ext 0 (.t 35))),(oQ 38 (.ext 1 (.t 35))),(oQ 9 (.newz 13 [zQ,zQ])),(sQ 2 9 37),(mQ 10 38)])
 (.seq (.reg [(mQ 39 2),(cQ 40 .eql 39 0),(mQ 41 40),(vQ 42 41 true 1),(gQ 43 41 true (.build [zQ,zQ] [(0,1,(iQ 2)),(1,1,(iQ 14))])),(gQ 44 41 true (.bsl false 14 2 1 [zQ,zQ] [(0,2,(.t 43))])),⟨some 45,some (some 41,true),(.call 15 74 [(.t 42),(.t 44)])⟩,(oQ 46 (.pick (.t 41) (.t 45) cF)),(mQ 47 46),(vQ 48 47 true 4),(gQ 49 47 true (.bin .eql (.t 48) (iQ 0))),(oQ 50 (.pick (.t 47) (.t 49) cF)),(mQ 51 50),(gQ 52 51 true (.fa 0 (.t 3))),(gQ 53 51 true (.ld1 (.t 52))),(gQ 54 51 true (.bsl false 16 1 3 [zQ,zQ,zQ] [(0,1,(iQ 6)),(1,1,(iQ 4)),(2,1,(iQ 1))])),⟨some 55,some (some 51,true),(.call 17 48 [(.t 53),(.t 54)])⟩,(oQ 56 (.pick (.t 51) (.t 55) cF)),(mQ 57 56),(vQ 58 57 true 6),(gQ 59 57 true (.bin .eql (.t 58) (iQ 0))),(oQ 60 (.pick (.t 57) (.t 59) cF)),(mQ 61 60),(gQ 62 61 true (.ldn 4 (.t 5))),(gQ 63 61 true (.build [zQ,zQ] [(0,1,(iQ 4)),(1,1,(iQ 5))])),(gQ 64 61 true (.build [zQ,zQ] [(0,1,(iQ 11)),(1,1,(iQ 10))])),(gQ 65 61 true (.build [zQ,zQ,zQ,zQ] [(0,2,(.t 63)),(2,2,(.t 64))])),(gQ 66 61 true (.eqa false 4 [(true,0),(true,1),(true,2),(true,3)] (.t 62) (.t 65))),(oQ 67 (.pick (.t 61) (.t 66) cF)),(mQ 68 67),(vQ 69 68 true 8),(gQ 70 68 true (.bin .eql (.t 69) (iQ 0))),(oQ 71 (.pick (.t 68) (.t 70) cF)),(mQ 72 71),(vQ 73 72 true 7),(gQ 74 72 true (.bsl false 18 1 3 [zQ,zQ,zQ] [(0,1,(iQ (-7))),(1,1,(iQ (-2))),(2,1,(iQ 0))])),⟨some 75,some (some 72,true),(.call 19 48 [(.t 73),(.t 74)])⟩,(oQ 76 (.pick (.t 72) (.t 75) cF)),(mQ 77 76),(vQ 78 77 true 10),(gQ 79 77 true (.bin .eql (.t 78) (iQ 0))),(oQ 80 (.pick (.t 77) (.t 79) cF)),(mQ 81 80),(gQ 82 81 true (.ldn 2 (.t 9))),(gQ 83 81 true (.build [zQ,zQ] [(0,1,(iQ 3966469)),(1,1,(iQ 2000))])),(gQ 84 81 true (.eqa false 2 [(true,0),(true,1)] (.t 82) (.t 83))),(oQ 85 (.pick (.t 81) (.t 84) cF)),(mQ 0 85)])
 .ret)))))))⟩
abbrev P_Z1c:List PSh := []
abbrev R_Z1c:List PSh := [.one .bool]
theorem e_Z1c:cFn Tryz.prog 38 = some F_Z1c.erase := by kernel_rfl
theorem k_Z1c:callable Tryz.prog 38 = true := by kernel_rfl
def F_Z16:TFn := ⟨7,1,[.tmp 2],(.seq (.reg [(oQ 1 (.box 0 (.t 0))),(oQ 2 (.mv cF))])
 (.seq (.reg [(fQ 3 0 1),(lQ 4 3),(hQ 5 4),(cQ 6 .leq 5 11),(mQ 2 6)])
 .ret))⟩
def A_Z16:Nat→Ty := tyAt [.un]
abbrev P_Z16:List PSh := [.agg (.sl tQ)]
abbrev R_Z16:List PSh := [.one .bool]
theorem e_Z16:cFn Tryz.prog 39 = some F_Z16.erase := by kernel_rfl
theorem k_Z16:callable Tryz.prog 39 = true := by kernel_rfl
def F_Z17:TFn := ⟨7,1,[.tmp 2],(.seq (.reg [(oQ 1 (.box 0 (.t 0))),(oQ 2 (.mv cF))])
 (.seq (.reg [(fQ 3 1 1),(lQ 4 3),(hQ 5 4),(cQ 6 .leq 5 14),(mQ 2 6)])
 .ret))⟩
def A_Z17:Nat→Ty := tyAt [.un]
abbrev P_Z17:List PSh := [.agg (.pr tQ (.sl (.pr tQ (.pr tQ pQ))))]
abbrev R_Z17:List PSh := [.one .bool]
theorem e_Z17:cFn Tryz.prog 40 = some F_Z17.erase := by kernel_rfl
theorem k_Z17:callable Tryz.prog 40 = true := by kernel_rfl
def F_Z18:TFn := ⟨7,3,[.celln 2 1],(.seq (.reg [(oQ 1 (.box 0 (.t 0))),(oQ 2 (.newz 1 [(.p (.sl 0 [] true))]))])
 (.seq (.reg [(fQ 3 0 1),(lQ 4 3),(kQ 5 2 16 [(.t 4)]),(oQ 6 (.build [(.p (.sl 0 [] true))] [(0,1,(.t 5))])),(sQ 1 2 6)])
 .ret))⟩
def A_Z18:Nat→Ty := tyAt [.un,.un,.un]
abbrev P_Z18:List PSh := [.agg (.sl tQ)]
abbrev R_Z18:List PSh := [.agg (.sl tQ)]
theorem e_Z18:cFn Tryz.prog 42 = some F_Z18.erase := by kernel_rfl
theorem k_Z18:callable Tryz.prog 42 = true := by kernel_rfl
def F_Z19:TFn := ⟨6,2,[.tmp 2],(.seq (.reg [(oQ 1 (.box 0 (.t 0))),⟨some 2,none,(.op (.mv (.c (.p (.str ⟨#[]⟩)))))⟩])
 (.seq (.reg [(fQ 3 0 1),(lQ 4 3),(kQ 5 1 78 [(.t 4)]),(mQ 2 5)])
 .ret))⟩
def A_Z19:Nat→Ty := tyAt [.un,.un]
abbrev P_Z19:List PSh := [.agg (.sl tQ)]
abbrev R_Z19:List PSh := [.one .str]
theorem e_Z19:cFn Tryz.prog 41 = some F_Z19.erase := by kernel_rfl
theorem k_Z19:callable Tryz.prog 41 = true := by kernel_rfl
def F_Zz:TFn := ⟨29,4,[.celln 2 1,.tmp 3],(.seq (.reg [(oQ 2 (.newz 0 [(.p (.sl 0 [] true))])),(oQ 3 (.mv (iQ 0)))])
 (.seq (.seq (.reg [(mQ 8 0),(oQ 9 (.len true (.t 8))),(cQ 10 .gtr 9 60000)])
 (.cond (.t 10) (.seq (.reg [(oQ 11 (.build [(.p (.sl 0 [] true))] [])),(sQ 1 2 11),(oQ 3 (.mv (iQ 8)))])
 .ret) .skip))
 (.seq (.reg [(mQ 13 0),(kQ 14 1 76 [(.t 13),(iQ 7),(iQ 0)]),(mQ 12 14),(oQ 15 (.ext 0 (.t 12))),(oQ 16 (.ext 1 (.t 12))),(mQ 4 15),(mQ 5 16)])
 (.seq (.reg [(mQ 17 4),(oQ 18 (.build [(.p (.sl 0 [] true))] [(0,1,(.t 17))])),(oQ 6 (.newz 2 [(.p (.sl 0 [] true))])),(sQ 1 6 18)])
 (.seq (.seq (.reg [(mQ 19 5),(oQ 20 (.unot (.t 19)))])
 (.cond (.t 20) (.seq (.reg [(oQ 21 (.build [(.p (.sl 0 [] true))] [])),(sQ 1 2 21),(oQ 3 (.mv (iQ 7)))])
 .ret) .skip))
 (.seq (.seq (.reg [(nQ 22 1 6),(kQ 23 3 110 [(.t 22)]),(mQ 7 23)])
 (.seq (.reg [(mQ 24 7),(cQ 25 .neq 24 0)])
 (.cond (.t 25) (.seq (.reg [(oQ 26 (.build [(.p (.sl 0 [] true))] [])),(mQ 27 7),(sQ 1 2 26),(mQ 3 27)])
 .ret) .skip)))
 (.seq (.reg [(nQ 28 1 6),(sQ 1 2 28),(oQ 3 (.mv (iQ 0)))])
 .ret)))))))⟩
def A_Zz:Nat→Ty := tyAt [.un,.un,.un,.un]
abbrev P_Zz:List PSh := [.one .str]
abbrev R_Zz:List PSh := [.agg (.sl tQ),.one tQ]
theorem e_Zz:cFn Tryz.prog 43 = some F_Zz.erase := by kernel_rfl
theorem k_Zz:callable Tryz.prog 43 = true := by kernel_rfl
def F_Z10:TFn := ⟨30,5,[.celln 2 1,.tmp 3],(.seq (.reg [(oQ 2 (.newz 0 [(.p (.sl 0 [] true))])),(oQ 3 (.mv (iQ 0)))])
 (.seq (.seq (.reg [(mQ 8 0),(oQ 9 (.len true (.t 8))),(cQ 10 .gtr 9 60000)])
 (.cond (.t 10) (.seq (.reg [(oQ 11 (.build [(.p (.sl 0 [] true))] [])),(sQ 1 2 11),(oQ 3 (.mv (iQ 8)))])
 .ret) .skip))
 (.seq (.reg [(mQ 13 0),(kQ 14 1 100 [(.t 13),(.c (.p (.int .u8 32)))]),(kQ 15 2 111 [(.t 14),(iQ 7),(iQ 0)]),(mQ 12 15),(oQ 16 (.ext 0 (.t 12))),(oQ 17 (.ext 1 (.t 12))),(mQ 4 16),(mQ 5 17)])
 (.seq (.seq (.reg [(mQ 18 5),(oQ 19 (.unot (.t 18)))])
 (.cond (.t 19) (.seq (.reg [(oQ 20 (.build [(.p (.sl 0 [] true))] [])),(sQ 1 2 20),(oQ 3 (.mv (iQ 7)))])
 .ret) .skip))
 (.seq (.reg [(mQ 21 4),(oQ 22 (.build [(.p (.sl 0 [] true))] [(0,1,(.t 21))])),(oQ 6 (.newz 3 [(.p (.sl 0 [] true))])),(sQ 1 6 22)])
 (.seq (.seq (.reg [(nQ 23 1 6),(kQ 24 4 49 [(.t 23)]),(mQ 7 24)])
 (.seq (.reg [(mQ 25 7),(cQ 26 .neq 25 0)])
 (.cond (.t 26) (.seq (.reg [(oQ 27 (.build [(.p (.sl 0 [] true))] [])),(mQ 28 7),(sQ 1 2 27),(mQ 3 28)])
 .ret) .skip)))
 (.seq (.reg [(nQ 29 1 6),(sQ 1 2 29),(oQ 3 (.mv (iQ 0)))])
 .ret)))))))⟩
def A_Z10:Nat→Ty := tyAt [.un,.un,.un,.un,.un]
abbrev P_Z10:List PSh := [.one .str]
abbrev R_Z10:List PSh := [.agg (.sl tQ),.one tQ]
theorem e_Z10:cFn Tryz.prog 44 = some F_Z10.erase := by kernel_rfl
theorem k_Z10:callable Tryz.prog 44 = true := by kernel_rfl
def F_Z3:TFn := ⟨89,11,[.celln 2 2,.tmp 3],(.seq (.reg [(oQ 2 (.newz 0 [zQ,(.p (.sl 0 [] true))])),(oQ 3 (.mv (iQ 0)))])
 (.seq (.reg [(oQ 13 (.build [zQ,(.p (.sl 0 [] true))] [])),(oQ 4 (.newz 1 [zQ,(.p (.sl 0 [] true))])),(sQ 2 4 13)])
 (.seq (.seq (.reg [(mQ 14 0),(oQ 15 (.len true (.t 14))),(cQ 16 .gtr 15 60000)])
 (.cond (.t 16) (.seq (.reg [(nQ 17 2 4),(sQ 2 2 17),(oQ 3 (.mv (iQ 8)))])
 .ret) .skip))
 (.seq (.reg [(mQ 18 0),(kQ 19 2 100 [(.t 18),(.c (.p (.int .u8 59)))]),(mQ 5 19)])
 (.seq (.reg [(mQ 21 5),(oQ 22 (.ia 1 (.t 21) (iQ 0))),(lQ 23 22),(kQ 24 3 100 [(.t 23),(.c (.p (.int .u8 32)))]),(kQ 25 4 111 [(.t 24),(iQ 8),(iQ 1)]),(mQ 20 25),(oQ 26 (.ext 0 (.t 20))),(oQ 27 (.ext 1 (.t 20))),(mQ 6 26),(mQ 7 27)])
 (.seq (.seq (.reg [(mQ 28 7),(oQ 29 (.unot (.t 28))),(mQ 30 29),(vQ 31 30 false 6),(gQ 32 30 false (.len false (.t 31))),(gQ 33 30 false (.bin .neq (.t 32) (iQ 1))),(oQ 34 (.pick (.t 30) cT (.t 33)))])
 (.cond (.t 34) (.seq (.reg [(nQ 35 2 4),(sQ 2 2 35),(oQ 3 (.mv (iQ 7)))])
 .ret) .skip))
 (.seq (.reg [(mQ 36 6),(oQ 37 (.ia 1 (.t 36) (iQ 0))),(lQ 38 37),(oQ 39 (.build [zQ,(.p (.sl 0 [] true))] [(0,1,(.t 38))])),(oQ 8 (.newz 5 [zQ,(.p (.sl 0 [] true))])),(sQ 2 8 39)])
 (.seq (.seq (.reg [(oQ 9 (.mv (iQ 1)))])
 (.block 0 (.loop [.v 9 tQ,.qp 5 9 tQ (.pr tQ (.pr tQ pQ))] [5,9] [9] (.seq (.seq (.reg [(mQ 40 9),(mQ 41 5),(hQ 42 41),(bQ 43 .lss 40 42)])
 (.cond (.t 43) .skip (.exit 0)))
 (.seq (.block 1 (.seq (.reg [(mQ 47 5),(mQ 48 9),(jQ 49 1 47 48),(lQ 50 49),(kQ 51 6 100 [(.t 50),(.c (.p (.int .u8 32)))]),(kQ 52 7 111 [(.t 51),(iQ 8),(iQ 2)]),(mQ 46 52),(oQ 53 (.ext 0 (.t 46))),(oQ 54 (.ext 1 (.t 46))),(mQ 10 53),(mQ 11 54)])
 (.seq (.seq (.reg [(mQ 55 11),(oQ 56 (.unot (.t 55))),(mQ 57 56),(vQ 58 57 false 10),(gQ 59 57 false (.len false (.t 58))),(gQ 60 57 false (.bin .neq (.t 59) (iQ 4))),(oQ 61 (.pick (.t 57) cT (.t 60)))])
 (.cond (.t 61) (.seq (.reg [(nQ 62 2 4),(sQ 2 2 62),(oQ 3 (.mv (iQ 7)))])
 .ret) .skip))
 (.regd [(fQ 63 1 8),(lQ 64 63),(mQ 65 10),(oQ 66 (.ia 1 (.t 65) (iQ 0))),(lQ 67 66),(mQ 68 10),(oQ 69 (.ia 1 (.t 68) (iQ 1))),(lQ 70 69),(mQ 71 10),(oQ 72 (.ia 1 (.t 71) (iQ 2))),(lQ 73 72),(mQ 74 10),(oQ 75 (.ia 1 (.t 74) (iQ 3))),(lQ 76 75),(oQ 77 (.build [zQ,zQ] [(0,1,(.t 73)),(1,1,(.t 76))])),(oQ 78 (.build [zQ,zQ,zQ,zQ] [(0,1,(.t 67)),(1,1,(.t 70)),(2,2,(.t 77))])),(oQ 79 (.bsl false 8 4 1 [zQ,zQ,zQ,zQ] [(0,4,(.t 78))])),(oQ 80 (.app 9 4 32 (.t 64) (.t 79))),(fQ 81 1 8),(sQ 1 81 80)] [(1,4),(1,7),(4,7),(1,10),(4,10),(7,10),(1,13),(4,13),(7,13),(10,13)] []))))
 (.reg [(mQ 44 9),(cQ 45 .add 44 1),(mQ 9 45)]))))))
 (.seq (.seq (.reg [(nQ 82 2 8),(kQ 83 10 50 [(.t 82)]),(mQ 12 83)])
 (.seq (.reg [(mQ 84 12),(cQ 85 .neq 84 0)])
 (.cond (.t 85) (.seq (.reg [(nQ 86 2 4),(mQ 87 12),(sQ 2 2 86),(mQ 3 87)])
 .ret) .skip)))
 (.seq (.reg [(nQ 88 2 8),(sQ 2 2 88),(oQ 3 (.mv (iQ 0)))])
 .ret))))))))))⟩
def A_Z3:Nat→Ty := tyAt [.un,.un,.un,.un,.un,.un,.un,.un,(.pr tQ (.pr tQ pQ)),(.pr tQ (.pr tQ pQ)),.un]
abbrev P_Z3:List PSh := [.one .str]
abbrev R_Z3:List PSh := [.agg (.pr tQ (.sl (.pr tQ (.pr tQ pQ)))),.one tQ]
theorem e_Z3:cFn Tryz.prog 45 = some F_Z3.erase := by kernel_rfl
theorem k_Z3:callable Tryz.prog 45 = true := by kernel_rfl
def F_Z1a:TFn := ⟨6,2,[.tmp 2],(.seq (.reg [(oQ 1 (.box 0 (.t 0))),⟨some 2,none,(.op (.mv (.c (.p (.str ⟨#[]⟩)))))⟩])
 (.seq (.reg [(fQ 3 0 1),(lQ 4 3),(kQ 5 1 112 [(.t 4)]),(mQ 2 5)])
 .ret))⟩
def A_Z1a:Nat→Ty := tyAt [.un,.un]
abbrev P_Z1a:List PSh := [.agg (.sl tQ)]
abbrev R_Z1a:List PSh := [.one .str]
theorem e_Z1a:cFn Tryz.prog 46 = some F_Z1a.erase := by kernel_rfl
theorem k_Z1a:callable Tryz.prog 46 = true := by kernel_rfl
def F_Zg:TFn := ⟨37,5,[.tmp 2],(.seq (.reg [(oQ 1 (.box 0 (.t 0))),⟨some 2,none,(.op (.mv (.c (.p (.str ⟨#[]⟩)))))⟩])
 (.seq (.reg [(fQ 6 0 1),(lQ 7 6),(kQ 8 1 103 [(.t 7)]),(mQ 3 8)])
 (.seq (.seq (.reg [(oQ 4 (.mv (iQ 0)))])
 (.block 0 (.loop [.v 4 tQ,.v 3 .str] [2] [2] (.seq (.seq (.reg [(mQ 9 4),(fQ 10 1 1),(lQ 11 10),(hQ 12 11),(bQ 13 .lss 9 12)])
 (.cond (.t 13) .skip (.exit 0)))
 (.seq (.block 1 (.seq (.reg [(fQ 16 1 1),(lQ 17 16),(mQ 18 4),(jQ 19 4 17 18),(nQ 20 4 19),(oQ 5 (.newz 2 [zQ,zQ,zQ,zQ])),(sQ 4 5 20)])
 (.reg [(mQ 21 3),⟨some 22,none,(.op (.sadd (.t 21) (.c (.p (.str ⟨#[59]⟩)))))⟩,(fQ 23 0 5),(lQ 24 23),(fQ 25 1 5),(lQ 26 25),(fQ 27 2 5),(fQ 28 0 27),(lQ 29 28),(fQ 30 2 5),(fQ 31 1 30),(lQ 32 31),(oQ 33 (.bsl false 3 1 4 [zQ,zQ,zQ,zQ] [(0,1,(.t 24)),(1,1,(.t 26)),(2,1,(.t 29)),(3,1,(.t 32))])),(kQ 34 4 112 [(.t 33)]),(oQ 35 (.sadd (.t 22) (.t 34))),(mQ 3 35)])))
 (.reg [(mQ 14 4),(cQ 15 .add 14 1),(mQ 4 15)]))))))
 (.seq (.reg [(mQ 36 3),(mQ 2 36)])
 .ret))))⟩
def A_Zg:Nat→Ty := tyAt [.un,.un,.un,tQ,.un]
abbrev P_Zg:List PSh := [.agg (.pr tQ (.sl (.pr tQ (.pr tQ pQ))))]
abbrev R_Zg:List PSh := [.one .str]
theorem e_Zg:cFn Tryz.prog 47 = some F_Zg.erase := by kernel_rfl
theorem k_Zg:callable Tryz.prog 47 = true := by kernel_rfl
def F_Zh:TFn := ⟨26,0,[.tmp 4],(.seq (.reg [(oQ 4 (.mv cF))])
 (.seq (.seq (.reg [(mQ 6 0),(hQ 7 6),(mQ 8 1),(hQ 9 8),(bQ 10 .neq 7 9)])
 (.cond (.t 10) (.seq (.reg [(oQ 4 (.mv cF))])
 .ret) .skip))
 (.seq (.seq (.reg [(oQ 5 (.mv (iQ 0)))])
 (.block 0 (.loop [.v 5 tQ] [] [] (.seq (.seq (.reg [(mQ 11 5),(mQ 12 0),(hQ 13 12),(bQ 14 .lss 11 13)])
 (.cond (.t 14) .skip (.exit 0)))
 (.seq (.block 1 (.seq (.regd [(mQ 17 0),(mQ 18 5),(jQ 19 1 17 18),(lQ 20 19),(mQ 21 1),(mQ 22 5),(jQ 23 1 21 22),(lQ 24 23),(bQ 25 .neq 20 24)] [(3,7)] [])
 (.cond (.t 25) (.seq (.reg [(oQ 4 (.mv cF))])
 .ret) .skip)))
 (.reg [(mQ 15 5),(cQ 16 .add 15 1),(mQ 5 16)]))))))
 (.seq (.reg [(oQ 4 (.mv cT))])
 .ret))))⟩
def A_Zh:Nat→Ty := tyAt []
abbrev P_Zh:List PSh := [.one (.sl tQ),.one (.sl tQ)]
abbrev R_Zh:List PSh := [.one .bool]
theorem e_Zh:cFn Tryz.prog 48 = some F_Zh.erase := by kernel_rfl
theorem k_Zh:callable Tryz.prog 48 = true := by kernel_rfl
def F_Zi:TFn := ⟨29,3,[.tmp 2],(.seq (.reg [(oQ 1 (.box 0 (.t 0))),(oQ 2 (.mv (iQ 0)))])
 (.seq (.seq (.reg [(fQ 4 0 1),(lQ 5 4),(hQ 6 5),(cQ 7 .eql 6 0)])
 (.cond (.t 7) (.seq (.reg [(oQ 2 (.mv (iQ 10)))])
 .ret) .skip))
 (.seq (.seq (.reg [(fQ 8 0 1),(lQ 9 8),(hQ 10 9),(cQ 11 .gtr 10 9)])
 (.cond (.t 11) (.seq (.reg [(oQ 2 (.mv (iQ 8)))])
 .ret) .skip))
 (.seq (.seq (.reg [(oQ 3 (.mv (iQ 0)))])
 (.block 0 (.loop [.v 3 tQ] [] [] (.seq (.seq (.reg [(mQ 12 3),(fQ 13 0 1),(lQ 14 13),(hQ 15 14),(bQ 16 .lss 12 15)])
 (.cond (.t 16) .skip (.exit 0)))
 (.seq (.block 1 (.seq (.reg [(fQ 19 0 1),(lQ 20 19),(mQ 21 3),(jQ 22 1 20 21),(lQ 23 22),(kQ 24 1 8 [(.t 23),(iQ (-100000)),(iQ 100000)]),(oQ 25 (.unot (.t 24)))])
 (.cond (.t 25) (.seq (.reg [(oQ 2 (.mv (iQ 2)))])
 .ret) .skip)))
 (.reg [(mQ 17 3),(cQ 18 .add 17 1),(mQ 3 18)]))))))
 (.seq (.seq (.reg [(nQ 26 1 1),(kQ 27 2 113 [(.t 26)]),(cQ 28 .lss 27 1)])
 (.cond (.t 28) (.seq (.reg [(oQ 2 (.mv (iQ 11)))])
 .ret) .skip))
 (.seq (.reg [(oQ 2 (.mv (iQ 0)))])
 .ret))))))⟩
def A_Zi:Nat→Ty := tyAt [.un,.un,.un]
abbrev P_Zi:List PSh := [.agg (.sl tQ)]
abbrev R_Zi:List PSh := [.one tQ]
theorem e_Zi:cFn Tryz.prog 49 = some F_Zi.erase := by kernel_rfl
theorem k_Zi:callable Tryz.prog 49 = true := by kernel_rfl
def F_Z14:TFn := ⟨11,2,[.tmp 2],(.seq (.reg [(oQ 1 (.box 0 (.t 0))),(oQ 2 (.mv (iQ 0)))])
 (.seq (.reg [(nQ 6 2 1),(kQ 7 1 114 [(.t 6)]),(mQ 5 7),(oQ 8 (.ext 0 (.t 5))),(oQ 9 (.ext 1 (.t 5))),(mQ 3 8),(mQ 4 9)])
 (.seq (.reg [(mQ 10 4),(mQ 2 10)])
 .ret)))⟩
def A_Z14:Nat→Ty := tyAt [.un,.un]
abbrev P_Z14:List PSh := [.agg (.pr tQ (.sl (.pr tQ (.pr tQ pQ))))]
abbrev R_Z14:List PSh := [.one tQ]
theorem e_Z14:cFn Tryz.prog 50 = some F_Z14.erase := by kernel_rfl
theorem k_Z14:callable Tryz.prog 50 = true := by kernel_rfl
def F_Z1j:TFn := ⟨5,1,[.tmp 0],(.seq (.reg [(oQ 0 (.mv (.c (.p (.sl 0 [] true)))))])
 (.seq (.reg [(oQ 1 (.build [zQ,zQ] [(1,1,(iQ 2))])),(oQ 2 (.build [zQ,zQ] [(0,1,(iQ 1)),(1,1,(iQ 1))])),(oQ 3 (.build [zQ,zQ] [(0,1,(iQ 4)),(1,1,(iQ 6))])),(oQ 4 (.bsl false 0 2 3 [zQ,zQ,zQ,zQ,zQ,zQ] [(0,2,(.t 1)),(2,2,(.t 2)),(4,2,(.t 3))])),(mQ 0 4)])
 .ret))⟩
theorem e_Z1j:cFn Tryz.prog 72 = some F_Z1j.erase := by kernel_rfl
def F_Z1k:TFn := ⟨66,15,[.tmp 6,.tmp 7],(.seq (.reg [(oQ 3 (.box 0 (.t 0))),(oQ 5 (.box 1 (.t 2))),(oQ 6 (.mv (.c (.p (.sl 0 [] true))))),(oQ 7 (.mv (iQ 0)))])
 (.seq (.regd [(lQ 14 3),(kQ 15 2 136 [(.t 14)]),(mQ 16 1),(kQ 17 3 137 [(.t 16)]),(lQ 18 5),(kQ 19 4 88 [(.t 18),(iQ 0),(iQ 1000)]),(kQ 20 5 84 [(.t 19),(iQ 2)]),(lQ 21 3),(hQ 22 21),(mQ 23 1),(hQ 24 23),(bQ 25 .eql 22 24),(mQ 26 25),(gQ 27 26 true (.ld1 (.t 3))),(gQ 28 26 true (.len false (.t 27))),(gQ 29 26 true (.bin .geq (.t 28) (iQ 3))),(oQ 30 (.pick (.t 26) (.t 29) cF)),(kQ 31 6 84 [(.t 30),(iQ 10)]),(oQ 32 (.bsl false 7 1 4 [zQ,zQ,zQ,zQ] [(0,1,(.t 15)),(1,1,(.t 17)),(2,1,(.t 20)),(3,1,(.t 31))])),(kQ 33 8 83 [(.t 32)]),(mQ 8 33)] [(0,4),(1,4),(3,4),(0,7),(1,7),(3,7),(4,7),(5,7),(6,7)] [])
 (.seq (.seq (.reg [(mQ 34 8),(cQ 35 .neq 34 0)])
 (.cond (.t 35) (.seq (.reg [(mQ 36 8),(oQ 6 (.mv (.c (.p (.sl 0 [] true))))),(mQ 7 36)])
 .ret) .skip))
 (.seq (.reg [(oQ 9 (.newz 9 [(.p (.sl 0 [] true))]))])
 (.seq (.seq (.reg [(mQ 37 1),(kQ 38 10 138 [(.t 37),(iQ 3)])])
 (.block 0 (.rng (.t 38) [39,40] [39,40,10,11,41,42,43,12,44,45,46,47,48,13,49,50,51,52,53,54,55,56,57,58,59,60,61,62,63,64] [.q 9 14 pQ] [9,12,14] [12,14] (.seq (.reg [(mQ 10 39)])
 (.reg [(mQ 11 40)]))
 (.block 1 (.seq (.reg [(oQ 41 (.sla 1 3 (.c (.ipt [(.int .i64 1),(.int .i64 (-2)),(.int .i64 1)])) none none)),(mQ 42 11),(kQ 43 11 139 [(.t 41),(.t 42)]),(oQ 12 (.newz 12 [zQ,zQ])),(sQ 2 12 43)])
 (.seq (.reg [(lQ 44 3),(mQ 45 10),(cQ 46 .add 45 1),(jQ 47 1 44 46),(lQ 48 47),(mQ 13 48)])
 (.reg [(lQ 49 9),(mQ 50 13),(lQ 51 5),(fQ 52 1 12),(lQ 53 52),(bQ 54 .mul 51 53),(bQ 55 .sub 50 54),(mQ 56 13),(lQ 57 5),(fQ 58 0 12),(lQ 59 58),(bQ 60 .mul 57 59),(bQ 61 .sub 56 60),(oQ 62 (.build [zQ,zQ] [(0,1,(.t 55)),(1,1,(.t 61))])),(oQ 63 (.bsl false 13 2 1 [zQ,zQ] [(0,2,(.t 62))])),(oQ 64 (.app 14 2 16 (.t 49) (.t 63))),(sQ 1 9 64)])))))))
 (.seq (.reg [(lQ 65 9),(mQ 6 65),(oQ 7 (.mv (iQ 0)))])
 .ret))))))⟩
theorem e_Z1k:cFn Tryz.prog 71 = some F_Z1k.erase := by kernel_rfl
def F_Z1l:TFn := ⟨9,2,[.celln 0 2],(.seq (.reg [(oQ 0 (.newz 0 [zQ,(.p (.sl 0 [] true))]))])
 (.seq (.reg [(oQ 1 (.build [zQ,zQ] [(0,1,(iQ 5)),(1,1,(iQ 6))])),(oQ 2 (.build [zQ,zQ,zQ,zQ] [(1,1,(iQ 1)),(2,2,(.t 1))])),(oQ 3 (.build [zQ,zQ] [(0,1,(iQ 2)),(1,1,(iQ 3))])),(oQ 4 (.build [zQ,zQ,zQ,zQ] [(0,1,(iQ 1)),(1,1,(iQ 2)),(2,2,(.t 3))])),(oQ 5 (.build [zQ,zQ] [(0,1,(iQ 7)),(1,1,(iQ 8))])),(oQ 6 (.build [zQ,zQ,zQ,zQ] [(1,1,(iQ 2)),(2,2,(.t 5))])),(oQ 7 (.bsl false 1 4 3 [zQ,zQ,zQ,zQ,zQ,zQ,zQ,zQ,zQ,zQ,zQ,zQ] [(0,4,(.t 2)),(4,4,(.t 4)),(8,4,(.t 6))])),(oQ 8 (.build [zQ,(.p (.sl 0 [] true))] [(0,1,(iQ 3)),(1,1,(.t 7))])),(sQ 2 0 8)])
 .ret))⟩
theorem e_Z1l:cFn Tryz.prog 73 = some F_Z1l.erase := by kernel_rfl
def F_Z1m:TFn := ⟨27,3,[.tmp 2,.tmp 3],(.seq (.reg [(oQ 1 (.box 0 (.t 0))),(oQ 2 (.mv (.c (.p (.sl 0 [] true))))),(oQ 3 (.mv (iQ 0)))])
 (.seq (.seq (.reg [(nQ 9 2 1),(kQ 10 1 77 [(.t 9)]),(mQ 8 10),(oQ 11 (.ext 0 (.t 8))),(oQ 12 (.ext 1 (.t 8))),(mQ 4 11),(mQ 5 12)])
 (.seq (.reg [(mQ 13 5),(cQ 14 .neq 13 0)])
 (.cond (.t 14) (.seq (.reg [(mQ 15 5),(oQ 2 (.mv (.c (.p (.sl 0 [] true))))),(mQ 3 15)])
 .ret) .skip)))
 (.seq (.reg [(fQ 17 0 1),(lQ 18 17),(fQ 19 1 1),(lQ 20 19),(kQ 21 2 80 [(.t 18),(.t 20)]),(mQ 16 21),(oQ 22 (.ext 0 (.t 16))),(oQ 23 (.ext 1 (.t 16))),(mQ 6 22),(mQ 7 23)])
 (.seq (.seq (.reg [(mQ 24 7),(oQ 25 (.unot (.t 24)))])
 (.cond (.t 25) (.seq (.reg [(oQ 2 (.mv (.c (.p (.sl 0 [] true))))),(oQ 3 (.mv (iQ 13)))])
 .ret) .skip))
 (.seq (.reg [(mQ 26 6),(mQ 2 26),(oQ 3 (.mv (iQ 0)))])
 .ret)))))⟩
theorem e_Z1m:cFn Tryz.prog 20 = some F_Z1m.erase := by kernel_rfl
def F_Z1n:TFn := ⟨26,0,[.tmp 4],(.seq (.reg [(oQ 4 (.mv cF))])
 (.seq (.seq (.reg [(mQ 6 0),(hQ 7 6),(mQ 8 1),(hQ 9 8),(bQ 10 .neq 7 9)])
 (.cond (.t 10) (.seq (.reg [(oQ 4 (.mv cF))])
 .ret) .skip))
 (.seq (.seq (.reg [(oQ 5 (.mv (iQ 0)))])
 (.block 0 (.loop [.v 5 tQ] [] [] (.seq (.seq (.reg [(mQ 11 5),(mQ 12 0),(hQ 13 12),(bQ 14 .lss 11 13)])
 (.cond (.t 14) .skip (.exit 0)))
 (.seq (.block 1 (.seq (.regd [(mQ 17 0),(mQ 18 5),(jQ 19 2 17 18),(nQ 20 2 19),(mQ 21 1),(mQ 22 5),(jQ 23 2 21 22),(nQ 24 2 23),(oQ 25 (.eqa true 2 [(true,0),(true,1)] (.t 20) (.t 24)))] [(3,7)] [])
 (.cond (.t 25) (.seq (.reg [(oQ 4 (.mv cF))])
 .ret) .skip)))
 (.reg [(mQ 15 5),(cQ 16 .add 15 1),(mQ 5 16)]))))))
 (.seq (.reg [(oQ 4 (.mv cT))])
 .ret))))⟩
theorem e_Z1n:cFn Tryz.prog 74 = some F_Z1n.erase := by kernel_rfl
def F_Zn:TFn := ⟨20,4,[.tmp 2],(.seq (.reg [⟨some 2,none,(.op (.mv (.c (.p (.str ⟨#[]⟩)))))⟩])
 (.seq (.reg [(oQ 3 (.mv (.c (.p (.sl 0 [] true)))))])
 (.seq (.seq (.reg [(mQ 6 0),(hQ 7 6),(oQ 8 (.mv (iQ 0)))])
 (.block 0 (.loop [.v 8 tQ,.o 3 2 .str] [2] [2] (.seq (.reg [(bQ 9 .lss 8 7)])
 (.seq (.cond (.t 9) .skip (.exit 0))
 (.seq (.block 1 (.seq (.reg [(jQ 10 1 6 8),(lQ 11 10),(mQ 5 11)])
 (.reg [(mQ 12 3),(mQ 13 5),(kQ 14 0 95 [(.t 13)]),⟨some 15,none,(.op (.bsl false 1 1 1 [(.p (.str ⟨#[]⟩))] [(0,1,(.t 14))]))⟩,(oQ 16 (.app 2 1 16 (.t 12) (.t 15))),(mQ 3 16)])))
 (.reg [(cQ 17 .add 8 1),(mQ 8 17)])))))))
 (.seq (.reg [(mQ 18 3),⟨some 19,none,(.call 3 79 [(.t 18),(.c (.p (.str ⟨#[32]⟩)))])⟩,(mQ 2 19)])
 .ret))))⟩
def A_Zn:Nat→Ty := tyAt [.un,.str,.str,.un]
abbrev P_Zn:List PSh := [.one (.sl tQ)]
abbrev R_Zn:List PSh := [.one .str]
theorem e_Zn:cFn Tryz.prog 78 = some F_Zn.erase := by kernel_rfl
theorem k_Zn:callable Tryz.prog 78 = true := by kernel_rfl
abbrev P_Z1d:List PSh := [.one (.sl .str),.one .str]
abbrev R_Z1d:List PSh := [.one .str]

theorem k_Z1d:callable Tryz.prog 79 = true := by kernel_rfl
abbrev P_Z1f:List PSh := [.one .str,.one .str]
abbrev R_Z1f:List PSh := [.one (.sl .str)]

theorem k_Z1f:callable Tryz.prog 75 = true := by kernel_rfl
def F_Z5:TFn := ⟨50,11,[.cell1 6,.cell1 7],(.seq (.reg [(oQ 4 (.box 0 (.t 1))),(oQ 5 (.box 1 (.t 2))),(oQ 6 (.newz 2 [(.p (.sl 0 [] true))])),(oQ 7 (.newz 3 [(.p (.bool false))]))])
 (.seq (.reg [(oQ 8 (.newz 4 [(.p (.sl 0 [] true))]))])
 (.seq (.seq (.reg [(mQ 12 0)])
 (.block 0 (.rngc 96 [(.t 12),(.c (.p (.str ⟨#[32]⟩)))] 13 [14] [14,9,16,17,15,18,19,10,11,20,21,22,23,24,25,26,27,28,29,30,31,32,33,34,35,36,37,38,39,40,41,42,43,44,45,46,47,48] [.q 4 10 tQ] [4,10] [10] (.reg [(mQ 9 14)])
 (.block 1 (.seq (.reg [(mQ 16 9),(kQ 17 6 141 [(.t 16)]),(mQ 15 17),(oQ 18 (.ext 0 (.t 15))),(oQ 19 (.ext 1 (.t 15))),(mQ 10 18),(mQ 11 19)])
 (.seq (.seq (.regd [(mQ 20 11),(oQ 21 (.isi true (.t 20))),(mQ 22 21),(vQ 23 22 false 10),⟨some 24,some (some 22,false),(.call 7 95 [(.t 23)])⟩,(vQ 25 22 false 9),(gQ 26 22 false (.scmp true (.t 24) (.t 25))),(oQ 27 (.pick (.t 22) cT (.t 26))),(mQ 28 27),(vQ 29 28 false 9),⟨some 30,some (some 28,false),(.call 8 142 [(.t 29),(.c (.p (.str ⟨#[45]⟩)))])⟩,(gQ 31 28 false (.len true (.t 30))),(gQ 32 28 false (.ld1 (.t 4))),(gQ 33 28 false (.bin .gtr (.t 31) (.t 32))),(oQ 34 (.pick (.t 28) cT (.t 33))),(mQ 35 34),(vQ 36 35 false 10),(gQ 37 35 false (.bin .lss (.t 36) (iQ 0))),(vQ 38 35 false 37),(gQ 39 38 true (.ld1 (.t 8))),(gQ 40 38 true (.len false (.t 39))),(gQ 41 38 true (.ld1 (.t 5))),(gQ 42 38 true (.bin .lss (.t 40) (.t 41))),(gQ 43 35 false (.pick (.t 38) (.t 42) cF)),(oQ 44 (.pick (.t 35) cT (.t 43)))] [(10,12),(19,21)] [])
 (.cond (.t 44) (.seq (.reg [(uQ (.st 1 (.t 6) (.c (.p (.sl 0 [] true))))),(uQ (.st 1 (.t 7) cF))])
 .ret) .skip))
 (.reg [(lQ 45 8),(mQ 46 10),(oQ 47 (.bsl false 9 1 1 [zQ] [(0,1,(.t 46))])),(oQ 48 (.app 10 1 8 (.t 45) (.t 47))),(sQ 1 8 48)])))))))
 (.seq (.reg [(lQ 49 8),(sQ 1 6 49),(uQ (.st 1 (.t 7) cT))])
 .ret))))⟩
def A_Z5:Nat→Ty := tyAt [.un,.un,.un,.un,.un,.un,.un,.un,.un,tQ,tQ]
abbrev P_Z5:List PSh := [.one .str,.one tQ,.one tQ]
abbrev R_Z5:List PSh := [.one (.sl tQ),.one .bool]
theorem e_Z5:cFn Tryz.prog 76 = some F_Z5.erase := by kernel_rfl
theorem k_Z5:callable Tryz.prog 76 = true := by kernel_rfl
def F_Z4:TFn := ⟨63,14,[.tmp 2,.tmp 3],(.seq (.reg [(oQ 1 (.box 0 (.t 0))),(oQ 2 (.mv (iQ 0))),(oQ 3 (.mv (iQ 0)))])
 (.seq (.seq (.regd [(fQ 9 0 1),(lQ 10 9),(kQ 11 1 88 [(.t 10),(iQ 1),(iQ 8)]),(kQ 12 2 84 [(.t 11),(iQ 2)]),(fQ 13 1 1),(lQ 14 13),(hQ 15 14),(cQ 16 .leq 15 12),(kQ 17 3 84 [(.t 16),(iQ 8)]),(oQ 18 (.bsl false 4 1 2 [zQ,zQ] [(0,1,(.t 12)),(1,1,(.t 17))])),(kQ 19 5 83 [(.t 18)]),(mQ 4 19)] [(1,5),(2,5),(3,5)] [])
 (.seq (.reg [(mQ 20 4),(cQ 21 .neq 20 0)])
 (.cond (.t 21) (.seq (.reg [(mQ 22 4),(oQ 2 (.mv (iQ 0))),(mQ 3 22)])
 .ret) .skip)))
 (.seq (.seq (.reg [(fQ 23 1 1),(lQ 24 23),(hQ 25 24),(oQ 26 (.mv (iQ 0)))])
 (.block 0 (.loop [.v 26 tQ] [6] [6] (.seq (.reg [(bQ 27 .lss 26 25)])
 (.seq (.cond (.t 27) .skip (.exit 0))
 (.seq (.block 1 (.seq (.reg [(mQ 28 26),(jQ 29 4 24 26),(nQ 30 4 29),(oQ 6 (.newz 6 [zQ,zQ,zQ,zQ])),(mQ 5 28),(sQ 4 6 30)])
 (.seq (.reg [(fQ 31 0 6),(lQ 32 31),(fQ 33 0 1),(lQ 34 33),(cQ 35 .sub 34 1),(kQ 36 7 88 [(.t 32),(iQ 0),(.t 35)]),(mQ 37 36),(gQ 38 37 true (.fa 1 (.t 6))),(gQ 39 37 true (.ld1 (.t 38))),(gQ 40 37 true (.fa 0 (.t 1))),(gQ 41 37 true (.ld1 (.t 40))),(gQ 42 37 true (.bin .sub (.t 41) (iQ 1))),⟨some 43,some (some 37,true),(.call 8 88 [(.t 39),(iQ 0),(.t 42)])⟩,(oQ 44 (.pick (.t 37) (.t 43) cF)),(mQ 7 44)])
 (.seq (.regd [(mQ 45 7),(kQ 46 9 84 [(.t 45),(iQ 6)]),(fQ 47 0 6),(lQ 48 47),(fQ 49 1 6),(lQ 50 49),(bQ 51 .neq 48 50),(kQ 52 10 84 [(.t 51),(iQ 13)]),(fQ 53 2 6),(nQ 54 2 53),(kQ 55 11 143 [(.t 54),(iQ 1000000)]),(oQ 56 (.bsl false 12 1 3 [zQ,zQ,zQ] [(0,1,(.t 46)),(1,1,(.t 52)),(2,1,(.t 55))])),(kQ 57 13 83 [(.t 56)]),(mQ 8 57)] [(1,3),(1,5),(3,5),(1,9),(3,9),(5,9),(7,9)] [])
 (.seq (.reg [(mQ 58 8),(cQ 59 .neq 58 0)])
 (.cond (.t 59) (.seq (.reg [(mQ 60 5),(mQ 61 8),(mQ 2 60),(mQ 3 61)])
 .ret) .skip))))))
 (.reg [(cQ 62 .add 26 1),(mQ 26 62)])))))))
 (.seq (.reg [(oQ 2 (.mv (iQ 0))),(oQ 3 (.mv (iQ 0)))])
 .ret))))⟩
def A_Z4:Nat→Ty := tyAt [.un,.un,.un,.un,tQ,.un,.un,.un,.un,.un,.un,.un,tQ,.un]
abbrev P_Z4:List PSh := [.agg (.pr tQ (.sl (.pr tQ (.pr tQ pQ))))]
abbrev R_Z4:List PSh := [.one tQ,.one tQ]
theorem e_Z4:cFn Tryz.prog 77 = some F_Z4.erase := by kernel_rfl
theorem k_Z4:callable Tryz.prog 77 = true := by kernel_rfl
def F_Z1o:TFn := ⟨18,4,[.tmp 4,.tmp 5],(.seq (.reg [(oQ 4 (.mv (.c (.p (.sl 0 [] true))))),(oQ 5 (.mv cF))])
 (.seq (.reg [(mQ 8 0),(oQ 9 (.mk 0 1 8 [zQ] (.t 8))),(mQ 6 9)])
 (.seq (.reg [(mQ 10 1),(mQ 11 6),(oQ 12 (.bsl false 1 1 1 [(.p (.bool false))] [(0,1,cT)])),(mQ 13 0),(kQ 14 2 148 [(.t 12),(.t 13)]),(kQ 15 3 147 [(.t 10),(.t 11),(.t 14)]),(mQ 7 15)])
 (.seq (.reg [(mQ 16 6),(mQ 17 7),(mQ 4 16),(mQ 5 17)])
 .ret))))⟩
theorem e_Z1o:cFn Tryz.prog 80 = some F_Z1o.erase := by kernel_rfl
def F_Z1b:TFn := ⟨8,2,[.tmp 2],(.seq (.reg [(oQ 2 (.mv (.c (.p (.sl 0 [] true)))))])
 (.seq (.seq (.reg [(mQ 3 0),(oQ 4 (.isn (.t 3)))])
 (.cond (.t 4) (.seq (.reg [(oQ 2 (.mv (.c (.p (.sl 0 [] true)))))])
 .ret) .skip))
 (.seq (.reg [(oQ 5 (.bsl true 0 1 0 [] [])),(mQ 6 0),(oQ 7 (.app 1 1 8 (.t 5) (.t 6))),(mQ 2 7)])
 .ret)))⟩
def A_Z1b:Nat→Ty := tyAt [tQ,tQ]
abbrev P_Z1b:List PSh := [.one (.sl tQ)]
abbrev E_Z1b:Ty := tQ
theorem e_Z1b:cFn Tryz.prog 82 = some F_Z1b.erase := by kernel_rfl
theorem k_Z1b:callable Tryz.prog 82 = true := by kernel_rfl
def F_Z6:TFn := ⟨7,0,[.tmp 4],(.seq (.reg [(oQ 4 (.mv (iQ 0)))])
 (.seq (.seq (.reg [(mQ 5 0)])
 (.cond (.t 5) (.seq (.reg [(oQ 4 (.mv (iQ 0)))])
 .ret) .skip))
 (.seq (.reg [(mQ 6 1),(mQ 4 6)])
 .ret)))⟩
def A_Z6:Nat→Ty := tyAt []
abbrev P_Z6:List PSh := [.one .bool,.one tQ]
abbrev R_Z6:List PSh := [.one tQ]
theorem e_Z6:cFn Tryz.prog 84 = some F_Z6.erase := by kernel_rfl
theorem k_Z6:callable Tryz.prog 84 = true := by kernel_rfl
def F_Ze:TFn := ⟨15,0,[.tmp 2],(.seq (.reg [(oQ 2 (.mv (iQ 0)))])
 (.seq (.seq (.reg [(mQ 5 0),(hQ 6 5),(oQ 7 (.mv (iQ 0)))])
 (.block 0 (.loop [.v 7 tQ] [] [] (.seq (.reg [(bQ 8 .lss 7 6)])
 (.seq (.cond (.t 8) .skip (.exit 0))
 (.seq (.block 1 (.seq (.reg [(jQ 9 1 5 7),(lQ 10 9),(mQ 4 10)])
 (.seq (.reg [(mQ 11 4),(cQ 12 .neq 11 0)])
 (.cond (.t 12) (.seq (.reg [(mQ 13 4),(mQ 2 13)])
 .ret) .skip))))
 (.reg [(cQ 14 .add 7 1),(mQ 7 14)])))))))
 (.seq (.reg [(oQ 2 (.mv (iQ 0)))])
 .ret)))⟩
def A_Ze:Nat→Ty := tyAt []
abbrev P_Ze:List PSh := [.one (.sl tQ)]
abbrev R_Ze:List PSh := [.one tQ]
theorem e_Ze:cFn Tryz.prog 83 = some F_Ze.erase := by kernel_rfl
theorem k_Ze:callable Tryz.prog 83 = true := by kernel_rfl
def F_Z7:TFn := ⟨15,0,[.tmp 6],(.seq (.reg [(oQ 6 (.mv cF))])
 (.seq (.reg [(mQ 7 1),(mQ 8 0),(bQ 9 .leq 7 8),(mQ 10 9),(vQ 11 10 true 0),(vQ 12 10 true 2),(gQ 13 10 true (.bin .leq (.t 11) (.t 12))),(oQ 14 (.pick (.t 10) (.t 13) cF)),(mQ 6 14)])
 .ret))⟩
def A_Z7:Nat→Ty := tyAt []
abbrev P_Z7:List PSh := [.one tQ,.one tQ,.one tQ]
abbrev R_Z7:List PSh := [.one .bool]
theorem e_Z7:cFn Tryz.prog 88 = some F_Z7.erase := by kernel_rfl
theorem k_Z7:callable Tryz.prog 88 = true := by kernel_rfl
abbrev P_Z1e:List PSh := [.one tQ]
abbrev R_Z1e:List PSh := [.one .str]

theorem k_Z1e:callable Tryz.prog 95 = true := by kernel_rfl
abbrev P_Z1i:List PSh := [.one .str,.one .str]
abbrev R_Z1i:List PSh := [.one (.sl .str)]

def F_Zo:TFn := ⟨34,4,[.tmp 4],(.seq (.reg [(oQ 4 (.mv (.c (.p (.sl 0 [] true)))))])
 (.seq (.reg [(oQ 5 (.mv (.c (.p (.sl 0 [] true)))))])
 (.seq (.reg [(oQ 6 (.mv (iQ 0)))])
 (.seq (.seq (.reg [(oQ 7 (.mv (iQ 0)))])
 (.block 0 (.loop [.v 7 tQ,.v 6 tQ,.o 5 1 .str] [1] [1] (.seq (.seq (.reg [(mQ 8 7),(mQ 9 0),(oQ 10 (.len true (.t 9))),(bQ 11 .lss 8 10)])
 (.cond (.t 11) .skip (.exit 0)))
 (.seq (.block 1 (.seq (.reg [(mQ 14 0),(mQ 15 7),(oQ 16 (.six (.t 14) (.t 15))),(mQ 17 1),(bQ 18 .eql 16 17)])
 (.cond (.t 18) (.seq (.reg [(mQ 19 5),(mQ 20 0),(mQ 21 6),(mQ 22 7),(oQ 23 (.ssl (.t 20) (some (.t 21)) (some (.t 22)))),⟨some 24,none,(.op (.bsl false 0 1 1 [(.p (.str ⟨#[]⟩))] [(0,1,(.t 23))]))⟩,(oQ 25 (.app 1 1 16 (.t 19) (.t 24))),(mQ 5 25)])
 (.reg [(mQ 26 7),(cQ 27 .add 26 1),(mQ 6 27)])) .skip)))
 (.reg [(mQ 12 7),(cQ 13 .add 12 1),(mQ 7 13)]))))))
 (.seq (.reg [(mQ 28 5),(mQ 29 0),(mQ 30 6),(oQ 31 (.ssl (.t 29) (some (.t 30)) none)),⟨some 32,none,(.op (.bsl false 2 1 1 [(.p (.str ⟨#[]⟩))] [(0,1,(.t 31))]))⟩,(oQ 33 (.app 3 1 16 (.t 28) (.t 32))),(mQ 4 33)])
 .ret)))))⟩
def A_Zo:Nat→Ty := tyAt [.str,.str,.str,.str]
abbrev P_Zo:List PSh := [.one .str,.one (.int .u8)]
abbrev R_Zo:List PSh := [.one (.sl .str)]
theorem e_Zo:cFn Tryz.prog 100 = some F_Zo.erase := by kernel_rfl
theorem k_Zo:callable Tryz.prog 100 = true := by kernel_rfl
def F_Zb:TFn := ⟨27,2,[.tmp 2],(.seq (.reg [⟨some 2,none,(.op (.mv (.c (.p (.str ⟨#[]⟩)))))⟩])
 (.seq (.seq (.reg [(mQ 6 0),(cQ 7 .eql 6 0)])
 (.cond (.t 7) (.seq (.reg [⟨some 2,none,(.op (.mv (.c (.p (.str ⟨#[48]⟩)))))⟩])
 .ret) .skip))
 (.seq (.reg [⟨some 3,none,(.op (.mv (.c (.p (.str ⟨#[]⟩)))))⟩,⟨some 4,none,(.op (.mv (.c (.p (.str ⟨#[]⟩)))))⟩])
 (.seq (.seq (.reg [(mQ 8 0),(cQ 9 .lss 8 0)])
 (.cond (.t 9) (.reg [⟨some 4,none,(.op (.mv (.c (.p (.str ⟨#[45]⟩)))))⟩]) .skip))
 (.seq (.block 0 (.loop [.v 0 tQ,.v 3 .str] [] [] (.seq (.seq (.reg [(mQ 10 0),(cQ 11 .neq 10 0)])
 (.cond (.t 11) .skip (.exit 0)))
 (.block 1 (.seq (.reg [(mQ 12 0),(cQ 13 .rem 12 10),(mQ 5 13)])
 (.seq (.reg [(mQ 14 5),(kQ 15 0 135 [(.t 14)]),(oQ 16 (.bin .add (iQ 48) (.t 15))),(oQ 17 (.conv .u8 (.t 16))),(oQ 18 (.bsl false 1 1 1 [(.p (.int .u8 0))] [(0,1,(.t 17))])),(oQ 19 (.sof (.t 18))),(mQ 20 3),(oQ 21 (.sadd (.t 19) (.t 20))),(mQ 3 21)])
 (.reg [(mQ 22 0),(cQ 23 .quo 22 10),(mQ 0 23)])))))))
 (.seq (.reg [(mQ 24 4),(mQ 25 3),(oQ 26 (.sadd (.t 24) (.t 25))),(mQ 2 26)])
 .ret))))))⟩
def A_Zb:Nat→Ty := tyAt [.un,(.int .u8)]
abbrev P_Zb:List PSh := [.one tQ]
abbrev R_Zb:List PSh := [.one .str]
theorem e_Zb:cFn Tryz.prog 103 = some F_Zb.erase := by kernel_rfl
theorem k_Zb:callable Tryz.prog 103 = true := by kernel_rfl
def F_Z1p:TFn := ⟨84,13,[.celln 4 1,.tmp 5],(.seq (.reg [(oQ 2 (.box 0 (.t 0))),(oQ 3 (.box 1 (.t 1))),(oQ 4 (.newz 2 [(.p (.sl 0 [] true))])),(oQ 5 (.mv (iQ 0)))])
 (.seq (.seq (.regd [(nQ 15 1 2),(kQ 16 3 110 [(.t 15)]),(nQ 17 1 3),(kQ 18 4 110 [(.t 17)]),(fQ 19 0 2),(lQ 20 19),(hQ 21 20),(fQ 22 0 3),(lQ 23 22),(hQ 24 23),(bQ 25 .add 21 24),(cQ 26 .sub 25 1),(cQ 27 .leq 26 9),(kQ 28 5 84 [(.t 27),(iQ 8)]),(oQ 29 (.bsl false 6 1 3 [zQ,zQ,zQ] [(0,1,(.t 16)),(1,1,(.t 18)),(2,1,(.t 28))])),(kQ 30 7 83 [(.t 29)]),(mQ 6 30)] [(0,2),(1,2),(0,5),(1,5),(2,5),(3,5),(0,8),(1,8),(2,8),(3,8),(5,8)] [])
 (.seq (.reg [(mQ 31 6),(cQ 32 .neq 31 0)])
 (.cond (.t 32) (.seq (.reg [(oQ 33 (.build [(.p (.sl 0 [] true))] [])),(mQ 34 6),(sQ 1 4 33),(mQ 5 34)])
 .ret) .skip)))
 (.seq (.regd [(nQ 35 1 2),(kQ 36 8 159 [(.t 35)]),(nQ 37 1 3),(kQ 38 9 159 [(.t 37)]),(mQ 7 36),(mQ 8 38)] [(0,2),(1,2)] [])
 (.seq (.reg [(mQ 39 7),(hQ 40 39),(mQ 41 8),(hQ 42 41),(bQ 43 .add 40 42),(cQ 44 .sub 43 1),(oQ 45 (.mk 10 1 8 [zQ] (.t 44))),(mQ 9 45)])
 (.seq (.seq (.reg [(mQ 46 7),(hQ 47 46),(oQ 48 (.mv (iQ 0)))])
 (.block 0 (.loop [.v 48 tQ,.d 10 tQ] [10] [] (.seq (.reg [(bQ 49 .lss 48 47)])
 (.seq (.cond (.t 49) .skip (.exit 0))
 (.seq (.block 1 (.seq (.reg [(mQ 50 48),(jQ 51 1 46 48),(lQ 52 51),(mQ 10 50),(mQ 11 52)])
 (.seq (.reg [(mQ 53 8),(hQ 54 53),(oQ 55 (.mv (iQ 0)))])
 (.block 2 (.loop [.v 55 tQ,.d 10 tQ] [10] [] (.seq (.reg [(bQ 56 .lss 55 54)])
 (.seq (.cond (.t 56) .skip (.exit 2))
 (.seq (.block 3 (.seq (.reg [(mQ 57 55),(jQ 58 1 53 55),(lQ 59 58),(mQ 12 57),(mQ 13 59)])
 (.reg [(mQ 60 9),(mQ 61 10),(mQ 62 12),(bQ 63 .add 61 62),(jQ 64 1 60 63),(lQ 65 64),(mQ 66 11),(mQ 67 13),(bQ 68 .mul 66 67),(bQ 69 .add 65 68),(jQ 70 1 60 63),(sQ 1 70 69)])))
 (.reg [(cQ 71 .add 55 1),(mQ 55 71)])))))))))
 (.reg [(cQ 72 .add 48 1),(mQ 48 72)])))))))
 (.seq (.reg [(mQ 73 9),(mQ 74 9),(hQ 75 74),(cQ 76 .quo 75 2),(oQ 77 (.sl 1 (.t 73) (some (.t 76)) none)),(oQ 78 (.build [(.p (.sl 0 [] true))] [(0,1,(.t 77))])),(oQ 14 (.newz 11 [(.p (.sl 0 [] true))])),(sQ 1 14 78)])
 (.seq (.seq (.reg [(fQ 79 0 14),(lQ 80 79),(kQ 81 12 160 [(.t 80),(.c (.clo 161 []))])])
 (.cond (.t 81) (.seq (.reg [(oQ 82 (.build [(.p (.sl 0 [] true))] [])),(sQ 1 4 82),(oQ 5 (.mv (iQ 8)))])
 .ret) .skip))
 (.seq (.reg [(nQ 83 1 14),(sQ 1 4 83),(oQ 5 (.mv (iQ 0)))])
 .ret))))))))⟩
theorem e_Z1p:cFn Tryz.prog 106 = some F_Z1p.erase := by kernel_rfl
def F_Z1q:TFn := ⟨6,1,[.tmp 0],(.seq (.reg [(oQ 0 (.mv (.c (.p (.sl 0 [] true)))))])
 (.seq (.reg [(oQ 1 (.build [zQ,zQ] [(0,1,(iQ 10)),(1,1,(iQ 12))])),(oQ 2 (.build [zQ,zQ,zQ] [(1,2,(.t 1))])),(oQ 3 (.build [zQ,zQ] [(0,1,(iQ 20)),(1,1,(iQ 21))])),(oQ 4 (.build [zQ,zQ,zQ] [(0,1,(iQ 10)),(1,2,(.t 3))])),(oQ 5 (.bsl false 0 3 2 [zQ,zQ,zQ,zQ,zQ,zQ] [(0,3,(.t 2)),(3,3,(.t 4))])),(mQ 0 5)])
 .ret))⟩
theorem e_Z1q:cFn Tryz.prog 108 = some F_Z1q.erase := by kernel_rfl
def F_Z1r:TFn := ⟨32,6,[.celln 2 4,.tmp 3],(.seq (.reg [(oQ 2 (.newz 0 [zQ,zQ,zQ,zQ])),(oQ 3 (.mv (iQ 0)))])
 (.seq (.seq (.reg [(mQ 8 0),(kQ 9 1 162 [(.t 8)]),(mQ 7 9),(oQ 10 (.ext 0 (.t 7))),(oQ 11 (.ext 1 (.t 7))),(mQ 4 10),(mQ 5 11)])
 (.seq (.reg [(mQ 12 5),(cQ 13 .neq 12 0)])
 (.cond (.t 13) (.seq (.reg [(oQ 14 (.build [zQ,zQ,zQ,zQ] [])),(mQ 15 5),(sQ 4 2 14),(mQ 3 15)])
 .ret) .skip)))
 (.seq (.reg [(mQ 16 0),(kQ 17 2 163 [(.t 16)]),(oQ 6 (.newz 3 [zQ,zQ,zQ,zQ])),(sQ 4 6 17)])
 (.seq (.seq (.reg [(fQ 18 0 6),(nQ 19 2 18),(fQ 20 2 6),(nQ 21 2 20),(kQ 22 4 164 [(.t 19),(.t 21)]),(cQ 23 .gtr 22 0)])
 (.cond (.t 23) (.seq (.reg [(oQ 24 (.build [zQ,zQ,zQ,zQ] [])),(sQ 4 2 24),(oQ 3 (.mv (iQ 13)))])
 .ret) .skip))
 (.seq (.reg [(fQ 25 0 6),(nQ 26 2 25),(fQ 27 2 6),(nQ 28 2 27),(kQ 29 5 165 [(.t 26),(.t 28)]),(oQ 30 (.ext 0 (.t 29))),(oQ 31 (.ext 1 (.t 29))),(sQ 4 2 30),(mQ 3 31)])
 .ret)))))⟩
theorem e_Z1r:cFn Tryz.prog 107 = some F_Z1r.erase := by kernel_rfl
def F_Z1s:TFn := ⟨35,5,[.celln 6 2,.tmp 7],(.seq (.reg [(oQ 6 (.newz 0 [zQ,zQ])),(oQ 7 (.mv (iQ 0)))])
 (.seq (.reg [(mQ 9 0),(kQ 10 1 87 [(.t 9),(iQ 1000000)]),(mQ 11 10),(vQ 12 11 true 1),⟨some 13,some (some 11,true),(.call 2 87 [(.t 12),(iQ 10000)])⟩,(oQ 14 (.pick (.t 11) (.t 13) cF)),(mQ 15 14),(vQ 16 15 true 2),⟨some 17,some (some 15,true),(.call 3 88 [(.t 16),(iQ 0),(iQ 1000)])⟩,(oQ 18 (.pick (.t 15) (.t 17) cF)),(mQ 8 18)])
 (.seq (.seq (.reg [(mQ 19 8),(oQ 20 (.unot (.t 19)))])
 (.cond (.t 20) (.seq (.reg [(oQ 21 (.build [zQ,zQ] [])),(sQ 2 6 21),(oQ 7 (.mv (iQ 2)))])
 .ret) .skip))
 (.seq (.reg [(mQ 22 0),(oQ 23 (.bin .mul (iQ 100000) (.t 22))),(mQ 24 1),(oQ 25 (.bin .mul (iQ 3086000) (.t 24))),(bQ 26 .add 23 25),(mQ 27 2),(oQ 28 (.bin .mul (iQ 4193) (.t 27))),(mQ 29 1),(bQ 30 .mul 28 29),(bQ 31 .sub 26 30),(kQ 32 4 166 [(.t 31),(iQ 100000)]),(oQ 33 (.ext 0 (.t 32))),(oQ 34 (.ext 1 (.t 32))),(sQ 2 6 33),(mQ 7 34)])
 .ret))))⟩
theorem e_Z1s:cFn Tryz.prog 109 = some F_Z1s.erase := by kernel_rfl
def F_Zs:TFn := ⟨30,9,[.tmp 2],(.seq (.reg [(oQ 1 (.box 0 (.t 0))),(oQ 2 (.mv (iQ 0)))])
 (.seq (.reg [(fQ 5 0 1),(lQ 6 5),(kQ 7 1 160 [(.t 6),(.c (.clo 167 []))]),(mQ 3 7)])
 (.seq (.regd [(fQ 8 0 1),(lQ 9 8),(hQ 10 9),(cQ 11 .gtr 10 0),(kQ 12 2 84 [(.t 11),(iQ 10)]),(fQ 13 0 1),(lQ 14 13),(hQ 15 14),(cQ 16 .leq 15 9),(kQ 17 3 84 [(.t 16),(iQ 8)]),(mQ 18 3),(oQ 19 (.unot (.t 18))),(kQ 20 4 84 [(.t 19),(iQ 2)]),(oQ 21 (.bsl false 5 1 3 [zQ,zQ,zQ] [(0,1,(.t 12)),(1,1,(.t 17)),(2,1,(.t 20))])),(kQ 22 6 83 [(.t 21)]),(mQ 4 22)] [(1,6),(4,6)] [])
 (.seq (.seq (.reg [(mQ 23 4),(cQ 24 .neq 23 0)])
 (.cond (.t 24) (.seq (.reg [(mQ 25 4),(mQ 2 25)])
 .ret) .skip))
 (.seq (.reg [(nQ 26 1 1),(kQ 27 7 168 [(.t 26)]),(cQ 28 .gtr 27 0),(kQ 29 8 84 [(.t 28),(iQ 11)]),(mQ 2 29)])
 .ret)))))⟩
def A_Zs:Nat→Ty := tyAt [.un,.un,.un,.un,.un,tQ,.un,.un,.un]
abbrev P_Zs:List PSh := [.agg (.sl tQ)]
abbrev R_Zs:List PSh := [.one tQ]
theorem e_Zs:cFn Tryz.prog 110 = some F_Zs.erase := by kernel_rfl
theorem k_Zs:callable Tryz.prog 110 = true := by kernel_rfl
def F_Z8:TFn := ⟨43,3,[.tmp 6,.tmp 7],(.seq (.reg [(oQ 6 (.mv (.c (.p (.sl 0 [] true))))),(oQ 7 (.mv cF))])
 (.seq (.reg [(oQ 8 (.mv (.c (.p (.sl 0 [] true)))))])
 (.seq (.seq (.reg [(oQ 9 (.mv (iQ 0)))])
 (.block 0 (.loop [.v 9 tQ,.o 8 2 tQ] [2] [2] (.seq (.seq (.reg [(mQ 12 9),(mQ 13 0),(hQ 14 13),(bQ 15 .lss 12 14)])
 (.cond (.t 15) .skip (.exit 0)))
 (.seq (.block 1 (.seq (.reg [(mQ 19 0),(mQ 20 9),(jQ 21 1 19 20),(lQ 22 21),(mQ 23 1),(kQ 24 0 156 [(.t 22),(.t 23)]),(mQ 18 24),(oQ 25 (.ext 0 (.t 18))),(oQ 26 (.ext 1 (.t 18))),(mQ 10 25),(mQ 11 26)])
 (.seq (.seq (.reg [(mQ 27 11),(oQ 28 (.unot (.t 27))),(mQ 29 28),(vQ 30 29 false 10),(gQ 31 29 false (.bin .lss (.t 30) (iQ 0))),(vQ 32 29 false 31),(vQ 33 32 true 9),(vQ 34 32 true 2),(gQ 35 32 true (.bin .lss (.t 33) (.t 34))),(gQ 36 29 false (.pick (.t 32) (.t 35) cF)),(oQ 37 (.pick (.t 29) cT (.t 36)))])
 (.cond (.t 37) (.seq (.reg [(oQ 6 (.mv (.c (.p (.sl 0 [] true))))),(oQ 7 (.mv cF))])
 .ret) .skip))
 (.reg [(mQ 38 8),(mQ 39 10),(oQ 40 (.bsl false 1 1 1 [zQ] [(0,1,(.t 39))])),(oQ 41 (.app 2 1 8 (.t 38) (.t 40))),(mQ 8 41)]))))
 (.reg [(mQ 16 9),(cQ 17 .add 16 1),(mQ 9 17)]))))))
 (.seq (.reg [(mQ 42 8),(mQ 6 42),(oQ 7 (.mv cT))])
 .ret))))⟩
def A_Z8:Nat→Ty := tyAt [.un,tQ,tQ]
abbrev P_Z8:List PSh := [.one (.sl .str),.one tQ,.one tQ]
abbrev R_Z8:List PSh := [.one (.sl tQ),.one .bool]
theorem e_Z8:cFn Tryz.prog 111 = some F_Z8.erase := by kernel_rfl
theorem k_Z8:callable Tryz.prog 111 = true := by kernel_rfl
def F_Zp:TFn := ⟨23,1,[.tmp 2],(.seq (.reg [⟨some 2,none,(.op (.mv (.c (.p (.str ⟨#[]⟩)))))⟩])
 (.seq (.reg [⟨some 3,none,(.op (.mv (.c (.p (.str ⟨#[]⟩)))))⟩])
 (.seq (.seq (.reg [(oQ 4 (.mv (iQ 0)))])
 (.block 0 (.loop [.v 4 tQ,.v 3 .str] [] [] (.seq (.seq (.reg [(mQ 5 4),(mQ 6 0),(hQ 7 6),(bQ 8 .lss 5 7)])
 (.cond (.t 8) .skip (.exit 0)))
 (.seq (.block 1 (.seq (.seq (.reg [(mQ 11 4),(cQ 12 .gtr 11 0)])
 (.cond (.t 12) (.reg [(mQ 13 3),⟨some 14,none,(.op (.sadd (.t 13) (.c (.p (.str ⟨#[32]⟩)))))⟩,(mQ 3 14)]) .skip))
 (.reg [(mQ 15 3),(mQ 16 0),(mQ 17 4),(jQ 18 1 16 17),(lQ 19 18),(kQ 20 0 103 [(.t 19)]),(oQ 21 (.sadd (.t 15) (.t 20))),(mQ 3 21)])))
 (.reg [(mQ 9 4),(cQ 10 .add 9 1),(mQ 4 10)]))))))
 (.seq (.reg [(mQ 22 3),(mQ 2 22)])
 .ret))))⟩
def A_Zp:Nat→Ty := tyAt [.un]
abbrev P_Zp:List PSh := [.one (.sl tQ)]
abbrev R_Zp:List PSh := [.one .str]
theorem e_Zp:cFn Tryz.prog 112 = some F_Zp.erase := by kernel_rfl
theorem k_Zp:callable Tryz.prog 112 = true := by kernel_rfl
def F_Z11:TFn := ⟨5,2,[.tmp 2],(.seq (.reg [(oQ 1 (.box 0 (.t 0))),(oQ 2 (.mv (iQ 0)))])
 (.seq (.reg [(nQ 3 1 1),(kQ 4 1 169 [(.t 3),(iQ 0)]),(mQ 2 4)])
 .ret))⟩
def A_Z11:Nat→Ty := tyAt [.un,.un]
abbrev P_Z11:List PSh := [.agg (.sl tQ)]
abbrev R_Z11:List PSh := [.one tQ]
theorem e_Z11:cFn Tryz.prog 113 = some F_Z11.erase := by kernel_rfl
theorem k_Z11:callable Tryz.prog 113 = true := by kernel_rfl
def F_Z9:TFn := ⟨53,6,[.tmp 2,.tmp 3],(.seq (.reg [(oQ 1 (.box 0 (.t 0))),(oQ 2 (.mv (iQ 0))),(oQ 3 (.mv (iQ 0)))])
 (.seq (.seq (.reg [(fQ 7 0 1),(lQ 8 7),(kQ 9 1 8 [(.t 8),(iQ 1),(iQ 8)]),(oQ 10 (.unot (.t 9)))])
 (.cond (.t 10) (.seq (.reg [(oQ 2 (.mv (iQ 0))),(oQ 3 (.mv (iQ 2)))])
 .ret) .skip))
 (.seq (.seq (.reg [(fQ 11 1 1),(lQ 12 11),(hQ 13 12),(cQ 14 .gtr 13 12)])
 (.cond (.t 14) (.seq (.reg [(oQ 2 (.mv (iQ 0))),(oQ 3 (.mv (iQ 8)))])
 .ret) .skip))
 (.seq (.seq (.reg [(oQ 4 (.mv (iQ 0)))])
 (.block 0 (.loop [.v 4 tQ] [2] [2] (.seq (.seq (.reg [(mQ 15 4),(fQ 16 1 1),(lQ 17 16),(hQ 18 17),(bQ 19 .lss 15 18)])
 (.cond (.t 19) .skip (.exit 0)))
 (.seq (.block 1 (.seq (.reg [(fQ 22 1 1),(lQ 23 22),(mQ 24 4),(jQ 25 4 23 24),(nQ 26 4 25),(oQ 5 (.newz 2 [zQ,zQ,zQ,zQ])),(sQ 4 5 26)])
 (.seq (.seq (.reg [(nQ 27 2 1),(fQ 28 0 5),(lQ 29 28),(kQ 30 3 9 [(.t 27),(.t 29)]),(cQ 31 .neq 30 0),(mQ 32 31),(gQ 33 32 false (.ldn 2 (.t 1))),(gQ 34 32 false (.fa 1 (.t 5))),(gQ 35 32 false (.ld1 (.t 34))),⟨some 36,some (some 32,false),(.call 4 9 [(.t 33),(.t 35)])⟩,(gQ 37 32 false (.bin .neq (.t 36) (iQ 0))),(oQ 38 (.pick (.t 32) cT (.t 37)))])
 (.cond (.t 38) (.seq (.reg [(mQ 39 4),(mQ 2 39),(oQ 3 (.mv (iQ 6)))])
 .ret) .skip))
 (.seq (.seq (.reg [(fQ 40 0 5),(lQ 41 40),(fQ 42 1 5),(lQ 43 42),(bQ 44 .eql 41 43)])
 (.cond (.t 44) (.seq (.reg [(mQ 45 4),(mQ 2 45),(oQ 3 (.mv (iQ 13)))])
 .ret) .skip))
 (.seq (.reg [(fQ 46 2 5),(nQ 47 2 46),(kQ 48 5 170 [(.t 47),(iQ 1000000)]),(mQ 6 48)])
 (.seq (.reg [(mQ 49 6),(cQ 50 .neq 49 0)])
 (.cond (.t 50) (.seq (.reg [(mQ 51 4),(mQ 52 6),(mQ 2 51),(mQ 3 52)])
 .ret) .skip)))))))
 (.reg [(mQ 20 4),(cQ 21 .add 20 1),(mQ 4 21)]))))))
 (.seq (.reg [(oQ 2 (.mv (iQ 0))),(oQ 3 (.mv (iQ 0)))])
 .ret)))))⟩
def A_Z9:Nat→Ty := tyAt [.un,.un,.un,.un,.un,.un]
abbrev P_Z9:List PSh := [.agg (.pr tQ (.sl (.pr tQ (.pr tQ pQ))))]
abbrev R_Z9:List PSh := [.one tQ,.one tQ]
theorem e_Z9:cFn Tryz.prog 114 = some F_Z9.erase := by kernel_rfl
theorem k_Z9:callable Tryz.prog 114 = true := by kernel_rfl
def F_Zk:TFn := ⟨7,0,[.tmp 2],(.seq (.reg [(oQ 2 (.mv (iQ 0)))])
 (.seq (.reg [(mQ 3 0),(mQ 4 0),(oQ 5 (.uneg (.t 4))),(oQ 6 (.mm true (.t 3) (.t 5))),(mQ 2 6)])
 .ret))⟩
def A_Zk:Nat→Ty := tyAt []
abbrev P_Zk:List PSh := [.one tQ]
abbrev R_Zk:List PSh := [.one tQ]
theorem e_Zk:cFn Tryz.prog 135 = some F_Zk.erase := by kernel_rfl
theorem k_Zk:callable Tryz.prog 135 = true := by kernel_rfl
def F_Z1t:TFn := ⟨15,5,[.tmp 2],(.seq (.reg [(oQ 2 (.mv (iQ 0)))])
 (.seq (.reg [(mQ 4 0),(kQ 5 0 160 [(.t 4),(.c (.clo 181 []))]),(mQ 3 5)])
 (.seq (.reg [(mQ 6 0),(hQ 7 6),(cQ 8 .leq 7 64),(kQ 9 1 84 [(.t 8),(iQ 8)]),(mQ 10 3),(oQ 11 (.unot (.t 10))),(kQ 12 2 84 [(.t 11),(iQ 2)]),(oQ 13 (.bsl false 3 1 2 [zQ,zQ] [(0,1,(.t 9)),(1,1,(.t 12))])),(kQ 14 4 83 [(.t 13)]),(mQ 2 14)])
 .ret)))⟩
theorem e_Z1t:cFn Tryz.prog 136 = some F_Z1t.erase := by kernel_rfl
def F_Z1u:TFn := ⟨11,1,[.tmp 2],(.seq (.reg [(oQ 2 (.mv (iQ 0)))])
 (.seq (.reg [(mQ 6 0),(kQ 7 0 182 [(.t 6)]),(mQ 5 7),(oQ 8 (.ext 0 (.t 5))),(oQ 9 (.ext 1 (.t 5))),(mQ 3 8),(mQ 4 9)])
 (.seq (.reg [(mQ 10 4),(mQ 2 10)])
 .ret)))⟩
theorem e_Z1u:cFn Tryz.prog 137 = some F_Z1u.erase := by kernel_rfl
def F_Z1v:TFn := ⟨6,2,[.tmp 4],(.seq (.reg [(oQ 2 (.box 0 (.t 0))),(oQ 3 (.box 1 (.t 1))),(oQ 4 (.mv (.c .und)))])
 (.seq (.reg [(oQ 5 (.clo 183 [(.t 2),(.t 3)])),(mQ 4 5)])
 .ret))⟩
theorem e_Z1v:cFn Tryz.prog 138 = some F_Z1v.erase := by kernel_rfl
def F_Z2c:TFn := ⟨25,1,[],(.seq (.reg [(lQ 5 1),(hQ 6 5),(lQ 7 2),(bQ 8 .sub 6 7),(cQ 9 .add 8 1),(oQ 10 (.mm true (iQ 0) (.t 9))),(oQ 11 (.mv (iQ 0)))])
 (.block 0 (.loop [] [] [] (.seq (.reg [(bQ 12 .lss 11 10)])
 (.seq (.cond (.t 12) .skip (.exit 0))
 (.seq (.block 1 (.seq (.reg [(mQ 13 11),(mQ 4 13)])
 (.seq (.reg [(mQ 14 0),(mQ 15 4),(lQ 16 1),(mQ 17 4),(mQ 18 4),(lQ 19 2),(bQ 20 .add 18 19),(oQ 21 (.sl 2 (.t 16) (some (.t 17)) (some (.t 20)))),⟨some 22,none,(.callv 0 (.t 14) [(.t 15),(.t 21)])⟩,(oQ 23 (.unot (.t 22)))])
 (.cond (.t 23) .ret .skip))))
 (.reg [(cQ 24 .add 11 1),(mQ 11 24)])))))))⟩
theorem e_Z2c:cFn Tryz.prog 183 = some F_Z2c.erase := by kernel_rfl
def F_Z1w:TFn := ⟨46,2,[.celln 4 2],(.seq (.reg [(oQ 4 (.newz 0 [zQ,zQ]))])
 (.seq (.reg [(oQ 5 (.newz 1 [zQ,zQ]))])
 (.seq (.seq (.reg [(mQ 10 0),(hQ 11 10),(oQ 12 (.mv (iQ 0)))])
 (.block 0 (.loop [.v 12 tQ,.c 1 pQ] [1] [] (.seq (.reg [(bQ 13 .lss 12 11)])
 (.seq (.cond (.t 13) .skip (.exit 0))
 (.seq (.block 1 (.seq (.reg [(mQ 14 12),(jQ 15 1 10 12),(lQ 16 15),(mQ 6 14),(mQ 7 16)])
 (.seq (.regd [(mQ 17 7),(mQ 18 1),(mQ 19 6),(jQ 20 2 18 19),(fQ 21 0 20),(lQ 22 21),(bQ 23 .mul 17 22),(mQ 24 7),(mQ 25 1),(mQ 26 6),(jQ 27 2 25 26),(fQ 28 1 27),(lQ 29 28),(bQ 30 .mul 24 29),(mQ 8 23),(mQ 9 30)] [(5,12)] [])
 (.reg [(fQ 31 0 5),(lQ 32 31),(mQ 33 8),(mQ 34 9),(oQ 35 (.mm false (.t 33) (.t 34))),(bQ 36 .add 32 35),(fQ 37 1 5),(lQ 38 37),(mQ 39 8),(mQ 40 9),(oQ 41 (.mm true (.t 39) (.t 40))),(bQ 42 .add 38 41),(oQ 43 (.build [zQ,zQ] [(0,1,(.t 36)),(1,1,(.t 42))])),(sQ 2 5 43)]))))
 (.reg [(cQ 44 .add 12 1),(mQ 12 44)])))))))
 (.seq (.reg [(nQ 45 2 5),(sQ 2 4 45)])
 .ret))))⟩
theorem e_Z1w:cFn Tryz.prog 139 = some F_Z1w.erase := by kernel_rfl
abbrev P_Z1g:List PSh := [.one .str]
abbrev R_Z1g:List PSh := [.one tQ,.one .err]

theorem k_Z1g:callable Tryz.prog 141 = true := by kernel_rfl
abbrev P_Z1h:List PSh := [.one .str,.one .str]
abbrev R_Z1h:List PSh := [.one .str]

theorem k_Z1h:callable Tryz.prog 142 = true := by kernel_rfl
def F_Zt:TFn := ⟨24,7,[.tmp 4],(.seq (.reg [(oQ 2 (.box 0 (.t 0))),(oQ 4 (.mv (iQ 0)))])
 (.seq (.regd [(fQ 5 0 2),(lQ 6 5),(mQ 7 1),(kQ 8 1 87 [(.t 6),(.t 7)]),(mQ 9 8),(gQ 10 9 true (.fa 1 (.t 2))),(gQ 11 9 true (.ld1 (.t 10))),(vQ 12 9 true 1),⟨some 13,some (some 9,true),(.call 2 87 [(.t 11),(.t 12)])⟩,(oQ 14 (.pick (.t 9) (.t 13) cF)),(kQ 15 3 84 [(.t 14),(iQ 2)]),(fQ 16 0 2),(lQ 17 16),(fQ 18 1 2),(lQ 19 18),(bQ 20 .leq 17 19),(kQ 21 4 84 [(.t 20),(iQ 9)]),(oQ 22 (.bsl false 5 1 2 [zQ,zQ] [(0,1,(.t 15)),(1,1,(.t 21))])),(kQ 23 6 83 [(.t 22)]),(mQ 4 23)] [(1,12),(3,12),(6,12),(8,12),(10,12),(1,14),(3,14),(6,14),(8,14),(10,14),(12,14)] [])
 .ret))⟩
def A_Zt:Nat→Ty := tyAt [.un,.un,.un,.un,.un,tQ,.un]
abbrev P_Zt:List PSh := [.agg pQ,.one tQ]
abbrev R_Zt:List PSh := [.one tQ]
theorem e_Zt:cFn Tryz.prog 143 = some F_Zt.erase := by kernel_rfl
theorem k_Zt:callable Tryz.prog 143 = true := by kernel_rfl
def F_Z1x:TFn := ⟨59,5,[.tmp 6],(.seq (.reg [(oQ 4 (.box 2 (.t 1))),(oQ 5 (.box 3 (.t 2))),(oQ 6 (.mv cF))])
 (.seq (.seq (.reg [(lQ 10 4),(hQ 11 10),(cQ 12 .add 11 1),(oQ 13 (.mv (iQ 0)))])
 (.block 0 (.loop [.v 13 tQ,.d 0 tQ,.d 1 .bool] [0,1,4,6] [4,6] (.seq (.reg [(bQ 14 .lss 13 12)])
 (.seq (.cond (.t 14) .skip (.exit 0))
 (.seq (.block 1 (.seq (.reg [(oQ 7 (.newz 4 [(.p (.bool false))])),(uQ (.st 1 (.t 7) cF))])
 (.seq (.seq (.reg [(mQ 15 0),(kQ 16 5 192 [(.t 15)])])
 (.block 2 (.rng (.t 16) [17] [17,8,18,19,20,21,22,23,24,25,26,27,28,29,30,31,9,32,33,34,35,36,37,38,39,40,41,42,43,44,45,46,47,48,49,50,51,52,53,54,55] [.d 0 tQ,.d 1 .bool,.c 4 .bool] [0,1,4,6] [6] (.reg [(oQ 8 (.newz 6 [zQ,zQ,zQ])),(sQ 3 8 17)])
 (.block 3 (.seq (.seq (.reg [(lQ 18 5),(fQ 19 1 8),(lQ 20 19),(jQ 21 1 18 20),(lQ 22 21),(oQ 23 (.unot (.t 22)))])
 (.cond (.t 23) (.exit 3) .skip))
 (.seq (.regd [(lQ 24 4),(fQ 25 1 8),(lQ 26 25),(jQ 27 1 24 26),(lQ 28 27),(fQ 29 2 8),(lQ 30 29),(bQ 31 .add 28 30),(mQ 9 31)] [(0,2),(0,6),(2,6),(4,6)] [])
 (.seq (.reg [(lQ 32 5),(fQ 33 0 8),(lQ 34 33),(jQ 35 1 32 34),(lQ 36 35),(oQ 37 (.unot (.t 36))),(mQ 38 37),(vQ 39 38 false 9),(gQ 40 38 false (.ld1 (.t 4))),(gQ 41 38 false (.fa 0 (.t 8))),(gQ 42 38 false (.ld1 (.t 41))),(gQ 43 38 false (.ia 1 (.t 40) (.t 42))),(gQ 44 38 false (.ld1 (.t 43))),(gQ 45 38 false (.bin .lss (.t 39) (.t 44))),(oQ 46 (.pick (.t 38) cT (.t 45)))])
 (.cond (.t 46) (.regd [(lQ 47 4),(fQ 48 0 8),(lQ 49 48),(lQ 50 5),(fQ 51 0 8),(lQ 52 51),(mQ 53 9),(jQ 54 1 47 49),(sQ 1 54 53),(jQ 55 1 50 52),(uQ (.st 1 (.t 55) cT)),(uQ (.st 1 (.t 7) cT))] [(0,2),(0,3),(2,3),(0,5),(2,5),(3,5),(3,8),(5,8)] []) .skip))))))))
 (.seq (.reg [(lQ 56 7),(oQ 57 (.unot (.t 56)))])
 (.cond (.t 57) (.seq (.reg [(oQ 6 (.mv cT))])
 .ret) .skip)))))
 (.reg [(cQ 58 .add 13 1),(mQ 13 58)])))))))
 (.seq (.reg [(oQ 6 (.mv cF))])
 .ret)))⟩
theorem e_Z1x:cFnN Tryz.prog 2 147 = some F_Z1x.erase := by kernel_rfl
def F_Z0:TFn := ⟨70,0,[.tmp 4,.tmp 5],(.seq (.reg [(oQ 4 (.mv (iQ 0))),(oQ 5 (.mv cF))])
 (.seq (.reg [(oQ 6 (.mv (iQ 0)))])
 (.seq (.seq (.reg [(mQ 9 0),(oQ 10 (.len true (.t 9))),(cQ 11 .gtr 10 0),(mQ 12 11),(vQ 13 12 true 0),(gQ 14 12 true (.six (.t 13) (iQ 0))),(gQ 15 12 true (.bin .eql (.t 14) (.c (.p (.int .u8 45))))),(oQ 16 (.pick (.t 12) (.t 15) cF))])
 (.cond (.t 16) (.reg [(oQ 6 (.mv (iQ 1)))]) .skip))
 (.seq (.seq (.reg [(mQ 17 0),(oQ 18 (.len true (.t 17))),(mQ 19 6),(bQ 20 .eql 18 19),(mQ 21 20),(vQ 22 21 false 0),(gQ 23 21 false (.len true (.t 22))),(vQ 24 21 false 6),(gQ 25 21 false (.bin .sub (.t 23) (.t 24))),(vQ 26 21 false 1),(gQ 27 21 false (.bin .gtr (.t 25) (.t 26))),(oQ 28 (.pick (.t 21) cT (.t 27))),(mQ 29 28),(vQ 30 29 false 0),(vQ 31 29 false 6),(gQ 32 29 false (.six (.t 30) (.t 31))),(gQ 33 29 false (.bin .eql (.t 32) (.c (.p (.int .u8 48))))),(vQ 34 29 false 33),(vQ 35 34 true 0),(gQ 36 34 true (.len true (.t 35))),(gQ 37 34 true (.bin .gtr (.t 36) (iQ 1))),(gQ 38 29 false (.pick (.t 34) (.t 37) cF)),(oQ 39 (.pick (.t 29) cT (.t 38)))])
 (.cond (.t 39) (.seq (.reg [(oQ 4 (.mv (iQ 0))),(oQ 5 (.mv cF))])
 .ret) .skip))
 (.seq (.reg [(oQ 7 (.mv (iQ 0)))])
 (.seq (.seq (.reg [(mQ 40 6),(mQ 8 40)])
 (.block 0 (.loop [.v 8 tQ,.v 7 tQ] [] [] (.seq (.seq (.reg [(mQ 41 8),(mQ 42 0),(oQ 43 (.len true (.t 42))),(bQ 44 .lss 41 43)])
 (.cond (.t 44) .skip (.exit 0)))
 (.seq (.block 1 (.seq (.seq (.reg [(mQ 47 0),(mQ 48 8),(oQ 49 (.six (.t 47) (.t 48))),(oQ 50 (.bin .lss (.t 49) (.c (.p (.int .u8 48))))),(mQ 51 50),(vQ 52 51 false 0),(vQ 53 51 false 8),(gQ 54 51 false (.six (.t 52) (.t 53))),(gQ 55 51 false (.bin .gtr (.t 54) (.c (.p (.int .u8 57))))),(oQ 56 (.pick (.t 51) cT (.t 55)))])
 (.cond (.t 56) (.seq (.reg [(oQ 4 (.mv (iQ 0))),(oQ 5 (.mv cF))])
 .ret) .skip))
 (.reg [(mQ 57 7),(oQ 58 (.bin .mul (iQ 10) (.t 57))),(mQ 59 0),(mQ 60 8),(oQ 61 (.six (.t 59) (.t 60))),(oQ 62 (.bin .sub (.t 61) (.c (.p (.int .u8 48))))),(oQ 63 (.conv .i64 (.t 62))),(bQ 64 .add 58 63),(mQ 7 64)])))
 (.reg [(mQ 45 8),(cQ 46 .add 45 1),(mQ 8 46)]))))))
 (.seq (.seq (.reg [(mQ 65 6),(cQ 66 .eql 65 1)])
 (.cond (.t 66) (.reg [(mQ 67 7),(oQ 68 (.uneg (.t 67))),(mQ 7 68)]) .skip))
 (.seq (.reg [(mQ 69 7),(mQ 4 69),(oQ 5 (.mv cT))])
 .ret))))))))⟩
def A_Z0:Nat→Ty := tyAt []
abbrev P_Z0:List PSh := [.one .str,.one tQ]
abbrev R_Z0:List PSh := [.one tQ,.one .bool]
theorem e_Z0:cFn Tryz.prog 156 = some F_Z0.erase := by kernel_rfl
theorem k_Z0:callable Tryz.prog 156 = true := by kernel_rfl
def F_Zw:TFn := ⟨14,4,[.tmp 2],(.seq (.reg [(oQ 1 (.box 0 (.t 0))),(oQ 2 (.mv (.c (.p (.sl 0 [] true)))))])
 (.seq (.reg [(fQ 4 0 1),(lQ 5 4),(kQ 6 1 82 [(.t 5)]),(mQ 3 6)])
 (.seq (.reg [(mQ 7 3),(kQ 8 2 201 [(.t 7)])])
 (.seq (.reg [(mQ 9 3),(fQ 10 0 1),(lQ 11 10),(oQ 12 (.sl 1 (.t 11) (some (iQ 1)) none)),(oQ 13 (.app 3 1 8 (.t 9) (.t 12))),(mQ 2 13)])
 .ret))))⟩
def A_Zw:Nat→Ty := tyAt [.un,.un,.un,tQ]
abbrev P_Zw:List PSh := [.agg (.sl tQ)]
abbrev E_Zw:Ty := tQ
theorem e_Zw:cFn Tryz.prog 159 = some F_Zw.erase := by kernel_rfl
theorem k_Zw:callable Tryz.prog 159 = true := by kernel_rfl
def F_Z1y:TFn := ⟨57,11,[.tmp 2,.tmp 3],(.seq (.reg [(oQ 2 (.mv (iQ 0))),(oQ 3 (.mv (iQ 0)))])
 (.seq (.seq (.reg [(mQ 8 0),(hQ 9 8),(cQ 10 .geq 9 2),(kQ 11 0 84 [(.t 10),(iQ 10)]),(mQ 12 0),(hQ 13 12),(cQ 14 .leq 13 10),(kQ 15 1 84 [(.t 14),(iQ 8)]),(oQ 16 (.bsl false 2 1 2 [zQ,zQ] [(0,1,(.t 11)),(1,1,(.t 15))])),(kQ 17 3 83 [(.t 16)]),(mQ 4 17)])
 (.seq (.reg [(mQ 18 4),(cQ 19 .neq 18 0)])
 (.cond (.t 19) (.seq (.reg [(mQ 20 4),(oQ 2 (.mv (iQ 0))),(mQ 3 20)])
 .ret) .skip)))
 (.seq (.seq (.reg [(mQ 21 0),(hQ 22 21),(oQ 23 (.mv (iQ 0)))])
 (.block 0 (.loop [.v 23 tQ] [4] [4] (.seq (.reg [(bQ 24 .lss 23 22)])
 (.seq (.cond (.t 24) .skip (.exit 0))
 (.seq (.block 1 (.seq (.reg [(mQ 25 23),(jQ 26 3 21 23),(nQ 27 3 26),(oQ 6 (.newz 4 [zQ,zQ,zQ])),(mQ 5 25),(sQ 3 6 27)])
 (.seq (.regd [(fQ 28 0 6),(lQ 29 28),(kQ 30 5 88 [(.t 29),(iQ 0),(iQ 1000000)]),(kQ 31 6 84 [(.t 30),(iQ 2)]),(fQ 32 1 6),(nQ 33 2 32),(kQ 34 7 143 [(.t 33),(iQ 1000000)]),(mQ 35 5),(cQ 36 .eql 35 0),(mQ 37 36),(gQ 38 37 false (.fa 0 (.t 6))),(gQ 39 37 false (.ld1 (.t 38))),(vQ 40 37 false 0),(vQ 41 37 false 5),(gQ 42 37 false (.bin .sub (.t 41) (iQ 1))),(gQ 43 37 false (.mm true (iQ 0) (.t 42))),(gQ 44 37 false (.ia 3 (.t 40) (.t 43))),(gQ 45 37 false (.fa 0 (.t 44))),(gQ 46 37 false (.ld1 (.t 45))),(gQ 47 37 false (.bin .gtr (.t 39) (.t 46))),(oQ 48 (.pick (.t 37) cT (.t 47))),(kQ 49 8 84 [(.t 48),(iQ 9)]),(oQ 50 (.bsl false 9 1 3 [zQ,zQ,zQ] [(0,1,(.t 31)),(1,1,(.t 34)),(2,1,(.t 49))])),(kQ 51 10 83 [(.t 50)]),(mQ 7 51)] [(1,5),(2,5),(3,5),(11,18)] [])
 (.seq (.reg [(mQ 52 7),(cQ 53 .neq 52 0)])
 (.cond (.t 53) (.seq (.reg [(mQ 54 5),(mQ 55 7),(mQ 2 54),(mQ 3 55)])
 .ret) .skip)))))
 (.reg [(cQ 56 .add 23 1),(mQ 23 56)])))))))
 (.seq (.reg [(oQ 2 (.mv (iQ 0))),(oQ 3 (.mv (iQ 0)))])
 .ret))))⟩
theorem e_Z1y:cFn Tryz.prog 162 = some F_Z1y.erase := by kernel_rfl
def F_Z1z:TFn := ⟨82,8,[.celln 2 4],(.seq (.reg [(oQ 2 (.newz 0 [zQ,zQ,zQ,zQ]))])
 (.seq (.reg [(oQ 3 (.newz 1 [zQ,zQ,zQ,zQ]))])
 (.seq (.seq (.reg [(mQ 12 0),(hQ 13 12),(oQ 14 (.mv (iQ 0)))])
 (.block 0 (.loop [.v 14 tQ,.c 1 (.pr tQ (.pr tQ pQ))] [1,2,3,4,5] [2,3,4,5] (.seq (.reg [(bQ 15 .lss 14 13)])
 (.seq (.cond (.t 15) .skip (.exit 0))
 (.seq (.block 1 (.seq (.reg [(mQ 16 14),(jQ 17 3 12 14),(nQ 18 3 17),(oQ 5 (.newz 2 [zQ,zQ,zQ])),(mQ 4 16),(sQ 3 5 18)])
 (.seq (.reg [(mQ 19 0),(mQ 20 4),(oQ 21 (.sl 3 (.t 19) none (some (.t 20)))),(hQ 22 21),(oQ 23 (.mv (iQ 0)))])
 (.block 2 (.loop [.v 23 tQ,.c 1 (.pr tQ (.pr tQ pQ))] [1,3,4,5] [3,4,5] (.seq (.reg [(bQ 24 .lss 23 22)])
 (.seq (.cond (.t 24) .skip (.exit 2))
 (.seq (.block 3 (.seq (.reg [(mQ 25 23),(jQ 26 3 21 23),(nQ 27 3 26),(oQ 7 (.newz 3 [zQ,zQ,zQ])),(mQ 6 25),(sQ 3 7 27)])
 (.seq (.reg [(fQ 28 0 5),(lQ 29 28),(fQ 30 0 7),(lQ 31 30),(bQ 32 .sub 29 31),(mQ 8 32)])
 (.seq (.reg [(fQ 33 1 5),(fQ 34 0 33),(lQ 35 34),(fQ 36 1 7),(fQ 37 1 36),(lQ 38 37),(bQ 39 .sub 35 38),(mQ 40 8),(oQ 41 (.build [zQ,zQ] [(0,1,(.t 39)),(1,1,(.t 40))])),(oQ 9 (.newz 4 [zQ,zQ])),(sQ 2 9 41)])
 (.seq (.reg [(fQ 42 1 5),(fQ 43 1 42),(lQ 44 43),(fQ 45 1 7),(fQ 46 0 45),(lQ 47 46),(bQ 48 .sub 44 47),(mQ 49 8),(oQ 50 (.build [zQ,zQ] [(0,1,(.t 48)),(1,1,(.t 49))])),(oQ 10 (.newz 5 [zQ,zQ])),(sQ 2 10 50)])
 (.seq (.reg [(mQ 51 4),(cQ 52 .gtr 51 1),(mQ 53 52),(vQ 54 53 false 6),(gQ 55 53 false (.bin .gtr (.t 54) (iQ 0))),(oQ 56 (.pick (.t 53) cT (.t 55))),(mQ 11 56)])
 (.seq (.seq (.reg [(mQ 57 11),(oQ 58 (.unot (.t 57))),(mQ 59 58),(gQ 60 59 false (.ldn 2 (.t 9))),(gQ 61 59 false (.fa 0 (.t 3))),(gQ 62 59 false (.ldn 2 (.t 61))),⟨some 63,some (some 59,false),(.call 6 164 [(.t 60),(.t 62)])⟩,(gQ 64 59 false (.bin .gtr (.t 63) (iQ 0))),(oQ 65 (.pick (.t 59) cT (.t 64)))])
 (.cond (.t 65) (.reg [(nQ 66 2 9),(fQ 67 0 3),(sQ 2 67 66)]) .skip))
 (.seq (.reg [(mQ 68 11),(oQ 69 (.unot (.t 68))),(mQ 70 69),(gQ 71 70 false (.ldn 2 (.t 10))),(gQ 72 70 false (.fa 2 (.t 3))),(gQ 73 70 false (.ldn 2 (.t 72))),⟨some 74,some (some 70,false),(.call 7 164 [(.t 71),(.t 73)])⟩,(gQ 75 70 false (.bin .lss (.t 74) (iQ 0))),(oQ 76 (.pick (.t 70) cT (.t 75)))])
 (.cond (.t 76) (.reg [(nQ 77 2 10),(fQ 78 2 3),(sQ 2 78 77)]) .skip)))))))))
 (.reg [(cQ 79 .add 23 1),(mQ 23 79)])))))))))
 (.reg [(cQ 80 .add 14 1),(mQ 14 80)])))))))
 (.seq (.reg [(nQ 81 4 3),(sQ 4 2 81)])
 .ret))))⟩
theorem e_Z1z:cFn Tryz.prog 163 = some F_Z1z.erase := by kernel_rfl
def F_Z20:TFn := ⟨16,3,[.tmp 4],(.seq (.reg [(oQ 2 (.box 0 (.t 0))),(oQ 3 (.box 1 (.t 1))),(oQ 4 (.mv (iQ 0)))])
 (.seq (.reg [(fQ 5 0 2),(lQ 6 5),(fQ 7 1 3),(lQ 8 7),(bQ 9 .mul 6 8),(fQ 10 0 3),(lQ 11 10),(fQ 12 1 2),(lQ 13 12),(bQ 14 .mul 11 13),(kQ 15 2 202 [(.t 9),(.t 14)]),(mQ 4 15)])
 .ret))⟩
theorem e_Z20:cFn Tryz.prog 164 = some F_Z20.erase := by kernel_rfl
def F_Z21:TFn := ⟨37,9,[.celln 4 4,.tmp 5],(.seq (.reg [(oQ 2 (.box 0 (.t 0))),(oQ 3 (.box 1 (.t 1))),(oQ 4 (.newz 2 [zQ,zQ,zQ,zQ])),(oQ 5 (.mv (iQ 0)))])
 (.seq (.reg [(fQ 11 0 2),(lQ 12 11),(fQ 13 1 2),(lQ 14 13),(kQ 15 3 166 [(.t 12),(.t 14)]),(mQ 10 15),(oQ 16 (.ext 0 (.t 10))),(oQ 17 (.ext 1 (.t 10))),(oQ 6 (.newz 4 [zQ,zQ])),(sQ 2 6 16),(mQ 7 17)])
 (.seq (.reg [(fQ 19 0 3),(lQ 20 19),(fQ 21 1 3),(lQ 22 21),(kQ 23 5 166 [(.t 20),(.t 22)]),(mQ 18 23),(oQ 24 (.ext 0 (.t 18))),(oQ 25 (.ext 1 (.t 18))),(oQ 8 (.newz 6 [zQ,zQ])),(sQ 2 8 24),(mQ 9 25)])
 (.seq (.seq (.reg [(mQ 26 7),(mQ 27 9),(oQ 28 (.bsl false 7 1 2 [zQ,zQ] [(0,1,(.t 26)),(1,1,(.t 27))])),(kQ 29 8 83 [(.t 28)]),(mQ 7 29)])
 (.seq (.reg [(mQ 30 7),(cQ 31 .neq 30 0)])
 (.cond (.t 31) (.seq (.reg [(oQ 32 (.build [zQ,zQ,zQ,zQ] [])),(mQ 33 7),(sQ 4 4 32),(mQ 5 33)])
 .ret) .skip)))
 (.seq (.reg [(nQ 34 2 6),(nQ 35 2 8),(oQ 36 (.build [zQ,zQ,zQ,zQ] [(0,2,(.t 34)),(2,2,(.t 35))])),(sQ 4 4 36),(oQ 5 (.mv (iQ 0)))])
 .ret)))))⟩
theorem e_Z21:cFn Tryz.prog 165 = some F_Z21.erase := by kernel_rfl
def F_Zq:TFn := ⟨10,1,[.tmp 4],(.seq (.reg [(oQ 4 (.mv cF))])
 (.seq (.reg [(mQ 5 0),(mQ 6 1),(oQ 7 (.uneg (.t 6))),(mQ 8 1),(kQ 9 0 88 [(.t 5),(.t 7),(.t 8)]),(mQ 4 9)])
 .ret))⟩
def A_Zq:Nat→Ty := tyAt [.un]
abbrev P_Zq:List PSh := [.one tQ,.one tQ]
abbrev R_Zq:List PSh := [.one .bool]
theorem e_Zq:cFn Tryz.prog 87 = some F_Zq.erase := by kernel_rfl
theorem k_Zq:callable Tryz.prog 87 = true := by kernel_rfl
def F_Z22:TFn := ⟨29,4,[.celln 4 2,.tmp 5],(.seq (.reg [(oQ 4 (.newz 0 [zQ,zQ])),(oQ 5 (.mv (iQ 0)))])
 (.seq (.reg [(mQ 8 0),(mQ 9 1),(kQ 10 1 203 [(.t 8),(.t 9)]),(mQ 6 10)])
 (.seq (.regd [(mQ 11 0),(mQ 12 6),(bQ 13 .quo 11 12),(mQ 14 1),(mQ 15 6),(bQ 16 .quo 14 15),(oQ 17 (.build [zQ,zQ] [(0,1,(.t 13)),(1,1,(.t 16))])),(oQ 7 (.newz 2 [zQ,zQ])),(sQ 2 7 17)] [] [])
 (.seq (.seq (.reg [(fQ 18 0 7),(lQ 19 18),(kQ 20 3 87 [(.t 19),(iQ 1000000000)]),(oQ 21 (.unot (.t 20))),(mQ 22 21),(gQ 23 22 false (.fa 1 (.t 7))),(gQ 24 22 false (.ld1 (.t 23))),(gQ 25 22 false (.bin .gtr (.t 24) (iQ 1000000000))),(oQ 26 (.pick (.t 22) cT (.t 25)))])
 (.cond (.t 26) (.seq (.reg [(oQ 27 (.build [zQ,zQ] [])),(sQ 2 4 27),(oQ 5 (.mv (iQ 8)))])
 .ret) .skip))
 (.seq (.reg [(nQ 28 2 7),(sQ 2 4 28),(oQ 5 (.mv (iQ 0)))])
 .ret)))))⟩
theorem e_Z22:cFn Tryz.prog 166 = some F_Z22.erase := by kernel_rfl
def F_Zr:TFn := ⟨9,1,[.tmp 4],(.seq (.reg [(oQ 4 (.mv cF))])
 (.seq (.reg [(mQ 5 0),(mQ 6 1),(kQ 7 0 85 [(.t 5),(.t 6)]),(cQ 8 .geq 7 0),(mQ 4 8)])
 .ret))⟩
def A_Zr:Nat→Ty := tyAt [.un]
abbrev P_Zr:List PSh := [.one (.sl tQ),.fn 167 []]
abbrev R_Zr:List PSh := [.one .bool]
theorem e_Zr:cFn Tryz.prog 160 = some F_Zr.erase := by kernel_rfl
theorem k_Zr:callable Tryz.prog 160 = true := by kernel_rfl
def F_Zl:TFn := ⟨18,2,[.tmp 2],(.seq (.reg [(oQ 1 (.box 0 (.t 0))),(oQ 2 (.mv (iQ 0)))])
 (.seq (.reg [(oQ 3 (.mv (iQ 0)))])
 (.seq (.seq (.reg [(nQ 6 1 1),(kQ 7 1 159 [(.t 6)]),(hQ 8 7),(oQ 9 (.mv (iQ 0)))])
 (.block 0 (.loop [.v 9 tQ,.v 3 tQ] [] [] (.seq (.reg [(bQ 10 .lss 9 8)])
 (.seq (.cond (.t 10) .skip (.exit 0))
 (.seq (.block 1 (.seq (.reg [(jQ 11 1 7 9),(lQ 12 11),(mQ 5 12)])
 (.reg [(mQ 13 3),(mQ 14 5),(bQ 15 .add 13 14),(mQ 3 15)])))
 (.reg [(cQ 16 .add 9 1),(mQ 9 16)])))))))
 (.seq (.reg [(mQ 17 3),(mQ 2 17)])
 .ret))))⟩
def A_Zl:Nat→Ty := tyAt [.un,.un]
abbrev P_Zl:List PSh := [.agg (.sl tQ)]
abbrev R_Zl:List PSh := [.one tQ]
theorem e_Zl:cFn Tryz.prog 168 = some F_Zl.erase := by kernel_rfl
theorem k_Zl:callable Tryz.prog 168 = true := by kernel_rfl
def F_Zm:TFn := ⟨35,4,[.tmp 4],(.seq (.reg [(oQ 2 (.box 0 (.t 0))),(oQ 4 (.mv (iQ 0)))])
 (.seq (.reg [(oQ 5 (.mv (iQ 0)))])
 (.seq (.seq (.reg [(fQ 8 0 2),(lQ 9 8),(hQ 10 9),(oQ 11 (.uneg (.t 10))),(cQ 12 .add 11 1),(mQ 6 12)])
 (.block 0 (.loop [.v 6 tQ,.v 5 tQ] [] [] (.seq (.seq (.reg [(mQ 13 6),(fQ 14 0 2),(lQ 15 14),(hQ 16 15),(bQ 17 .lss 13 16)])
 (.cond (.t 17) .skip (.exit 0)))
 (.seq (.block 1 (.seq (.reg [(oQ 20 (.bsl false 1 1 4 [zQ,zQ,zQ,zQ] [(0,1,(iQ 1)),(1,1,(iQ 0)),(2,1,(iQ (-1))),(3,1,(iQ 0))])),(mQ 21 6),(mQ 22 1),(bQ 23 .mul 21 22),(kQ 24 2 18 [(.t 23),(iQ 4)]),(jQ 25 1 20 24),(lQ 26 25),(mQ 7 26)])
 (.reg [(mQ 27 5),(mQ 28 7),(nQ 29 1 2),(mQ 30 6),(kQ 31 3 204 [(.t 29),(.t 30)]),(bQ 32 .mul 28 31),(bQ 33 .add 27 32),(mQ 5 33)])))
 (.reg [(mQ 18 6),(cQ 19 .add 18 1),(mQ 6 19)]))))))
 (.seq (.reg [(mQ 34 5),(mQ 4 34)])
 .ret))))⟩
def A_Zm:Nat→Ty := tyAt [.un,tQ,.un,.un]
abbrev P_Zm:List PSh := [.agg (.sl tQ),.one tQ]
abbrev R_Zm:List PSh := [.one tQ]
theorem e_Zm:cFn Tryz.prog 169 = some F_Zm.erase := by kernel_rfl
theorem k_Zm:callable Tryz.prog 169 = true := by kernel_rfl
def F_Zy:TFn := ⟨26,3,[.tmp 4],(.seq (.reg [(oQ 2 (.box 0 (.t 0))),(oQ 4 (.mv (iQ 0)))])
 (.seq (.seq (.reg [(fQ 5 0 2),(lQ 6 5),(mQ 7 1),(oQ 8 (.uneg (.t 7))),(mQ 9 1),(kQ 10 1 8 [(.t 6),(.t 8),(.t 9)]),(oQ 11 (.unot (.t 10))),(mQ 12 11),(gQ 13 12 false (.fa 1 (.t 2))),(gQ 14 12 false (.ld1 (.t 13))),(vQ 15 12 false 1),(gQ 16 12 false (.uneg (.t 15))),(vQ 17 12 false 1),⟨some 18,some (some 12,false),(.call 2 8 [(.t 14),(.t 16),(.t 17)])⟩,(gQ 19 12 false (.unot (.t 18))),(oQ 20 (.pick (.t 12) cT (.t 19)))])
 (.cond (.t 20) (.seq (.reg [(oQ 4 (.mv (iQ 2)))])
 .ret) .skip))
 (.seq (.seq (.reg [(fQ 21 0 2),(lQ 22 21),(fQ 23 1 2),(lQ 24 23),(bQ 25 .gtr 22 24)])
 (.cond (.t 25) (.seq (.reg [(oQ 4 (.mv (iQ 9)))])
 .ret) .skip))
 (.seq (.reg [(oQ 4 (.mv (iQ 0)))])
 .ret))))⟩
def A_Zy:Nat→Ty := tyAt [.un,.un,.un]
abbrev P_Zy:List PSh := [.agg pQ,.one tQ]
abbrev R_Zy:List PSh := [.one tQ]
theorem e_Zy:cFn Tryz.prog 170 = some F_Zy.erase := by kernel_rfl
theorem k_Zy:callable Tryz.prog 170 = true := by kernel_rfl
def F_Z23:TFn := ⟨9,1,[.tmp 4],(.seq (.reg [(oQ 4 (.mv cF))])
 (.seq (.reg [(mQ 5 0),(mQ 6 1),(kQ 7 0 85 [(.t 5),(.t 6)]),(cQ 8 .geq 7 0),(mQ 4 8)])
 .ret))⟩
theorem e_Z23:cFn Tryz.prog 160 = some F_Z23.erase := by kernel_rfl
def F_Z24:TFn := ⟨24,2,[.tmp 2,.tmp 3],(.seq (.reg [(oQ 2 (.mv (iQ 0))),(oQ 3 (.mv (iQ 0)))])
 (.seq (.seq (.reg [(mQ 7 0),(hQ 8 7),(cQ 9 .gtr 8 64)])
 (.cond (.t 9) (.seq (.reg [(oQ 2 (.mv (iQ 0))),(oQ 3 (.mv (iQ 8)))])
 .ret) .skip))
 (.seq (.seq (.reg [(mQ 10 0),(hQ 11 10),(oQ 12 (.mv (iQ 0)))])
 (.block 0 (.loop [.v 12 tQ] [0] [0] (.seq (.reg [(bQ 13 .lss 12 11)])
 (.seq (.cond (.t 13) .skip (.exit 0))
 (.seq (.block 1 (.seq (.reg [(mQ 14 12),(jQ 15 2 10 12),(nQ 16 2 15),(oQ 5 (.newz 0 [zQ,zQ])),(mQ 4 14),(sQ 2 5 16)])
 (.seq (.reg [(nQ 17 2 5),(kQ 18 1 143 [(.t 17),(iQ 1000000)]),(mQ 6 18)])
 (.seq (.reg [(mQ 19 6),(cQ 20 .neq 19 0)])
 (.cond (.t 20) (.seq (.reg [(mQ 21 4),(mQ 22 6),(mQ 2 21),(mQ 3 22)])
 .ret) .skip)))))
 (.reg [(cQ 23 .add 12 1),(mQ 12 23)])))))))
 (.seq (.reg [(oQ 2 (.mv (iQ 0))),(oQ 3 (.mv (iQ 0)))])
 .ret))))⟩
theorem e_Z24:cFn Tryz.prog 182 = some F_Z24.erase := by kernel_rfl
def F_Z25:TFn := ⟨4,1,[.tmp 2],(.seq (.reg [(oQ 1 (.box 0 (.t 0))),(oQ 2 (.mv (.c .und)))])
 (.seq (.reg [(oQ 3 (.clo 225 [(.t 1)])),(mQ 2 3)])
 .ret))⟩
theorem e_Z25:cFn Tryz.prog 192 = some F_Z25.erase := by kernel_rfl
def F_Z2d:TFn := ⟨37,3,[],(.seq (.reg [(lQ 5 1),(hQ 6 5),(oQ 7 (.mv (iQ 0)))])
 (.block 0 (.loop [] [] [] (.seq (.reg [(bQ 8 .lss 7 6)])
 (.seq (.cond (.t 8) .skip (.exit 0))
 (.seq (.block 1 (.seq (.reg [(jQ 9 4 5 7),(nQ 10 4 9),(oQ 4 (.newz 0 [zQ,zQ,zQ,zQ])),(sQ 4 4 10)])
 (.seq (.reg [(mQ 11 0),(fQ 12 1 4),(lQ 13 12),(fQ 14 0 4),(lQ 15 14),(fQ 16 2 4),(fQ 17 1 16),(lQ 18 17),(oQ 19 (.build [zQ,zQ,zQ] [(0,1,(.t 13)),(1,1,(.t 15)),(2,1,(.t 18))])),⟨some 20,none,(.callv 1 (.t 11) [(.t 19)])⟩,(oQ 21 (.unot (.t 20))),(mQ 22 21),(vQ 23 22 false 0),(gQ 24 22 false (.fa 0 (.t 4))),(gQ 25 22 false (.ld1 (.t 24))),(gQ 26 22 false (.fa 1 (.t 4))),(gQ 27 22 false (.ld1 (.t 26))),(gQ 28 22 false (.fa 2 (.t 4))),(gQ 29 22 false (.fa 0 (.t 28))),(gQ 30 22 false (.ld1 (.t 29))),(gQ 31 22 false (.uneg (.t 30))),(gQ 32 22 false (.build [zQ,zQ,zQ] [(0,1,(.t 25)),(1,1,(.t 27)),(2,1,(.t 31))])),⟨some 33,some (some 22,false),(.callv 2 (.t 23) [(.t 32)])⟩,(gQ 34 22 false (.unot (.t 33))),(oQ 35 (.pick (.t 22) cT (.t 34)))])
 (.cond (.t 35) .ret .skip))))
 (.reg [(cQ 36 .add 7 1),(mQ 7 36)])))))))⟩
theorem e_Z2d:cFn Tryz.prog 225 = some F_Z2d.erase := by kernel_rfl
def F_Zc:TFn := ⟨28,0,[],(.seq (.reg [(mQ 4 0),(hQ 5 4),(cQ 6 .sub 5 1),(oQ 2 (.mv (iQ 0))),(mQ 3 6)])
 (.block 0 (.loop [.v 3 tQ,.v 2 tQ,.d 0 tQ] [0] [] (.seq (.seq (.reg [(mQ 7 2),(mQ 8 3),(bQ 9 .lss 7 8)])
 (.cond (.t 9) .skip (.exit 0)))
 (.seq (.block 1 (.regd [(mQ 14 0),(mQ 15 2),(mQ 16 0),(mQ 17 3),(mQ 18 0),(mQ 19 3),(jQ 20 1 18 19),(lQ 21 20),(mQ 22 0),(mQ 23 2),(jQ 24 1 22 23),(lQ 25 24),(jQ 26 1 14 15),(sQ 1 26 21),(jQ 27 1 16 17),(sQ 1 27 25)] [(7,11)] []))
 (.reg [(mQ 10 2),(cQ 11 .add 10 1),(mQ 12 3),(cQ 13 .sub 12 1),(mQ 2 11),(mQ 3 13)]))))))⟩
def A_Zc:Nat→Ty := tyAt [.un]
abbrev P_Zc:List PSh := [.one (.sl tQ)]
abbrev R_Zc:List PSh := [.one (.sl tQ)]
theorem e_Zc:cFnN Tryz.prog 1 201 = some F_Zc.erase := by kernel_rfl
theorem k_Zc:callable Tryz.prog 201 = true := by kernel_rfl
def F_Z26:TFn := ⟨20,2,[.tmp 4],(.seq (.reg [(oQ 4 (.mv (iQ 0)))])
 (.seq (.reg [(mQ 7 0),(kQ 8 0 232 [(.t 7)]),(mQ 5 8)])
 (.seq (.reg [(mQ 9 1),(kQ 10 1 232 [(.t 9)]),(mQ 6 10)])
 (.seq (.seq (.reg [(mQ 11 5)])
 (.cond (.t 11) (.seq (.seq (.reg [(mQ 12 6)])
 (.cond (.t 12) (.seq (.reg [(oQ 4 (.mv (iQ 0)))])
 .ret) .skip))
 (.seq (.reg [(oQ 4 (.mv (iQ (-1))))])
 .ret)) .skip))
 (.seq (.seq (.reg [(mQ 13 6)])
 (.cond (.t 13) (.seq (.reg [(oQ 4 (.mv (iQ 1)))])
 .ret) .skip))
 (.seq (.seq (.reg [(mQ 14 0),(mQ 15 1),(bQ 16 .lss 14 15)])
 (.cond (.t 16) (.seq (.reg [(oQ 4 (.mv (iQ (-1))))])
 .ret) .skip))
 (.seq (.seq (.reg [(mQ 17 0),(mQ 18 1),(bQ 19 .gtr 17 18)])
 (.cond (.t 19) (.seq (.reg [(oQ 4 (.mv (iQ 1)))])
 .ret) .skip))
 (.seq (.reg [(oQ 4 (.mv (iQ 0)))])
 .ret))))))))⟩
theorem e_Z26:cFn Tryz.prog 202 = some F_Z26.erase := by kernel_rfl
def F_Z27:TFn := ⟨15,0,[.tmp 4],(.seq (.reg [(oQ 4 (.mv (iQ 0)))])
 (.seq (.block 0 (.loop [.v 1 tQ,.v 0 tQ] [] [] (.seq (.seq (.reg [(mQ 5 1),(cQ 6 .neq 5 0)])
 (.cond (.t 6) .skip (.exit 0)))
 (.block 1 (.regd [(mQ 7 1),(mQ 8 0),(mQ 9 1),(bQ 10 .rem 8 9),(mQ 0 7),(mQ 1 10)] [] [])))))
 (.seq (.reg [(mQ 11 0),(mQ 12 0),(oQ 13 (.uneg (.t 12))),(oQ 14 (.mm true (.t 11) (.t 13))),(mQ 4 14)])
 .ret)))⟩
theorem e_Z27:cFn Tryz.prog 203 = some F_Z27.erase := by kernel_rfl
def F_Zj:TFn := ⟨19,1,[.tmp 4],(.seq (.reg [(oQ 4 (.mv (iQ 0)))])
 (.seq (.seq (.reg [(mQ 6 0),(hQ 7 6),(oQ 8 (.mv (iQ 0)))])
 (.block 0 (.loop [.v 8 tQ] [] [] (.seq (.reg [(bQ 9 .lss 8 7)])
 (.seq (.cond (.t 9) .skip (.exit 0))
 (.seq (.block 1 (.seq (.reg [(mQ 10 8),(mQ 5 10)])
 (.seq (.reg [(mQ 11 1),(mQ 12 0),(mQ 13 5),(jQ 14 1 12 13),(lQ 15 14),⟨some 16,none,(.callv 0 (.t 11) [(.t 15)])⟩])
 (.cond (.t 16) (.seq (.reg [(mQ 17 5),(mQ 4 17)])
 .ret) .skip))))
 (.reg [(cQ 18 .add 8 1),(mQ 8 18)])))))))
 (.seq (.reg [(oQ 4 (.mv (iQ (-1))))])
 .ret)))⟩
def A_Zj:Nat→Ty := tyAt [.un]
abbrev P_Zj:List PSh := [.one (.sl tQ),.fn 167 []]
abbrev R_Zj:List PSh := [.one tQ]
theorem e_Zj:cFn Tryz.prog 85 = some F_Zj.erase := by kernel_rfl
theorem k_Zj:callable Tryz.prog 85 = true := by kernel_rfl
def F_Zx:TFn := ⟨17,2,[.tmp 4],(.seq (.reg [(oQ 2 (.box 0 (.t 0))),(oQ 4 (.mv (iQ 0)))])
 (.seq (.seq (.reg [(mQ 5 1),(kQ 6 1 135 [(.t 5)]),(mQ 1 6)])
 (.seq (.reg [(mQ 7 1),(fQ 8 0 2),(lQ 9 8),(hQ 10 9),(bQ 11 .lss 7 10)])
 (.cond (.t 11) (.seq (.reg [(fQ 12 0 2),(lQ 13 12),(mQ 14 1),(jQ 15 1 13 14),(lQ 16 15),(mQ 4 16)])
 .ret) .skip)))
 (.seq (.reg [(oQ 4 (.mv (iQ 0)))])
 .ret)))⟩
def A_Zx:Nat→Ty := tyAt [.un,.un]
abbrev P_Zx:List PSh := [.agg (.sl tQ),.one tQ]
abbrev R_Zx:List PSh := [.one tQ]
theorem e_Zx:cFn Tryz.prog 204 = some F_Zx.erase := by kernel_rfl
theorem k_Zx:callable Tryz.prog 204 = true := by kernel_rfl
def F_Z28:TFn := ⟨19,1,[.tmp 4],(.seq (.reg [(oQ 4 (.mv (iQ 0)))])
 (.seq (.seq (.reg [(mQ 6 0),(hQ 7 6),(oQ 8 (.mv (iQ 0)))])
 (.block 0 (.loop [.v 8 tQ] [] [] (.seq (.reg [(bQ 9 .lss 8 7)])
 (.seq (.cond (.t 9) .skip (.exit 0))
 (.seq (.block 1 (.seq (.reg [(mQ 10 8),(mQ 5 10)])
 (.seq (.reg [(mQ 11 1),(mQ 12 0),(mQ 13 5),(jQ 14 1 12 13),(lQ 15 14),⟨some 16,none,(.callv 0 (.t 11) [(.t 15)])⟩])
 (.cond (.t 16) (.seq (.reg [(mQ 17 5),(mQ 4 17)])
 .ret) .skip))))
 (.reg [(cQ 18 .add 8 1),(mQ 8 18)])))))))
 (.seq (.reg [(oQ 4 (.mv (iQ (-1))))])
 .ret)))⟩
theorem e_Z28:cFn Tryz.prog 85 = some F_Z28.erase := by kernel_rfl
def F_Z29:TFn := ⟨6,1,[.tmp 2],(.seq (.reg [(oQ 2 (.mv cF))])
 (.seq (.reg [(mQ 3 0),(kQ 4 0 87 [(.t 3),(iQ 100000)]),(oQ 5 (.unot (.t 4))),(mQ 2 5)])
 .ret))⟩
theorem e_Z29:cFn Tryz.prog 161 = some F_Z29.erase := by kernel_rfl
def F_Z2a:TFn := ⟨6,0,[.tmp 2],(.seq (.reg [(oQ 2 (.mv cF))])
 (.seq (.reg [(mQ 3 0),(mQ 4 0),(bQ 5 .neq 3 4),(mQ 2 5)])
 .ret))⟩
theorem e_Z2a:cFn Tryz.prog 232 = some F_Z2a.erase := by kernel_rfl
def F_Zu:TFn := ⟨6,1,[.tmp 2],(.seq (.reg [(oQ 2 (.mv cF))])
 (.seq (.reg [(mQ 3 0),(kQ 4 0 87 [(.t 3),(iQ 100000)]),(oQ 5 (.unot (.t 4))),(mQ 2 5)])
 .ret))⟩
def A_Zu:Nat→Ty := tyAt [.un]
abbrev P_Zu:List PSh := [.one tQ]
abbrev R_Zu:List PSh := [.one .bool]
theorem e_Zu:cFn Tryz.prog 167 = some F_Zu.erase := by kernel_rfl
theorem k_Zu:callable Tryz.prog 167 = true := by kernel_rfl
def F_Z2b:TFn := ⟨6,1,[.tmp 2],(.seq (.reg [(oQ 2 (.mv cF))])
 (.seq (.reg [(mQ 3 0),(kQ 4 0 87 [(.t 3),(iQ 1000000)]),(oQ 5 (.unot (.t 4))),(mQ 2 5)])
 .ret))⟩
theorem e_Z2b:cFn Tryz.prog 181 = some F_Z2b.erase := by kernel_rfl
end Go.Proofs.YtepdfhjmngbhhaaGreatDoor
