/- The code of the functions that GroundStrings reaches, as it is walked: each equals what the given program's text gives. -/
import Derived.Test.YtepdfhjmngbhhaaGreatDoorGsAGroundStrings
import Derived.Test.YtepdfhjmngbhhaaGreatDoorProg
import Derived.KernelRfl
namespace Go.Proofs.YtepdfhjmngbhhaaGreatDoor
open Go Go.Mx
set_option maxRecDepth 100000
abbrev mQ (d x:Nat):AIns := ⟨some d,none,.op (.mv (.t x))⟩
abbrev fQ (d f x:Nat):AIns := ⟨some d,none,.op (.fa f (.t x))⟩
abbrev lQ (d x:Nat):AIns := ⟨some d,none,.op (.ld1 (.t x))⟩
abbrev nQ (d n x:Nat):AIns := ⟨some d,none,.op (.ldn n (.t x))⟩
abbrev hQ (d x:Nat):AIns := ⟨some d,none,.op (.len false (.t x))⟩
abbrev sQ (n x v:Nat):AIns := ⟨none,none,.op (.st n (.t x) (.t v))⟩
abbrev jQ (d k x i:Nat):AIns := ⟨some d,none,.op (.ia k (.t x) (.t i))⟩
abbrev bQ (d:Nat) (b:BinOp) (x y:Nat):AIns := ⟨some d,none,.op (.bin b (.t x) (.t y))⟩
abbrev cQ (d:Nat) (b:BinOp) (x:Nat) (n:Int):AIns := ⟨some d,none,.op (.bin b (.t x) (.c (.p (.int .i64 n))))⟩
abbrev vQ (d g:Nat) (b:Bool) (x:Nat):AIns := ⟨some d,some (some g,b),.op (.mv (.t x))⟩
abbrev cF:Opd := .c (.p (.bool false))
abbrev cT:Opd := .c (.p (.bool true))
abbrev oQ (d:Nat) (o:AOp):AIns := ⟨some d,none,.op o⟩
abbrev uQ (o:AOp):AIns := ⟨none,none,.op o⟩
abbrev gQ (d g:Nat) (b:Bool) (o:AOp):AIns := ⟨some d,some (some g,b),.op o⟩
abbrev kQ (d s f:Nat) (a:List Opd):AIns := ⟨some d,none,.call s f a⟩
abbrev iQ (n:Int):Opd := .c (.p (.int .i64 n))
abbrev zQ:V := .p (.int .i64 0)
abbrev tQ:Ty := .int .i64
abbrev pQ:Ty := .pr tQ tQ
def F_Z3:TFn := ⟨125,25,[.tmp 6],(.seq (.reg [(oQ 3 (.box 0 (.t 0))),(oQ 6 (.mv cF))])
 (.seq (.seq (.reg [(kQ 21 1 21 []),(oQ 22 (.unot (.t 21)))])
 (.cond (.t 22) (.seq (.reg [(oQ 6 (.mv cF))])
 .ret) .skip))
 (.seq (.seq (.reg [(nQ 23 1 3),(kQ 24 2 22 [(.t 23)]),(oQ 25 (.unot (.t 24))),(mQ 26 25),(vQ 27 26 false 1),⟨some 28,some (some 26,false),(.call 3 23 [(.t 27)])⟩,(gQ 29 26 false (.unot (.t 28))),(oQ 30 (.pick (.t 26) cT (.t 29))),(mQ 31 30),(vQ 32 31 false 2),(gQ 33 31 false (.len true (.t 32))),(gQ 34 31 false (.bin .gtr (.t 33) (iQ 100))),(oQ 35 (.pick (.t 31) cT (.t 34)))])
 (.cond (.t 35) (.seq (.reg [(oQ 6 (.mv cT))])
 .ret) .skip))
 (.seq (.reg [(nQ 36 1 3),(kQ 37 4 25 [(.t 36)]),(kQ 38 5 24 [(.t 37)]),(mQ 39 1),(kQ 40 6 27 [(.t 39)]),(kQ 41 7 26 [(.t 40)]),(mQ 7 38),(mQ 8 41)])
 (.seq (.reg [(mQ 43 2),(kQ 44 8 28 [(.t 43)]),(mQ 42 44),(oQ 45 (.ext 0 (.t 42))),(oQ 46 (.ext 1 (.t 42))),(oQ 9 (.newz 9 [(.p (.sl 0 [] true))])),(sQ 1 9 45),(mQ 10 46)])
 (.seq (.reg [(mQ 48 2),(kQ 49 10 29 [(.t 48)]),(mQ 47 49),(oQ 50 (.ext 0 (.t 47))),(oQ 51 (.ext 1 (.t 47))),(mQ 11 50),(mQ 12 51)])
 (.seq (.reg [(mQ 53 2),(kQ 54 11 30 [(.t 53)]),(mQ 52 54),(oQ 55 (.ext 0 (.t 52))),(oQ 56 (.ext 1 (.t 52))),(oQ 13 (.newz 12 [(.p (.sl 0 [] true))])),(sQ 1 13 55),(mQ 14 56)])
 (.seq (.reg [(mQ 58 2),(kQ 59 13 31 [(.t 58)]),(mQ 57 59),(oQ 60 (.ext 0 (.t 57))),(oQ 61 (.ext 1 (.t 57))),(mQ 15 60),(mQ 16 61)])
 (.seq (.seq (.reg [(mQ 62 7),(nQ 63 1 3),(kQ 64 14 32 [(.t 63)]),(oQ 65 (.scmp true (.t 62) (.t 64))),(mQ 66 65),(vQ 67 66 false 8),(vQ 68 66 false 1),⟨some 69,some (some 66,false),(.call 15 33 [(.t 68)])⟩,(gQ 70 66 false (.scmp true (.t 67) (.t 69))),(oQ 71 (.pick (.t 66) cT (.t 70))),(mQ 72 71),(vQ 73 72 false 10),(vQ 74 72 false 14),(gQ 75 72 false (.bin .neq (.t 73) (.t 74))),(oQ 76 (.pick (.t 72) cT (.t 75))),(mQ 77 76),(gQ 78 77 false (.ldn 1 (.t 9))),(gQ 79 77 false (.ldn 1 (.t 13))),⟨some 80,some (some 77,false),(.call 16 34 [(.t 78),(.t 79)])⟩,(gQ 81 77 false (.unot (.t 80))),(oQ 82 (.pick (.t 77) cT (.t 81))),(mQ 83 82),(vQ 84 83 false 12),(vQ 85 83 false 16),(gQ 86 83 false (.bin .neq (.t 84) (.t 85))),(oQ 87 (.pick (.t 83) cT (.t 86))),(mQ 88 87),(vQ 89 88 false 11),(vQ 90 88 false 15),⟨some 91,some (some 88,false),(.call 17 35 [(.t 89),(.t 90)])⟩,(gQ 92 88 false (.unot (.t 91))),(oQ 93 (.pick (.t 88) cT (.t 92)))])
 (.cond (.t 93) (.seq (.reg [(oQ 6 (.mv cF))])
 .ret) .skip))
 (.seq (.seq (.reg [(nQ 94 1 3),(kQ 95 18 36 [(.t 94)]),(cQ 96 .eql 95 0)])
 (.cond (.t 96) (.seq (.reg [(mQ 98 7),(kQ 99 19 28 [(.t 98)]),(mQ 97 99),(oQ 100 (.ext 0 (.t 97))),(oQ 101 (.ext 1 (.t 97))),(oQ 17 (.newz 20 [(.p (.sl 0 [] true))])),(sQ 1 17 100),(mQ 18 101)])
 (.seq (.reg [(mQ 102 18),(cQ 103 .neq 102 0),(mQ 104 103),(gQ 105 104 false (.ldn 1 (.t 17))),(gQ 106 104 false (.ldn 1 (.t 3))),⟨some 107,some (some 104,false),(.call 21 34 [(.t 105),(.t 106)])⟩,(gQ 108 104 false (.unot (.t 107))),(oQ 109 (.pick (.t 104) cT (.t 108)))])
 (.cond (.t 109) (.seq (.reg [(oQ 6 (.mv cF))])
 .ret) .skip))) .skip))
 (.seq (.seq (.reg [(mQ 110 1),(kQ 111 22 37 [(.t 110)]),(cQ 112 .neq 111 0)])
 (.cond (.t 112) (.seq (.reg [(oQ 6 (.mv cT))])
 .ret) .skip))
 (.seq (.reg [(mQ 114 8),(kQ 115 23 29 [(.t 114)]),(mQ 113 115),(oQ 116 (.ext 0 (.t 113))),(oQ 117 (.ext 1 (.t 113))),(mQ 19 116),(mQ 20 117)])
 (.seq (.reg [(mQ 118 20),(cQ 119 .eql 118 0),(mQ 120 119),(vQ 121 120 true 19),(vQ 122 120 true 1),⟨some 123,some (some 120,true),(.call 24 35 [(.t 121),(.t 122)])⟩,(oQ 124 (.pick (.t 120) (.t 123) cF)),(mQ 6 124)])
 .ret)))))))))))))⟩
def A_Z3:Nat→Ty := tyAt [.un,.un,.un,.un,.un,.un,.un,.un,.un,.un,.un,.un,.un,.un,.un,.un,.un,.un,.un,.un,.un,.un,.un,.un,.un]
abbrev P_Z3:List PSh := [.agg (.sl pQ),.one (.sl (.pr tQ pQ)),.one .str]
abbrev R_Z3:List PSh := [.one .bool]
theorem e_Z3:cFn Tryz.prog 4 = some F_Z3.erase := by kernel_rfl
theorem k_Z3:callable Tryz.prog 4 = true := by kernel_rfl
def F_Z4:TFn := ⟨15,0,[.tmp 6],(.seq (.reg [(oQ 6 (.mv cF))])
 (.seq (.reg [(mQ 7 1),(mQ 8 0),(bQ 9 .leq 7 8),(mQ 10 9),(vQ 11 10 true 0),(vQ 12 10 true 2),(gQ 13 10 true (.bin .leq (.t 11) (.t 12))),(oQ 14 (.pick (.t 10) (.t 13) cF)),(mQ 6 14)])
 .ret))⟩
def A_Z4:Nat→Ty := tyAt []
abbrev P_Z4:List PSh := [.one tQ,.one tQ,.one tQ]
abbrev R_Z4:List PSh := [.one .bool]
theorem e_Z4:cFn Tryz.prog 8 = some F_Z4.erase := by kernel_rfl
theorem k_Z4:callable Tryz.prog 8 = true := by kernel_rfl
def F_Z15:TFn := ⟨65,15,[.tmp 0],(.seq (.reg [(oQ 0 (.mv cF))])
 (.seq (.reg [(kQ 10 0 91 []),(kQ 11 1 58 [(.t 10),(iQ 2)]),(mQ 9 11),(oQ 12 (.ext 0 (.t 9))),(oQ 13 (.ext 1 (.t 9))),(oQ 1 (.newz 2 [zQ,zQ])),(sQ 2 1 12),(mQ 2 13)])
 (.seq (.reg [(kQ 15 3 92 []),(kQ 16 4 93 []),(kQ 17 5 63 [(.t 15),(.t 16)]),(mQ 14 17),(oQ 18 (.ext 0 (.t 14))),(oQ 19 (.ext 1 (.t 14))),(mQ 3 18),(mQ 4 19)])
 (.seq (.reg [(kQ 21 6 92 []),(kQ 22 7 93 []),(kQ 23 8 68 [(.t 21),(.t 22),(iQ 2)]),(mQ 20 23),(oQ 24 (.ext 0 (.t 20))),(oQ 25 (.ext 1 (.t 20))),(oQ 5 (.newz 9 [zQ,zQ])),(sQ 2 5 24),(mQ 6 25)])
 (.seq (.reg [(kQ 27 10 92 []),(kQ 28 11 91 []),(kQ 29 12 94 [(.t 27),(.t 28)]),(mQ 26 29),(oQ 30 (.ext 0 (.t 26))),(oQ 31 (.ext 1 (.t 26))),(mQ 7 30),(mQ 8 31)])
 (.seq (.reg [(mQ 32 2),(cQ 33 .eql 32 0),(mQ 34 33),(gQ 35 34 true (.ldn 2 (.t 1))),(gQ 36 34 true (.build [zQ,zQ] [(0,1,(iQ 8)),(1,1,(iQ 3))])),(gQ 37 34 true (.eqa false 2 [(true,0),(true,1)] (.t 35) (.t 36))),(oQ 38 (.pick (.t 34) (.t 37) cF)),(mQ 39 38),(vQ 40 39 true 4),(gQ 41 39 true (.bin .eql (.t 40) (iQ 0))),(oQ 42 (.pick (.t 39) (.t 41) cF)),(mQ 43 42),(vQ 44 43 true 3),(gQ 45 43 true (.bsl false 13 1 3 [zQ,zQ,zQ] [(0,1,(iQ 1)),(1,1,(iQ 3)),(2,1,(iQ 4))])),⟨some 46,some (some 43,true),(.call 14 48 [(.t 44),(.t 45)])⟩,(oQ 47 (.pick (.t 43) (.t 46) cF)),(mQ 48 47),(vQ 49 48 true 6),(gQ 50 48 true (.bin .eql (.t 49) (iQ 0))),(oQ 51 (.pick (.t 48) (.t 50) cF)),(mQ 52 51),(gQ 53 52 true (.ldn 2 (.t 5))),(gQ 54 52 true (.build [zQ,zQ] [(0,1,(iQ 1)),(1,1,(iQ 4))])),(gQ 55 52 true (.eqa false 2 [(true,0),(true,1)] (.t 53) (.t 54))),(oQ 56 (.pick (.t 52) (.t 55) cF)),(mQ 57 56),(vQ 58 57 true 8),(gQ 59 57 true (.bin .eql (.t 58) (iQ 0))),(oQ 60 (.pick (.t 57) (.t 59) cF)),(mQ 61 60),(vQ 62 61 true 7),(gQ 63 61 true (.bin .eql (.t 62) (iQ 4))),(oQ 64 (.pick (.t 61) (.t 63) cF)),(mQ 0 64)])
 .ret))))))⟩
abbrev P_Z15:List PSh := []
abbrev R_Z15:List PSh := [.one .bool]
theorem e_Z15:cFn Tryz.prog 21 = some F_Z15.erase := by kernel_rfl
theorem k_Z15:callable Tryz.prog 21 = true := by kernel_rfl
def F_Zy:TFn := ⟨7,1,[.tmp 2],(.seq (.reg [(oQ 1 (.box 0 (.t 0))),(oQ 2 (.mv cF))])
 (.seq (.reg [(fQ 3 0 1),(lQ 4 3),(hQ 5 4),(cQ 6 .leq 5 6),(mQ 2 6)])
 .ret))⟩
def A_Zy:Nat→Ty := tyAt [.un]
abbrev P_Zy:List PSh := [.agg (.sl pQ)]
abbrev R_Zy:List PSh := [.one .bool]
theorem e_Zy:cFn Tryz.prog 22 = some F_Zy.erase := by kernel_rfl
theorem k_Zy:callable Tryz.prog 22 = true := by kernel_rfl
def F_Zz:TFn := ⟨6,0,[.tmp 2],(.seq (.reg [(oQ 2 (.mv cF))])
 (.seq (.reg [(mQ 3 0),(hQ 4 3),(cQ 5 .leq 4 8),(mQ 2 5)])
 .ret))⟩
def A_Zz:Nat→Ty := tyAt []
abbrev P_Zz:List PSh := [.one (.sl (.pr tQ pQ))]
abbrev R_Zz:List PSh := [.one .bool]
theorem e_Zz:cFn Tryz.prog 23 = some F_Zz.erase := by kernel_rfl
theorem k_Zz:callable Tryz.prog 23 = true := by kernel_rfl
def F_Z13:TFn := ⟨8,4,[.celln 2 1],(.seq (.reg [(oQ 1 (.box 0 (.t 0))),(oQ 2 (.newz 1 [(.p (.sl 0 [] true))]))])
 (.seq (.reg [(oQ 3 (.bsl true 2 2 0 [] [])),(fQ 4 0 1),(lQ 5 4),(oQ 6 (.app 3 2 16 (.t 3) (.t 5))),(oQ 7 (.build [(.p (.sl 0 [] true))] [(0,1,(.t 6))])),(sQ 1 2 7)])
 .ret))⟩
def A_Z13:Nat→Ty := tyAt [.un,.un,pQ,pQ]
abbrev P_Z13:List PSh := [.agg (.sl pQ)]
abbrev E_Z13:Ty := pQ
theorem e_Z13:cFn Tryz.prog 25 = some F_Z13.erase := by kernel_rfl
theorem k_Z13:callable Tryz.prog 25 = true := by kernel_rfl
def F_Zm:TFn := ⟨27,7,[.tmp 2],(.seq (.reg [(oQ 1 (.box 0 (.t 0))),⟨some 2,none,(.op (.mv (.c (.p (.str ⟨#[]⟩)))))⟩])
 (.seq (.reg [(oQ 3 (.mv (.c (.p (.sl 0 [] true)))))])
 (.seq (.seq (.reg [(fQ 6 0 1),(lQ 7 6),(hQ 8 7),(oQ 9 (.mv (iQ 0)))])
 (.block 0 (.loop [.v 9 tQ,.o 3 5 .str] [5,1] [5,1] (.seq (.reg [(bQ 10 .lss 9 8)])
 (.seq (.cond (.t 10) .skip (.exit 0))
 (.seq (.block 1 (.seq (.reg [(jQ 11 2 7 9),(nQ 12 2 11),(oQ 5 (.newz 1 [zQ,zQ])),(sQ 2 5 12)])
 (.regd [(mQ 13 3),(fQ 14 0 5),(lQ 15 14),(kQ 16 2 95 [(.t 15)]),⟨some 17,none,(.op (.sadd (.t 16) (.c (.p (.str ⟨#[120]⟩)))))⟩,(fQ 18 1 5),(lQ 19 18),(kQ 20 3 95 [(.t 19)]),(oQ 21 (.sadd (.t 17) (.t 20))),⟨some 22,none,(.op (.bsl false 4 1 1 [(.p (.str ⟨#[]⟩))] [(0,1,(.t 21))]))⟩,(oQ 23 (.app 5 1 16 (.t 13) (.t 22))),(mQ 3 23)] [(2,6),(3,6)] [])))
 (.reg [(cQ 24 .add 9 1),(mQ 9 24)])))))))
 (.seq (.reg [(mQ 25 3),⟨some 26,none,(.call 6 79 [(.t 25),(.c (.p (.str ⟨#[32]⟩)))])⟩,(mQ 2 26)])
 .ret))))⟩
def A_Zm:Nat→Ty := tyAt [.un,.un,.un,.un,.str,.str,.un]
abbrev P_Zm:List PSh := [.agg (.sl pQ)]
abbrev R_Zm:List PSh := [.one .str]
theorem e_Zm:cFn Tryz.prog 24 = some F_Zm.erase := by kernel_rfl
theorem k_Zm:callable Tryz.prog 24 = true := by kernel_rfl
def F_Z14:TFn := ⟨6,2,[.tmp 2],(.seq (.reg [(oQ 2 (.mv (.c (.p (.sl 0 [] true)))))])
 (.seq (.reg [(oQ 3 (.bsl true 0 3 0 [] [])),(mQ 4 0),(oQ 5 (.app 1 3 24 (.t 3) (.t 4))),(mQ 2 5)])
 .ret))⟩
def A_Z14:Nat→Ty := tyAt [(.pr tQ pQ),(.pr tQ pQ)]
abbrev P_Z14:List PSh := [.one (.sl (.pr tQ pQ))]
abbrev E_Z14:Ty := (.pr tQ pQ)
theorem e_Z14:cFn Tryz.prog 27 = some F_Z14.erase := by kernel_rfl
theorem k_Z14:callable Tryz.prog 27 = true := by kernel_rfl
def F_Ze:TFn := ⟨33,7,[.tmp 2],(.seq (.reg [⟨some 2,none,(.op (.mv (.c (.p (.str ⟨#[]⟩)))))⟩])
 (.seq (.reg [(oQ 3 (.mv (.c (.p (.sl 0 [] true)))))])
 (.seq (.seq (.reg [(mQ 6 0),(hQ 7 6),(oQ 8 (.mv (iQ 0)))])
 (.block 0 (.loop [.v 8 tQ,.o 3 5 .str] [5,0] [5,0] (.seq (.reg [(bQ 9 .lss 8 7)])
 (.seq (.cond (.t 9) .skip (.exit 0))
 (.seq (.block 1 (.seq (.reg [(jQ 10 3 6 8),(nQ 11 3 10),(oQ 5 (.newz 0 [zQ,zQ,zQ])),(sQ 3 5 11)])
 (.regd [(mQ 12 3),(fQ 13 0 5),(lQ 14 13),(kQ 15 1 95 [(.t 14)]),⟨some 16,none,(.op (.sadd (.t 15) (.c (.p (.str ⟨#[58]⟩)))))⟩,(fQ 17 1 5),(fQ 18 0 17),(lQ 19 18),(kQ 20 2 95 [(.t 19)]),(oQ 21 (.sadd (.t 16) (.t 20))),⟨some 22,none,(.op (.sadd (.t 21) (.c (.p (.str ⟨#[44]⟩)))))⟩,(fQ 23 1 5),(fQ 24 1 23),(lQ 25 24),(kQ 26 3 95 [(.t 25)]),(oQ 27 (.sadd (.t 22) (.t 26))),⟨some 28,none,(.op (.bsl false 4 1 1 [(.p (.str ⟨#[]⟩))] [(0,1,(.t 27))]))⟩,(oQ 29 (.app 5 1 16 (.t 12) (.t 28))),(mQ 3 29)] [(2,7),(3,7),(2,13),(3,13),(7,13),(8,13)] [])))
 (.reg [(cQ 30 .add 8 1),(mQ 8 30)])))))))
 (.seq (.reg [(mQ 31 3),⟨some 32,none,(.call 6 79 [(.t 31),(.c (.p (.str ⟨#[32]⟩)))])⟩,(mQ 2 32)])
 .ret))))⟩
def A_Ze:Nat→Ty := tyAt [.un,.un,.un,.un,.str,.str,.un]
abbrev P_Ze:List PSh := [.one (.sl (.pr tQ pQ))]
abbrev R_Ze:List PSh := [.one .str]
theorem e_Ze:cFn Tryz.prog 26 = some F_Ze.erase := by kernel_rfl
theorem k_Ze:callable Tryz.prog 26 = true := by kernel_rfl
def F_Zc:TFn := ⟨44,9,[.celln 2 1,.cell1 3],(.seq (.reg [(oQ 2 (.newz 0 [(.p (.sl 0 [] true))])),(oQ 3 (.newz 1 [zQ]))])
 (.seq (.seq (.reg [(mQ 9 0),(oQ 10 (.len true (.t 9))),(cQ 11 .gtr 10 60000)])
 (.cond (.t 11) (.seq (.reg [(oQ 12 (.build [(.p (.sl 0 [] true))] [])),(sQ 1 2 12),(uQ (.st 1 (.t 3) (iQ 8)))])
 .ret) .skip))
 (.seq (.reg [(oQ 4 (.newz 2 [(.p (.sl 0 [] true))]))])
 (.seq (.seq (.reg [(mQ 13 0)])
 (.block 0 (.rngc 96 [(.t 13),(.c (.p (.str ⟨#[32]⟩)))] 14 [15] [15,5,17,18,19,16,20,21,6,7,22,23,24,25,26,27,28,29,30,31,32,33,34,35,36] [.q 2 7 pQ] [2,7] [7] (.reg [(mQ 5 15)])
 (.block 1 (.seq (.reg [(mQ 17 5),⟨some 18,none,(.op (.bsl false 4 1 1 [(.p (.str ⟨#[]⟩))] [(0,1,(.c (.p (.str ⟨#[120]⟩))))]))⟩,(kQ 19 5 97 [(.t 17),(.t 18)]),(mQ 16 19),(oQ 20 (.ext 0 (.t 16))),(oQ 21 (.ext 1 (.t 16))),(mQ 6 20),(mQ 7 21)])
 (.seq (.seq (.reg [(mQ 22 7),(oQ 23 (.unot (.t 22)))])
 (.cond (.t 23) (.seq (.reg [(oQ 24 (.build [(.p (.sl 0 [] true))] [])),(sQ 1 2 24),(uQ (.st 1 (.t 3) (iQ 7)))])
 .ret) .skip))
 (.regd [(fQ 25 0 4),(lQ 26 25),(mQ 27 6),(oQ 28 (.ia 1 (.t 27) (iQ 0))),(lQ 29 28),(mQ 30 6),(oQ 31 (.ia 1 (.t 30) (iQ 1))),(lQ 32 31),(oQ 33 (.build [zQ,zQ] [(0,1,(.t 29)),(1,1,(.t 32))])),(oQ 34 (.bsl false 6 2 1 [zQ,zQ] [(0,2,(.t 33))])),(oQ 35 (.app 7 2 16 (.t 26) (.t 34))),(fQ 36 0 4),(sQ 1 36 35)] [(1,4),(1,7),(4,7)] [])))))))
 (.seq (.seq (.reg [(nQ 37 1 4),(kQ 38 8 98 [(.t 37)]),(mQ 8 38)])
 (.seq (.reg [(mQ 39 8),(cQ 40 .neq 39 0)])
 (.cond (.t 40) (.seq (.reg [(oQ 41 (.build [(.p (.sl 0 [] true))] [])),(mQ 42 8),(sQ 1 2 41),(sQ 1 3 42)])
 .ret) .skip)))
 (.seq (.reg [(nQ 43 1 4),(sQ 1 2 43),(uQ (.st 1 (.t 3) (iQ 0)))])
 .ret))))))⟩
def A_Zc:Nat→Ty := tyAt [.un,.un,.un,.un,.str,.un,pQ,pQ,.un]
abbrev P_Zc:List PSh := [.one .str]
abbrev R_Zc:List PSh := [.agg (.sl pQ),.one tQ]
theorem e_Zc:cFn Tryz.prog 28 = some F_Zc.erase := by kernel_rfl
theorem k_Zc:callable Tryz.prog 28 = true := by kernel_rfl
def F_Zb:TFn := ⟨43,9,[.cell1 2,.cell1 3],(.seq (.reg [(oQ 2 (.newz 0 [(.p (.sl 0 [] true))])),(oQ 3 (.newz 1 [zQ]))])
 (.seq (.seq (.reg [(mQ 9 0),(oQ 10 (.len true (.t 9))),(cQ 11 .gtr 10 60000)])
 (.cond (.t 11) (.seq (.reg [(uQ (.st 1 (.t 2) (.c (.p (.sl 0 [] true))))),(uQ (.st 1 (.t 3) (iQ 8)))])
 .ret) .skip))
 (.seq (.reg [(oQ 4 (.newz 2 [(.p (.sl 0 [] true))]))])
 (.seq (.seq (.reg [(mQ 12 0)])
 (.block 0 (.rngc 96 [(.t 12),(.c (.p (.str ⟨#[32]⟩)))] 13 [14] [14,5,16,17,18,15,19,20,6,7,21,22,23,24,25,26,27,28,29,30,31,32,33,34,35,36] [.q 2 7 (.pr tQ pQ)] [2,7] [7] (.reg [(mQ 5 14)])
 (.block 1 (.seq (.reg [(mQ 16 5),⟨some 17,none,(.op (.bsl false 4 1 2 [(.p (.str ⟨#[]⟩)),(.p (.str ⟨#[]⟩))] [(0,1,(.c (.p (.str ⟨#[58]⟩)))),(1,1,(.c (.p (.str ⟨#[44]⟩))))]))⟩,(kQ 18 5 97 [(.t 16),(.t 17)]),(mQ 15 18),(oQ 19 (.ext 0 (.t 15))),(oQ 20 (.ext 1 (.t 15))),(mQ 6 19),(mQ 7 20)])
 (.seq (.seq (.reg [(mQ 21 7),(oQ 22 (.unot (.t 21)))])
 (.cond (.t 22) (.seq (.reg [(uQ (.st 1 (.t 2) (.c (.p (.sl 0 [] true))))),(uQ (.st 1 (.t 3) (iQ 7)))])
 .ret) .skip))
 (.regd [(lQ 23 4),(mQ 24 6),(oQ 25 (.ia 1 (.t 24) (iQ 0))),(lQ 26 25),(mQ 27 6),(oQ 28 (.ia 1 (.t 27) (iQ 1))),(lQ 29 28),(mQ 30 6),(oQ 31 (.ia 1 (.t 30) (iQ 2))),(lQ 32 31),(oQ 33 (.build [zQ,zQ] [(0,1,(.t 29)),(1,1,(.t 32))])),(oQ 34 (.build [zQ,zQ,zQ] [(0,1,(.t 26)),(1,2,(.t 33))])),(oQ 35 (.bsl false 6 3 1 [zQ,zQ,zQ] [(0,3,(.t 34))])),(oQ 36 (.app 7 3 24 (.t 23) (.t 35))),(sQ 1 4 36)] [(0,3),(0,6),(3,6),(0,9),(3,9),(6,9)] [])))))))
 (.seq (.seq (.reg [(lQ 37 4),(kQ 38 8 99 [(.t 37)]),(mQ 8 38)])
 (.seq (.reg [(mQ 39 8),(cQ 40 .neq 39 0)])
 (.cond (.t 40) (.seq (.reg [(mQ 41 8),(uQ (.st 1 (.t 2) (.c (.p (.sl 0 [] true))))),(sQ 1 3 41)])
 .ret) .skip)))
 (.seq (.reg [(lQ 42 4),(sQ 1 2 42),(uQ (.st 1 (.t 3) (iQ 0)))])
 .ret))))))⟩
def A_Zb:Nat→Ty := tyAt [.un,.un,.un,.un,.str,.un,(.pr tQ pQ),(.pr tQ pQ),.un]
abbrev P_Zb:List PSh := [.one .str]
abbrev R_Zb:List PSh := [.one (.sl (.pr tQ pQ)),.one tQ]
theorem e_Zb:cFn Tryz.prog 29 = some F_Zb.erase := by kernel_rfl
theorem k_Zb:callable Tryz.prog 29 = true := by kernel_rfl
def F_Zh:TFn := ⟨52,8,[.celln 2 1,.tmp 3],(.seq (.reg [(oQ 2 (.newz 0 [(.p (.sl 0 [] true))])),(oQ 3 (.mv (iQ 0)))])
 (.seq (.reg [(oQ 12 (.build [(.p (.sl 0 [] true))] [])),(oQ 4 (.newz 1 [(.p (.sl 0 [] true))])),(sQ 1 4 12)])
 (.seq (.seq (.reg [(mQ 13 0),(oQ 14 (.len true (.t 13))),(cQ 15 .gtr 14 60000)])
 (.cond (.t 15) (.seq (.reg [(nQ 16 1 4),(sQ 1 2 16),(oQ 3 (.mv (iQ 8)))])
 .ret) .skip))
 (.seq (.reg [(mQ 17 0),(kQ 18 2 100 [(.t 17),(.c (.p (.int .u8 32)))]),(mQ 5 18)])
 (.seq (.reg [(oQ 6 (.newz 3 [(.p (.sl 0 [] true))]))])
 (.seq (.seq (.reg [(oQ 7 (.mv (iQ 0)))])
 (.block 0 (.loop [.v 7 tQ,.q 3 6 pQ] [3,6] [6] (.seq (.seq (.reg [(mQ 19 7),(mQ 20 5),(hQ 21 20),(bQ 22 .lss 19 21)])
 (.cond (.t 22) .skip (.exit 0)))
 (.seq (.block 1 (.seq (.reg [(mQ 26 5),(mQ 27 7),(jQ 28 1 26 27),(lQ 29 28),(kQ 30 4 101 [(.t 29),(.c (.p (.int .u8 120)))]),(mQ 25 30),(oQ 31 (.ext 0 (.t 25))),(oQ 32 (.ext 1 (.t 25))),(oQ 33 (.ext 2 (.t 25))),(mQ 8 31),(mQ 9 32),(mQ 10 33)])
 (.seq (.seq (.reg [(mQ 34 10),(oQ 35 (.unot (.t 34)))])
 (.cond (.t 35) (.seq (.reg [(nQ 36 1 4),(sQ 1 2 36),(oQ 3 (.mv (iQ 7)))])
 .ret) .skip))
 (.reg [(fQ 37 0 6),(lQ 38 37),(mQ 39 8),(mQ 40 9),(oQ 41 (.build [zQ,zQ] [(0,1,(.t 39)),(1,1,(.t 40))])),(oQ 42 (.bsl false 5 2 1 [zQ,zQ] [(0,2,(.t 41))])),(oQ 43 (.app 6 2 16 (.t 38) (.t 42))),(fQ 44 0 6),(sQ 1 44 43)]))))
 (.reg [(mQ 23 7),(cQ 24 .add 23 1),(mQ 7 24)]))))))
 (.seq (.seq (.reg [(nQ 45 1 6),(kQ 46 7 36 [(.t 45)]),(mQ 11 46)])
 (.seq (.reg [(mQ 47 11),(cQ 48 .neq 47 0)])
 (.cond (.t 48) (.seq (.reg [(nQ 49 1 4),(mQ 50 11),(sQ 1 2 49),(mQ 3 50)])
 .ret) .skip)))
 (.seq (.reg [(nQ 51 1 6),(sQ 1 2 51),(oQ 3 (.mv (iQ 0)))])
 .ret))))))))⟩
def A_Zh:Nat→Ty := tyAt [.un,.un,.un,.un,.un,pQ,pQ,.un]
abbrev P_Zh:List PSh := [.one .str]
abbrev R_Zh:List PSh := [.agg (.sl pQ),.one tQ]
theorem e_Zh:cFn Tryz.prog 30 = some F_Zh.erase := by kernel_rfl
theorem k_Zh:callable Tryz.prog 30 = true := by kernel_rfl
def F_Z9:TFn := ⟨68,7,[.tmp 2,.tmp 3],(.seq (.reg [(oQ 2 (.mv (.c (.p (.sl 0 [] true))))),(oQ 3 (.mv (iQ 0)))])
 (.seq (.seq (.reg [(mQ 14 0),(oQ 15 (.len true (.t 14))),(cQ 16 .gtr 15 60000)])
 (.cond (.t 16) (.seq (.reg [(oQ 2 (.mv (.c (.p (.sl 0 [] true))))),(oQ 3 (.mv (iQ 8)))])
 .ret) .skip))
 (.seq (.reg [(mQ 17 0),(kQ 18 0 100 [(.t 17),(.c (.p (.int .u8 32)))]),(mQ 4 18)])
 (.seq (.reg [(oQ 5 (.mv (.c (.p (.sl 0 [] true)))))])
 (.seq (.seq (.reg [(oQ 6 (.mv (iQ 0)))])
 (.block 0 (.loop [.v 6 tQ,.o 5 5 (.pr tQ pQ)] [5] [5] (.seq (.seq (.reg [(mQ 19 6),(mQ 20 4),(hQ 21 20),(bQ 22 .lss 19 21)])
 (.cond (.t 22) .skip (.exit 0)))
 (.seq (.block 1 (.seq (.reg [(mQ 25 4),(mQ 26 6),(jQ 27 1 25 26),(lQ 28 27),(kQ 29 1 100 [(.t 28),(.c (.p (.int .u8 58)))]),(mQ 7 29)])
 (.seq (.seq (.reg [(mQ 30 7),(hQ 31 30),(cQ 32 .neq 31 2)])
 (.cond (.t 32) (.seq (.reg [(oQ 2 (.mv (.c (.p (.sl 0 [] true))))),(oQ 3 (.mv (iQ 7)))])
 .ret) .skip))
 (.seq (.reg [(mQ 34 7),(oQ 35 (.ia 1 (.t 34) (iQ 0))),(lQ 36 35),(kQ 37 2 102 [(.t 36)]),(mQ 33 37),(oQ 38 (.ext 0 (.t 33))),(oQ 39 (.ext 1 (.t 33))),(mQ 8 38),(mQ 9 39)])
 (.seq (.reg [(mQ 41 7),(oQ 42 (.ia 1 (.t 41) (iQ 1))),(lQ 43 42),(kQ 44 3 101 [(.t 43),(.c (.p (.int .u8 44)))]),(mQ 40 44),(oQ 45 (.ext 0 (.t 40))),(oQ 46 (.ext 1 (.t 40))),(oQ 47 (.ext 2 (.t 40))),(mQ 10 45),(mQ 11 46),(mQ 12 47)])
 (.seq (.seq (.reg [(mQ 48 9),(oQ 49 (.unot (.t 48))),(mQ 50 49),(vQ 51 50 false 12),(gQ 52 50 false (.unot (.t 51))),(oQ 53 (.pick (.t 50) cT (.t 52)))])
 (.cond (.t 53) (.seq (.reg [(oQ 2 (.mv (.c (.p (.sl 0 [] true))))),(oQ 3 (.mv (iQ 7)))])
 .ret) .skip))
 (.reg [(mQ 54 5),(mQ 55 8),(mQ 56 10),(mQ 57 11),(oQ 58 (.build [zQ,zQ] [(0,1,(.t 56)),(1,1,(.t 57))])),(oQ 59 (.build [zQ,zQ,zQ] [(0,1,(.t 55)),(1,2,(.t 58))])),(oQ 60 (.bsl false 4 3 1 [zQ,zQ,zQ] [(0,3,(.t 59))])),(oQ 61 (.app 5 3 24 (.t 54) (.t 60))),(mQ 5 61)])))))))
 (.reg [(mQ 23 6),(cQ 24 .add 23 1),(mQ 6 24)]))))))
 (.seq (.seq (.reg [(mQ 62 5),(kQ 63 6 37 [(.t 62)]),(mQ 13 63)])
 (.seq (.reg [(mQ 64 13),(cQ 65 .neq 64 0)])
 (.cond (.t 65) (.seq (.reg [(mQ 66 13),(oQ 2 (.mv (.c (.p (.sl 0 [] true))))),(mQ 3 66)])
 .ret) .skip)))
 (.seq (.reg [(mQ 67 5),(mQ 2 67),(oQ 3 (.mv (iQ 0)))])
 .ret)))))))⟩
def A_Z9:Nat→Ty := tyAt [.un,.un,.un,.un,(.pr tQ pQ),(.pr tQ pQ),.un]
abbrev P_Z9:List PSh := [.one .str]
abbrev R_Z9:List PSh := [.one (.sl (.pr tQ pQ)),.one tQ]
theorem e_Z9:cFn Tryz.prog 31 = some F_Z9.erase := by kernel_rfl
theorem k_Z9:callable Tryz.prog 31 = true := by kernel_rfl
def F_Zd:TFn := ⟨35,3,[.tmp 2],(.seq (.reg [(oQ 1 (.box 0 (.t 0))),⟨some 2,none,(.op (.mv (.c (.p (.str ⟨#[]⟩)))))⟩])
 (.seq (.reg [⟨some 3,none,(.op (.mv (.c (.p (.str ⟨#[]⟩)))))⟩])
 (.seq (.seq (.reg [(oQ 4 (.mv (iQ 0)))])
 (.block 0 (.loop [.v 4 tQ,.v 3 .str] [] [] (.seq (.seq (.reg [(mQ 5 4),(fQ 6 0 1),(lQ 7 6),(hQ 8 7),(bQ 9 .lss 5 8)])
 (.cond (.t 9) .skip (.exit 0)))
 (.seq (.block 1 (.seq (.seq (.reg [(mQ 12 4),(cQ 13 .gtr 12 0)])
 (.cond (.t 13) (.reg [(mQ 14 3),⟨some 15,none,(.op (.sadd (.t 14) (.c (.p (.str ⟨#[32]⟩)))))⟩,(mQ 3 15)]) .skip))
 (.regd [(mQ 16 3),(fQ 17 0 1),(lQ 18 17),(mQ 19 4),(jQ 20 2 18 19),(fQ 21 0 20),(lQ 22 21),(kQ 23 1 103 [(.t 22)]),(oQ 24 (.sadd (.t 16) (.t 23))),⟨some 25,none,(.op (.sadd (.t 24) (.c (.p (.str ⟨#[120]⟩)))))⟩,(fQ 26 0 1),(lQ 27 26),(mQ 28 4),(jQ 29 2 27 28),(fQ 30 1 29),(lQ 31 30),(kQ 32 2 103 [(.t 31)]),(oQ 33 (.sadd (.t 25) (.t 32))),(mQ 3 33)] [(2,11),(6,11),(7,11),(2,15),(6,15),(7,15)] [])))
 (.reg [(mQ 10 4),(cQ 11 .add 10 1),(mQ 4 11)]))))))
 (.seq (.reg [(mQ 34 3),(mQ 2 34)])
 .ret))))⟩
def A_Zd:Nat→Ty := tyAt [.un,.un,.un]
abbrev P_Zd:List PSh := [.agg (.sl pQ)]
abbrev R_Zd:List PSh := [.one .str]
theorem e_Zd:cFn Tryz.prog 32 = some F_Zd.erase := by kernel_rfl
theorem k_Zd:callable Tryz.prog 32 = true := by kernel_rfl
def F_Z6:TFn := ⟨42,3,[.tmp 2],(.seq (.reg [⟨some 2,none,(.op (.mv (.c (.p (.str ⟨#[]⟩)))))⟩])
 (.seq (.reg [⟨some 3,none,(.op (.mv (.c (.p (.str ⟨#[]⟩)))))⟩])
 (.seq (.seq (.reg [(oQ 4 (.mv (iQ 0)))])
 (.block 0 (.loop [.v 4 tQ,.v 3 .str] [] [] (.seq (.seq (.reg [(mQ 5 4),(mQ 6 0),(hQ 7 6),(bQ 8 .lss 5 7)])
 (.cond (.t 8) .skip (.exit 0)))
 (.seq (.block 1 (.seq (.seq (.reg [(mQ 11 4),(cQ 12 .gtr 11 0)])
 (.cond (.t 12) (.reg [(mQ 13 3),⟨some 14,none,(.op (.sadd (.t 13) (.c (.p (.str ⟨#[32]⟩)))))⟩,(mQ 3 14)]) .skip))
 (.regd [(mQ 15 3),(mQ 16 0),(mQ 17 4),(jQ 18 3 16 17),(fQ 19 0 18),(lQ 20 19),(kQ 21 0 103 [(.t 20)]),(oQ 22 (.sadd (.t 15) (.t 21))),⟨some 23,none,(.op (.sadd (.t 22) (.c (.p (.str ⟨#[58]⟩)))))⟩,(mQ 24 0),(mQ 25 4),(jQ 26 3 24 25),(fQ 27 1 26),(fQ 28 0 27),(lQ 29 28),(kQ 30 1 103 [(.t 29)]),(oQ 31 (.sadd (.t 23) (.t 30))),⟨some 32,none,(.op (.sadd (.t 31) (.c (.p (.str ⟨#[44]⟩)))))⟩,(mQ 33 0),(mQ 34 4),(jQ 35 3 33 34),(fQ 36 1 35),(fQ 37 1 36),(lQ 38 37),(kQ 39 2 103 [(.t 38)]),(oQ 40 (.sadd (.t 32) (.t 39))),(mQ 3 40)] [(5,14),(6,14),(5,23),(6,23),(14,23),(15,23)] [])))
 (.reg [(mQ 9 4),(cQ 10 .add 9 1),(mQ 4 10)]))))))
 (.seq (.reg [(mQ 41 3),(mQ 2 41)])
 .ret))))⟩
def A_Z6:Nat→Ty := tyAt [.un,.un,.un]
abbrev P_Z6:List PSh := [.one (.sl (.pr tQ pQ))]
abbrev R_Z6:List PSh := [.one .str]
theorem e_Z6:cFn Tryz.prog 33 = some F_Z6.erase := by kernel_rfl
theorem k_Z6:callable Tryz.prog 33 = true := by kernel_rfl
def F_Zk:TFn := ⟨31,2,[.tmp 4],(.seq (.reg [(oQ 2 (.box 0 (.t 0))),(oQ 3 (.box 1 (.t 1))),(oQ 4 (.mv cF))])
 (.seq (.seq (.reg [(fQ 6 0 2),(lQ 7 6),(hQ 8 7),(fQ 9 0 3),(lQ 10 9),(hQ 11 10),(bQ 12 .neq 8 11)])
 (.cond (.t 12) (.seq (.reg [(oQ 4 (.mv cF))])
 .ret) .skip))
 (.seq (.seq (.reg [(oQ 5 (.mv (iQ 0)))])
 (.block 0 (.loop [.v 5 tQ] [] [] (.seq (.seq (.reg [(mQ 13 5),(fQ 14 0 2),(lQ 15 14),(hQ 16 15),(bQ 17 .lss 13 16)])
 (.cond (.t 17) .skip (.exit 0)))
 (.seq (.block 1 (.seq (.regd [(fQ 20 0 2),(lQ 21 20),(mQ 22 5),(jQ 23 2 21 22),(nQ 24 2 23),(fQ 25 0 3),(lQ 26 25),(mQ 27 5),(jQ 28 2 26 27),(nQ 29 2 28),(oQ 30 (.eqa true 2 [(true,0),(true,1)] (.t 24) (.t 29)))] [(1,6),(4,6),(1,9),(4,9)] [])
 (.cond (.t 30) (.seq (.reg [(oQ 4 (.mv cF))])
 .ret) .skip)))
 (.reg [(mQ 18 5),(cQ 19 .add 18 1),(mQ 5 19)]))))))
 (.seq (.reg [(oQ 4 (.mv cT))])
 .ret))))⟩
def A_Zk:Nat→Ty := tyAt [.un,.un]
abbrev P_Zk:List PSh := [.agg (.sl pQ),.agg (.sl pQ)]
abbrev R_Zk:List PSh := [.one .bool]
theorem e_Zk:cFn Tryz.prog 34 = some F_Zk.erase := by kernel_rfl
theorem k_Zk:callable Tryz.prog 34 = true := by kernel_rfl
def F_Zi:TFn := ⟨26,0,[.tmp 4],(.seq (.reg [(oQ 4 (.mv cF))])
 (.seq (.seq (.reg [(mQ 6 0),(hQ 7 6),(mQ 8 1),(hQ 9 8),(bQ 10 .neq 7 9)])
 (.cond (.t 10) (.seq (.reg [(oQ 4 (.mv cF))])
 .ret) .skip))
 (.seq (.seq (.reg [(oQ 5 (.mv (iQ 0)))])
 (.block 0 (.loop [.v 5 tQ] [] [] (.seq (.seq (.reg [(mQ 11 5),(mQ 12 0),(hQ 13 12),(bQ 14 .lss 11 13)])
 (.cond (.t 14) .skip (.exit 0)))
 (.seq (.block 1 (.seq (.regd [(mQ 17 0),(mQ 18 5),(jQ 19 3 17 18),(nQ 20 3 19),(mQ 21 1),(mQ 22 5),(jQ 23 3 21 22),(nQ 24 3 23),(oQ 25 (.eqa true 3 [(true,0),(true,1),(true,2)] (.t 20) (.t 24)))] [(3,7)] [])
 (.cond (.t 25) (.seq (.reg [(oQ 4 (.mv cF))])
 .ret) .skip)))
 (.reg [(mQ 15 5),(cQ 16 .add 15 1),(mQ 5 16)]))))))
 (.seq (.reg [(oQ 4 (.mv cT))])
 .ret))))⟩
def A_Zi:Nat→Ty := tyAt []
abbrev P_Zi:List PSh := [.one (.sl (.pr tQ pQ)),.one (.sl (.pr tQ pQ))]
abbrev R_Zi:List PSh := [.one .bool]
theorem e_Zi:cFn Tryz.prog 35 = some F_Zi.erase := by kernel_rfl
theorem k_Zi:callable Tryz.prog 35 = true := by kernel_rfl
def F_Zw:TFn := ⟨11,2,[.tmp 2],(.seq (.reg [(oQ 1 (.box 0 (.t 0))),(oQ 2 (.mv (iQ 0)))])
 (.seq (.reg [(nQ 6 1 1),(kQ 7 1 104 [(.t 6)]),(mQ 5 7),(oQ 8 (.ext 0 (.t 5))),(oQ 9 (.ext 1 (.t 5))),(mQ 3 8),(mQ 4 9)])
 (.seq (.reg [(mQ 10 4),(mQ 2 10)])
 .ret)))⟩
def A_Zw:Nat→Ty := tyAt [.un,.un]
abbrev P_Zw:List PSh := [.agg (.sl pQ)]
abbrev R_Zw:List PSh := [.one tQ]
theorem e_Zw:cFn Tryz.prog 36 = some F_Zw.erase := by kernel_rfl
theorem k_Zw:callable Tryz.prog 36 = true := by kernel_rfl
def F_Zx:TFn := ⟨11,1,[.tmp 2],(.seq (.reg [(oQ 2 (.mv (iQ 0)))])
 (.seq (.reg [(mQ 6 0),(kQ 7 0 105 [(.t 6)]),(mQ 5 7),(oQ 8 (.ext 0 (.t 5))),(oQ 9 (.ext 1 (.t 5))),(mQ 3 8),(mQ 4 9)])
 (.seq (.reg [(mQ 10 4),(mQ 2 10)])
 .ret)))⟩
def A_Zx:Nat→Ty := tyAt [.un]
abbrev P_Zx:List PSh := [.one (.sl (.pr tQ pQ))]
abbrev R_Zx:List PSh := [.one tQ]
theorem e_Zx:cFn Tryz.prog 37 = some F_Zx.erase := by kernel_rfl
theorem k_Zx:callable Tryz.prog 37 = true := by kernel_rfl
def F_Z1b:TFn := ⟨26,0,[.tmp 4],(.seq (.reg [(oQ 4 (.mv cF))])
 (.seq (.seq (.reg [(mQ 6 0),(hQ 7 6),(mQ 8 1),(hQ 9 8),(bQ 10 .neq 7 9)])
 (.cond (.t 10) (.seq (.reg [(oQ 4 (.mv cF))])
 .ret) .skip))
 (.seq (.seq (.reg [(oQ 5 (.mv (iQ 0)))])
 (.block 0 (.loop [.v 5 tQ] [] [] (.seq (.seq (.reg [(mQ 11 5),(mQ 12 0),(hQ 13 12),(bQ 14 .lss 11 13)])
 (.cond (.t 14) .skip (.exit 0)))
 (.seq (.block 1 (.seq (.regd [(mQ 17 0),(mQ 18 5),(jQ 19 1 17 18),(lQ 20 19),(mQ 21 1),(mQ 22 5),(jQ 23 1 21 22),(lQ 24 23),(bQ 25 .neq 20 24)] [(3,7)] [])
 (.cond (.t 25) (.seq (.reg [(oQ 4 (.mv cF))])
 .ret) .skip)))
 (.reg [(mQ 15 5),(cQ 16 .add 15 1),(mQ 5 16)]))))))
 (.seq (.reg [(oQ 4 (.mv cT))])
 .ret))))⟩
theorem e_Z1b:cFn Tryz.prog 48 = some F_Z1b.erase := by kernel_rfl
def F_Z1c:TFn := ⟨24,8,[.celln 4 2,.tmp 5],(.seq (.reg [(oQ 2 (.box 0 (.t 0))),(oQ 4 (.newz 1 [zQ,zQ])),(oQ 5 (.mv (iQ 0)))])
 (.seq (.seq (.reg [(nQ 7 1 2),(kQ 8 2 98 [(.t 7)]),(mQ 9 1),(kQ 10 3 122 [(.t 9)]),(oQ 11 (.bsl false 4 1 2 [zQ,zQ] [(0,1,(.t 8)),(1,1,(.t 10))])),(kQ 12 5 121 [(.t 11)]),(mQ 6 12)])
 (.seq (.reg [(mQ 13 6),(cQ 14 .neq 13 0)])
 (.cond (.t 14) (.seq (.reg [(oQ 15 (.build [zQ,zQ] [])),(mQ 16 6),(sQ 2 4 15),(mQ 5 16)])
 .ret) .skip)))
 (.seq (.reg [(fQ 17 0 2),(lQ 18 17),(mQ 19 1),(kQ 20 6 123 [(.t 18),(.t 19)]),(kQ 21 7 124 [(.t 20)]),(oQ 22 (.ext 0 (.t 21))),(oQ 23 (.ext 1 (.t 21))),(sQ 2 4 22),(mQ 5 23)])
 .ret)))⟩
theorem e_Z1c:cFn Tryz.prog 58 = some F_Z1c.erase := by kernel_rfl
def F_Z10:TFn := ⟨6,1,[.tmp 2],(.seq (.reg [(oQ 2 (.mv (iQ 0)))])
 (.seq (.seq (.reg [(mQ 3 0),(kQ 4 0 8 [(.t 3),(iQ 1),(iQ 20)]),(oQ 5 (.unot (.t 4)))])
 (.cond (.t 5) (.seq (.reg [(oQ 2 (.mv (iQ 2)))])
 .ret) .skip))
 (.seq (.reg [(oQ 2 (.mv (iQ 0)))])
 .ret)))⟩
def A_Z10:Nat→Ty := tyAt [.un]
abbrev P_Z10:List PSh := [.one tQ]
abbrev R_Z10:List PSh := [.one tQ]
theorem e_Z10:cFn Tryz.prog 59 = some F_Z10.erase := by kernel_rfl
theorem k_Z10:callable Tryz.prog 59 = true := by kernel_rfl
def F_Z1d:TFn := ⟨20,4,[.tmp 4,.tmp 5],(.seq (.reg [(oQ 2 (.box 0 (.t 0))),(oQ 4 (.mv (.c (.p (.sl 0 [] true))))),(oQ 5 (.mv (iQ 0)))])
 (.seq (.reg [(nQ 9 1 2),(mQ 10 1),(kQ 11 1 126 [(.t 9),(.t 10)]),(mQ 8 11),(oQ 12 (.ext 0 (.t 8))),(oQ 13 (.ext 1 (.t 8))),(oQ 6 (.newz 2 [(.p (.sl 0 [] true))])),(sQ 1 6 12),(mQ 7 13)])
 (.seq (.seq (.reg [(mQ 14 7),(cQ 15 .neq 14 0)])
 (.cond (.t 15) (.seq (.reg [(mQ 16 7),(oQ 4 (.mv (.c (.p (.sl 0 [] true))))),(mQ 5 16)])
 .ret) .skip))
 (.seq (.reg [(nQ 17 1 6),(mQ 18 1),(kQ 19 3 127 [(.t 17),(.t 18)]),(mQ 4 19),(oQ 5 (.mv (iQ 0)))])
 .ret))))⟩
theorem e_Z1d:cFn Tryz.prog 63 = some F_Z1d.erase := by kernel_rfl
def F_Z1e:TFn := ⟨64,12,[.celln 6 2,.tmp 7],(.seq (.reg [(oQ 3 (.box 0 (.t 0))),(oQ 6 (.newz 1 [zQ,zQ])),(oQ 7 (.mv (iQ 0)))])
 (.seq (.reg [(nQ 16 1 3),(mQ 17 1),(kQ 18 2 126 [(.t 16),(.t 17)]),(mQ 15 18),(oQ 19 (.ext 0 (.t 15))),(oQ 20 (.ext 1 (.t 15))),(oQ 8 (.newz 3 [(.p (.sl 0 [] true))])),(sQ 1 8 19),(mQ 9 20)])
 (.seq (.seq (.reg [(mQ 21 9),(mQ 22 2),(kQ 23 4 118 [(.t 22),(iQ 1),(iQ 20)]),(kQ 24 5 117 [(.t 23),(iQ 2)]),(oQ 25 (.bsl false 6 1 2 [zQ,zQ] [(0,1,(.t 21)),(1,1,(.t 24))])),(kQ 26 7 121 [(.t 25)]),(mQ 9 26)])
 (.seq (.reg [(mQ 27 9),(cQ 28 .neq 27 0)])
 (.cond (.t 28) (.seq (.reg [(oQ 29 (.build [zQ,zQ] [])),(mQ 30 9),(sQ 2 6 29),(mQ 7 30)])
 .ret) .skip)))
 (.seq (.reg [(nQ 31 1 8),(mQ 32 1),(kQ 33 8 127 [(.t 31),(.t 32)]),(mQ 10 33)])
 (.seq (.seq (.reg [(mQ 34 10),(hQ 35 34),(oQ 36 (.mv (iQ 0)))])
 (.block 0 (.loop [.v 36 tQ] [] [] (.seq (.reg [(bQ 37 .lss 36 35)])
 (.seq (.cond (.t 37) .skip (.exit 0))
 (.seq (.block 1 (.seq (.reg [(mQ 38 36),(jQ 39 1 34 36),(lQ 40 39),(mQ 11 38),(mQ 12 40)])
 (.seq (.reg [(mQ 41 10),(mQ 42 11),(cQ 43 .add 42 1),(oQ 44 (.sl 1 (.t 41) (some (.t 43)) none)),(hQ 45 44),(oQ 46 (.mv (iQ 0)))])
 (.block 2 (.loop [.v 46 tQ] [] [] (.seq (.reg [(bQ 47 .lss 46 45)])
 (.seq (.cond (.t 47) .skip (.exit 2))
 (.seq (.block 3 (.seq (.reg [(jQ 48 1 44 46),(lQ 49 48),(mQ 14 49)])
 (.seq (.regd [(nQ 50 1 8),(mQ 51 12),(kQ 52 9 120 [(.t 50),(.t 51)]),(nQ 53 1 8),(mQ 54 14),(kQ 55 10 120 [(.t 53),(.t 54)]),(mQ 56 2),(kQ 57 11 134 [(.t 52),(.t 55),(.t 56)])] [(0,3),(2,3)] [])
 (.cond (.t 57) (.seq (.reg [(mQ 58 12),(mQ 59 14),(oQ 60 (.build [zQ,zQ] [(0,1,(.t 58)),(1,1,(.t 59))])),(sQ 2 6 60),(oQ 7 (.mv (iQ 0)))])
 .ret) .skip))))
 (.reg [(cQ 61 .add 46 1),(mQ 46 61)])))))))))
 (.reg [(cQ 62 .add 36 1),(mQ 36 62)])))))))
 (.seq (.reg [(oQ 63 (.build [zQ,zQ] [])),(sQ 2 6 63),(oQ 7 (.mv (iQ 12)))])
 .ret))))))⟩
theorem e_Z1e:cFn Tryz.prog 68 = some F_Z1e.erase := by kernel_rfl
abbrev P_Z17:List PSh := [.one (.sl .str),.one .str]
abbrev R_Z17:List PSh := [.one .str]

theorem k_Z17:callable Tryz.prog 79 = true := by kernel_rfl
def F_Z1f:TFn := ⟨5,2,[.celln 0 1],(.seq (.reg [(oQ 0 (.newz 0 [(.p (.sl 0 [] true))]))])
 (.seq (.reg [(oQ 1 (.build [zQ,zQ] [(0,1,(iQ 4)),(1,1,(iQ 2))])),(oQ 2 (.build [zQ,zQ] [(0,1,(iQ 1))])),(oQ 3 (.bsl false 1 2 2 [zQ,zQ,zQ,zQ] [(0,2,(.t 1)),(2,2,(.t 2))])),(oQ 4 (.build [(.p (.sl 0 [] true))] [(0,1,(.t 3))])),(sQ 1 0 4)])
 .ret))⟩
theorem e_Z1f:cFn Tryz.prog 91 = some F_Z1f.erase := by kernel_rfl
def F_Z1g:TFn := ⟨9,6,[.celln 0 1],(.seq (.reg [(oQ 0 (.newz 0 [(.p (.sl 0 [] true))]))])
 (.seq (.reg [(oQ 1 (.bsl false 1 1 2 [zQ,zQ] [(0,1,(iQ 2)),(1,1,(iQ 4))])),(oQ 2 (.bsl false 2 1 2 [zQ,zQ] [(0,1,(iQ 2)),(1,1,(iQ 4))])),(oQ 3 (.build [(.p (.sl 0 [] true)),(.p (.sl 0 [] true))] [(0,1,(.t 1)),(1,1,(.t 2))])),(oQ 4 (.bsl false 3 1 2 [zQ,zQ] [(0,1,(iQ 1)),(1,1,(iQ 8))])),(oQ 5 (.bsl false 4 1 1 [zQ] [(0,1,(iQ 0))])),(oQ 6 (.build [(.p (.sl 0 [] true)),(.p (.sl 0 [] true))] [(0,1,(.t 4)),(1,1,(.t 5))])),(oQ 7 (.bsl false 5 2 2 [(.p (.sl 0 [] true)),(.p (.sl 0 [] true)),(.p (.sl 0 [] true)),(.p (.sl 0 [] true))] [(0,2,(.t 3)),(2,2,(.t 6))])),(oQ 8 (.build [(.p (.sl 0 [] true))] [(0,1,(.t 7))])),(sQ 1 0 8)])
 .ret))⟩
theorem e_Z1g:cFn Tryz.prog 92 = some F_Z1g.erase := by kernel_rfl
def F_Z1h:TFn := ⟨4,1,[.tmp 0],(.seq (.reg [(oQ 0 (.mv (.c (.p (.sl 0 [] true)))))])
 (.seq (.reg [(oQ 1 (.build [zQ,zQ] [(0,1,(iQ 2500)),(1,1,(iQ 3100))])),(oQ 2 (.build [zQ,zQ,zQ] [(0,1,(iQ 2)),(1,2,(.t 1))])),(oQ 3 (.bsl false 0 3 1 [zQ,zQ,zQ] [(0,3,(.t 2))])),(mQ 0 3)])
 .ret))⟩
theorem e_Z1h:cFn Tryz.prog 93 = some F_Z1h.erase := by kernel_rfl
def F_Z1i:TFn := ⟨33,11,[.cell1 4,.cell1 5],(.seq (.reg [(oQ 2 (.box 0 (.t 0))),(oQ 3 (.box 1 (.t 1))),(oQ 4 (.newz 2 [zQ])),(oQ 5 (.newz 3 [zQ]))])
 (.seq (.reg [(nQ 11 1 2),(kQ 12 4 116 [(.t 11)]),(mQ 10 12),(oQ 13 (.ext 0 (.t 10))),(oQ 14 (.ext 1 (.t 10))),(oQ 6 (.newz 5 [(.p (.sl 0 [] true))])),(sQ 1 6 13),(mQ 7 14)])
 (.seq (.seq (.reg [(mQ 15 7),(nQ 16 1 3),(kQ 17 6 98 [(.t 16)]),(oQ 18 (.bsl false 7 1 2 [zQ,zQ] [(0,1,(.t 15)),(1,1,(.t 17))])),(kQ 19 8 121 [(.t 18)]),(mQ 7 19)])
 (.seq (.reg [(mQ 20 7),(cQ 21 .neq 20 0)])
 (.cond (.t 21) (.seq (.reg [(mQ 22 7),(uQ (.st 1 (.t 4) (iQ 0))),(sQ 1 5 22)])
 .ret) .skip)))
 (.seq (.seq (.reg [(nQ 23 1 6),(oQ 24 (.bnd 1000000131 (.t 23)))])
 (.block 0 (.rng (.t 24) [25,26] [25,26,8,9,27,28,29,30,31,32] [] [9] [9] (.seq (.reg [(mQ 8 25)])
 (.reg [(oQ 9 (.newz 9 [(.p (.sl 0 [] true))])),(sQ 1 9 26)]))
 (.block 1 (.seq (.reg [(fQ 27 0 9),(lQ 28 27),(fQ 29 0 3),(lQ 30 29),(kQ 31 10 150 [(.t 28),(.t 30)])])
 (.cond (.t 31) (.seq (.reg [(mQ 32 8),(sQ 1 4 32),(uQ (.st 1 (.t 5) (iQ 0)))])
 .ret) .skip))))))
 (.seq (.reg [(uQ (.st 1 (.t 4) (iQ 0))),(uQ (.st 1 (.t 5) (iQ 6)))])
 .ret)))))⟩
theorem e_Z1i:cFn Tryz.prog 94 = some F_Z1i.erase := by kernel_rfl
abbrev P_Z16:List PSh := [.one tQ]
abbrev R_Z16:List PSh := [.one .str]

theorem k_Z16:callable Tryz.prog 95 = true := by kernel_rfl
abbrev P_Z18:List PSh := [.one .str,.one .str]
abbrev R_Z18:List PSh := [.one (.sl .str)]

def F_Z2:TFn := ⟨65,7,[.tmp 4,.tmp 5],(.seq (.reg [(oQ 4 (.mv (.c (.p (.sl 0 [] true))))),(oQ 5 (.mv cF))])
 (.seq (.reg [(oQ 6 (.mv (.c (.p (.sl 0 [] true)))))])
 (.seq (.seq (.reg [(mQ 14 1),⟨some 15,none,(.op (.bsl false 0 1 1 [(.p (.str ⟨#[]⟩))] [(0,1,(.c (.p (.str ⟨#[]⟩))))]))⟩,(oQ 16 (.app 1 1 16 (.t 14) (.t 15))),(hQ 17 16),(oQ 18 (.mv (iQ 0)))])
 (.block 0 (.loop [.v 18 tQ,.o 6 6 tQ,.v 0 .str] [6] [6] (.seq (.reg [(bQ 19 .lss 18 17)])
 (.seq (.cond (.t 19) .skip (.exit 0))
 (.seq (.block 1 (.seq (.reg [(jQ 20 1 16 18),(lQ 21 20),(mQ 8 21)])
 (.seq (.reg [(mQ 22 0),(mQ 9 22),⟨some 10,none,(.op (.mv (.c (.p (.str ⟨#[]⟩)))))⟩,(oQ 11 (.mv cT))])
 (.seq (.seq (.reg [(mQ 23 8),⟨some 24,none,(.op (.scmp true (.t 23) (.c (.p (.str ⟨#[]⟩)))))⟩])
 (.cond (.t 24) (.reg [(mQ 26 0),(mQ 27 8),(kQ 28 2 153 [(.t 26),(.t 27)]),(mQ 25 28),(oQ 29 (.ext 0 (.t 25))),(oQ 30 (.ext 1 (.t 25))),(oQ 31 (.ext 2 (.t 25))),(mQ 9 29),(mQ 10 30),(mQ 11 31)]) .skip))
 (.seq (.reg [(mQ 33 9),(kQ 34 3 141 [(.t 33)]),(mQ 32 34),(oQ 35 (.ext 0 (.t 32))),(oQ 36 (.ext 1 (.t 32))),(mQ 12 35),(mQ 13 36)])
 (.seq (.seq (.reg [(mQ 37 11),(oQ 38 (.unot (.t 37))),(mQ 39 38),(vQ 40 39 false 13),(gQ 41 39 false (.isi true (.t 40))),(oQ 42 (.pick (.t 39) cT (.t 41))),(mQ 43 42),(vQ 44 43 false 12),(gQ 45 43 false (.bin .lss (.t 44) (iQ 0))),(oQ 46 (.pick (.t 43) cT (.t 45))),(mQ 47 46),(vQ 48 47 false 12),⟨some 49,some (some 47,false),(.call 4 95 [(.t 48)])⟩,(vQ 50 47 false 9),(gQ 51 47 false (.scmp true (.t 49) (.t 50))),(oQ 52 (.pick (.t 47) cT (.t 51))),(mQ 53 52),(vQ 54 53 false 9),(gQ 55 53 false (.len true (.t 54))),(gQ 56 53 false (.bin .gtr (.t 55) (iQ 6))),(oQ 57 (.pick (.t 53) cT (.t 56)))])
 (.cond (.t 57) (.seq (.reg [(oQ 4 (.mv (.c (.p (.sl 0 [] true))))),(oQ 5 (.mv cF))])
 .ret) .skip))
 (.seq (.reg [(mQ 58 6),(mQ 59 12),(oQ 60 (.bsl false 5 1 1 [zQ] [(0,1,(.t 59))])),(oQ 61 (.app 6 1 8 (.t 58) (.t 60))),(mQ 6 61)])
 (.reg [(mQ 62 10),(mQ 0 62)]))))))))
 (.reg [(cQ 63 .add 18 1),(mQ 18 63)])))))))
 (.seq (.reg [(mQ 64 6),(mQ 4 64),(oQ 5 (.mv cT))])
 .ret))))⟩
def A_Z2:Nat→Ty := tyAt [.str,.str,.un,.un,.un,tQ,tQ]
abbrev P_Z2:List PSh := [.one .str,.fl .str]
abbrev R_Z2:List PSh := [.one (.sl tQ),.one .bool]
theorem e_Z2:cFn Tryz.prog 97 = some F_Z2.erase := by kernel_rfl
theorem k_Z2:callable Tryz.prog 97 = true := by kernel_rfl
def F_Zq:TFn := ⟨11,2,[.tmp 2],(.seq (.reg [(oQ 1 (.box 0 (.t 0))),(oQ 2 (.mv (iQ 0)))])
 (.seq (.reg [(nQ 6 1 1),(kQ 7 1 154 [(.t 6)]),(mQ 5 7),(oQ 8 (.ext 0 (.t 5))),(oQ 9 (.ext 1 (.t 5))),(mQ 3 8),(mQ 4 9)])
 (.seq (.reg [(mQ 10 4),(mQ 2 10)])
 .ret)))⟩
def A_Zq:Nat→Ty := tyAt [.un,.un]
abbrev P_Zq:List PSh := [.agg (.sl pQ)]
abbrev R_Zq:List PSh := [.one tQ]
theorem e_Zq:cFn Tryz.prog 98 = some F_Zq.erase := by kernel_rfl
theorem k_Zq:callable Tryz.prog 98 = true := by kernel_rfl
def F_Zr:TFn := ⟨11,1,[.tmp 2],(.seq (.reg [(oQ 2 (.mv (iQ 0)))])
 (.seq (.reg [(mQ 6 0),(kQ 7 0 155 [(.t 6)]),(mQ 5 7),(oQ 8 (.ext 0 (.t 5))),(oQ 9 (.ext 1 (.t 5))),(mQ 3 8),(mQ 4 9)])
 (.seq (.reg [(mQ 10 4),(mQ 2 10)])
 .ret)))⟩
def A_Zr:Nat→Ty := tyAt [.un]
abbrev P_Zr:List PSh := [.one (.sl (.pr tQ pQ))]
abbrev R_Zr:List PSh := [.one tQ]
theorem e_Zr:cFn Tryz.prog 99 = some F_Zr.erase := by kernel_rfl
theorem k_Zr:callable Tryz.prog 99 = true := by kernel_rfl
def F_Zl:TFn := ⟨34,4,[.tmp 4],(.seq (.reg [(oQ 4 (.mv (.c (.p (.sl 0 [] true)))))])
 (.seq (.reg [(oQ 5 (.mv (.c (.p (.sl 0 [] true)))))])
 (.seq (.reg [(oQ 6 (.mv (iQ 0)))])
 (.seq (.seq (.reg [(oQ 7 (.mv (iQ 0)))])
 (.block 0 (.loop [.v 7 tQ,.v 6 tQ,.o 5 1 .str] [1] [1] (.seq (.seq (.reg [(mQ 8 7),(mQ 9 0),(oQ 10 (.len true (.t 9))),(bQ 11 .lss 8 10)])
 (.cond (.t 11) .skip (.exit 0)))
 (.seq (.block 1 (.seq (.reg [(mQ 14 0),(mQ 15 7),(oQ 16 (.six (.t 14) (.t 15))),(mQ 17 1),(bQ 18 .eql 16 17)])
 (.cond (.t 18) (.seq (.reg [(mQ 19 5),(mQ 20 0),(mQ 21 6),(mQ 22 7),(oQ 23 (.ssl (.t 20) (some (.t 21)) (some (.t 22)))),⟨some 24,none,(.op (.bsl false 0 1 1 [(.p (.str ⟨#[]⟩))] [(0,1,(.t 23))]))⟩,(oQ 25 (.app 1 1 16 (.t 19) (.t 24))),(mQ 5 25)])
 (.reg [(mQ 26 7),(cQ 27 .add 26 1),(mQ 6 27)])) .skip)))
 (.reg [(mQ 12 7),(cQ 13 .add 12 1),(mQ 7 13)]))))))
 (.seq (.reg [(mQ 28 5),(mQ 29 0),(mQ 30 6),(oQ 31 (.ssl (.t 29) (some (.t 30)) none)),⟨some 32,none,(.op (.bsl false 2 1 1 [(.p (.str ⟨#[]⟩))] [(0,1,(.t 31))]))⟩,(oQ 33 (.app 3 1 16 (.t 28) (.t 32))),(mQ 4 33)])
 .ret)))))⟩
def A_Zl:Nat→Ty := tyAt [.str,.str,.str,.str]
abbrev P_Zl:List PSh := [.one .str,.one (.int .u8)]
abbrev R_Zl:List PSh := [.one (.sl .str)]
theorem e_Zl:cFn Tryz.prog 100 = some F_Zl.erase := by kernel_rfl
theorem k_Zl:callable Tryz.prog 100 = true := by kernel_rfl
def F_Zn:TFn := ⟨38,3,[.tmp 4,.tmp 5,.tmp 6],(.seq (.reg [(oQ 4 (.mv (iQ 0))),(oQ 5 (.mv (iQ 0))),(oQ 6 (.mv cF))])
 (.seq (.reg [(mQ 12 0),(mQ 13 1),(kQ 14 0 100 [(.t 12),(.t 13)]),(mQ 7 14)])
 (.seq (.seq (.reg [(mQ 15 7),(hQ 16 15),(cQ 17 .neq 16 2)])
 (.cond (.t 17) (.seq (.reg [(oQ 4 (.mv (iQ 0))),(oQ 5 (.mv (iQ 0))),(oQ 6 (.mv cF))])
 .ret) .skip))
 (.seq (.reg [(mQ 19 7),(oQ 20 (.ia 1 (.t 19) (iQ 0))),(lQ 21 20),(kQ 22 1 102 [(.t 21)]),(mQ 18 22),(oQ 23 (.ext 0 (.t 18))),(oQ 24 (.ext 1 (.t 18))),(mQ 8 23),(mQ 9 24)])
 (.seq (.reg [(mQ 26 7),(oQ 27 (.ia 1 (.t 26) (iQ 1))),(lQ 28 27),(kQ 29 2 102 [(.t 28)]),(mQ 25 29),(oQ 30 (.ext 0 (.t 25))),(oQ 31 (.ext 1 (.t 25))),(mQ 10 30),(mQ 11 31)])
 (.seq (.reg [(mQ 32 8),(mQ 33 10),(mQ 34 9),(mQ 35 34),(vQ 36 35 true 11),(oQ 37 (.pick (.t 35) (.t 36) cF)),(mQ 4 32),(mQ 5 33),(mQ 6 37)])
 .ret))))))⟩
def A_Zn:Nat→Ty := tyAt [.un,.un,.un]
abbrev P_Zn:List PSh := [.one .str,.one (.int .u8)]
abbrev R_Zn:List PSh := [.one tQ,.one tQ,.one .bool]
theorem e_Zn:cFn Tryz.prog 101 = some F_Zn.erase := by kernel_rfl
theorem k_Zn:callable Tryz.prog 101 = true := by kernel_rfl
def F_Zp:TFn := ⟨18,1,[.tmp 2,.tmp 3],(.seq (.reg [(oQ 2 (.mv (iQ 0))),(oQ 3 (.mv cF))])
 (.seq (.reg [(mQ 7 0),(kQ 8 0 156 [(.t 7),(iQ 6)]),(mQ 6 8),(oQ 9 (.ext 0 (.t 6))),(oQ 10 (.ext 1 (.t 6))),(mQ 4 9),(mQ 5 10)])
 (.seq (.regd [(mQ 11 4),(mQ 12 5),(mQ 13 12),(vQ 14 13 true 0),(gQ 15 13 true (.six (.t 14) (iQ 0))),(gQ 16 13 true (.bin .neq (.t 15) (.c (.p (.int .u8 45))))),(oQ 17 (.pick (.t 13) (.t 16) cF)),(mQ 2 11),(mQ 3 17)] [] [])
 .ret)))⟩
def A_Zp:Nat→Ty := tyAt [.un]
abbrev P_Zp:List PSh := [.one .str]
abbrev R_Zp:List PSh := [.one tQ,.one .bool]
theorem e_Zp:cFn Tryz.prog 102 = some F_Zp.erase := by kernel_rfl
theorem k_Zp:callable Tryz.prog 102 = true := by kernel_rfl
def F_Zf:TFn := ⟨27,2,[.tmp 2],(.seq (.reg [⟨some 2,none,(.op (.mv (.c (.p (.str ⟨#[]⟩)))))⟩])
 (.seq (.seq (.reg [(mQ 6 0),(cQ 7 .eql 6 0)])
 (.cond (.t 7) (.seq (.reg [⟨some 2,none,(.op (.mv (.c (.p (.str ⟨#[48]⟩)))))⟩])
 .ret) .skip))
 (.seq (.reg [⟨some 3,none,(.op (.mv (.c (.p (.str ⟨#[]⟩)))))⟩,⟨some 4,none,(.op (.mv (.c (.p (.str ⟨#[]⟩)))))⟩])
 (.seq (.seq (.reg [(mQ 8 0),(cQ 9 .lss 8 0)])
 (.cond (.t 9) (.reg [⟨some 4,none,(.op (.mv (.c (.p (.str ⟨#[45]⟩)))))⟩]) .skip))
 (.seq (.block 0 (.loop [.v 0 tQ,.v 3 .str] [] [] (.seq (.seq (.reg [(mQ 10 0),(cQ 11 .neq 10 0)])
 (.cond (.t 11) .skip (.exit 0)))
 (.block 1 (.seq (.reg [(mQ 12 0),(cQ 13 .rem 12 10),(mQ 5 13)])
 (.seq (.reg [(mQ 14 5),(kQ 15 0 135 [(.t 14)]),(oQ 16 (.bin .add (iQ 48) (.t 15))),(oQ 17 (.conv .u8 (.t 16))),(oQ 18 (.bsl false 1 1 1 [(.p (.int .u8 0))] [(0,1,(.t 17))])),(oQ 19 (.sof (.t 18))),(mQ 20 3),(oQ 21 (.sadd (.t 19) (.t 20))),(mQ 3 21)])
 (.reg [(mQ 22 0),(cQ 23 .quo 22 10),(mQ 0 23)])))))))
 (.seq (.reg [(mQ 24 4),(mQ 25 3),(oQ 26 (.sadd (.t 24) (.t 25))),(mQ 2 26)])
 .ret))))))⟩
def A_Zf:Nat→Ty := tyAt [.un,(.int .u8)]
abbrev P_Zf:List PSh := [.one tQ]
abbrev R_Zf:List PSh := [.one .str]
theorem e_Zf:cFn Tryz.prog 103 = some F_Zf.erase := by kernel_rfl
theorem k_Zf:callable Tryz.prog 103 = true := by kernel_rfl
def F_Z7:TFn := ⟨55,3,[.tmp 2,.tmp 3],(.seq (.reg [(oQ 1 (.box 0 (.t 0))),(oQ 2 (.mv (iQ 0))),(oQ 3 (.mv (iQ 0)))])
 (.seq (.seq (.reg [(fQ 5 0 1),(lQ 6 5),(hQ 7 6),(cQ 8 .eql 7 0)])
 (.cond (.t 8) (.seq (.reg [(oQ 2 (.mv (iQ 0))),(oQ 3 (.mv (iQ 10)))])
 .ret) .skip))
 (.seq (.seq (.reg [(fQ 9 0 1),(lQ 10 9),(hQ 11 10),(cQ 12 .gtr 11 4)])
 (.cond (.t 12) (.seq (.reg [(oQ 2 (.mv (iQ 0))),(oQ 3 (.mv (iQ 8)))])
 .ret) .skip))
 (.seq (.seq (.reg [(oQ 4 (.mv (iQ 0)))])
 (.block 0 (.loop [.v 4 tQ] [] [] (.seq (.seq (.reg [(mQ 13 4),(fQ 14 0 1),(lQ 15 14),(hQ 16 15),(bQ 17 .lss 13 16)])
 (.cond (.t 17) .skip (.exit 0)))
 (.seq (.block 1 (.seq (.seq (.reg [(fQ 20 0 1),(lQ 21 20),(mQ 22 4),(jQ 23 2 21 22),(fQ 24 0 23),(lQ 25 24),(kQ 26 1 157 [(.t 25)]),(oQ 27 (.unot (.t 26))),(mQ 28 27),(gQ 29 28 false (.fa 0 (.t 1))),(gQ 30 28 false (.ld1 (.t 29))),(vQ 31 28 false 4),(gQ 32 28 false (.ia 2 (.t 30) (.t 31))),(gQ 33 28 false (.fa 1 (.t 32))),(gQ 34 28 false (.ld1 (.t 33))),⟨some 35,some (some 28,false),(.call 2 158 [(.t 34)])⟩,(gQ 36 28 false (.unot (.t 35))),(oQ 37 (.pick (.t 28) cT (.t 36)))])
 (.cond (.t 37) (.seq (.reg [(mQ 38 4),(mQ 2 38),(oQ 3 (.mv (iQ 2)))])
 .ret) .skip))
 (.seq (.reg [(mQ 39 4),(fQ 40 0 1),(lQ 41 40),(hQ 42 41),(cQ 43 .sub 42 1),(bQ 44 .eql 39 43),(mQ 45 44),(gQ 46 45 true (.fa 0 (.t 1))),(gQ 47 45 true (.ld1 (.t 46))),(vQ 48 45 true 4),(gQ 49 45 true (.ia 2 (.t 47) (.t 48))),(gQ 50 45 true (.fa 1 (.t 49))),(gQ 51 45 true (.ld1 (.t 50))),(gQ 52 45 true (.bin .neq (.t 51) (iQ 0))),(oQ 53 (.pick (.t 45) (.t 52) cF))])
 (.cond (.t 53) (.seq (.reg [(mQ 54 4),(mQ 2 54),(oQ 3 (.mv (iQ 3)))])
 .ret) .skip))))
 (.reg [(mQ 18 4),(cQ 19 .add 18 1),(mQ 4 19)]))))))
 (.seq (.reg [(oQ 2 (.mv (iQ 0))),(oQ 3 (.mv (iQ 0)))])
 .ret)))))⟩
def A_Z7:Nat→Ty := tyAt [.un,.un,.un]
abbrev P_Z7:List PSh := [.agg (.sl pQ)]
abbrev R_Z7:List PSh := [.one tQ,.one tQ]
theorem e_Z7:cFn Tryz.prog 104 = some F_Z7.erase := by kernel_rfl
theorem k_Z7:callable Tryz.prog 104 = true := by kernel_rfl
def F_Z1:TFn := ⟨77,3,[.tmp 2,.tmp 3],(.seq (.reg [(oQ 2 (.mv (iQ 0))),(oQ 3 (.mv (iQ 0)))])
 (.seq (.seq (.reg [(mQ 5 0),(hQ 6 5),(cQ 7 .eql 6 0)])
 (.cond (.t 7) (.seq (.reg [(oQ 2 (.mv (iQ 0))),(oQ 3 (.mv (iQ 10)))])
 .ret) .skip))
 (.seq (.seq (.reg [(mQ 8 0),(hQ 9 8),(cQ 10 .gtr 9 6)])
 (.cond (.t 10) (.seq (.reg [(oQ 2 (.mv (iQ 0))),(oQ 3 (.mv (iQ 8)))])
 .ret) .skip))
 (.seq (.seq (.reg [(oQ 4 (.mv (iQ 0)))])
 (.block 0 (.loop [.v 4 tQ] [] [] (.seq (.seq (.reg [(mQ 11 4),(mQ 12 0),(hQ 13 12),(bQ 14 .lss 11 13)])
 (.cond (.t 14) .skip (.exit 0)))
 (.seq (.block 1 (.seq (.seq (.reg [(mQ 17 0),(mQ 18 4),(jQ 19 3 17 18),(fQ 20 0 19),(lQ 21 20),(kQ 22 0 59 [(.t 21)]),(cQ 23 .neq 22 0),(mQ 24 23),(vQ 25 24 false 0),(vQ 26 24 false 4),(gQ 27 24 false (.ia 3 (.t 25) (.t 26))),(gQ 28 24 false (.fa 1 (.t 27))),(gQ 29 24 false (.fa 0 (.t 28))),(gQ 30 24 false (.ld1 (.t 29))),⟨some 31,some (some 24,false),(.call 1 8 [(.t 30),(iQ 0),(iQ 100000)])⟩,(gQ 32 24 false (.unot (.t 31))),(oQ 33 (.pick (.t 24) cT (.t 32))),(mQ 34 33),(vQ 35 34 false 0),(vQ 36 34 false 4),(gQ 37 34 false (.ia 3 (.t 35) (.t 36))),(gQ 38 34 false (.fa 1 (.t 37))),(gQ 39 34 false (.fa 1 (.t 38))),(gQ 40 34 false (.ld1 (.t 39))),⟨some 41,some (some 34,false),(.call 2 8 [(.t 40),(iQ 0),(iQ 100000)])⟩,(gQ 42 34 false (.unot (.t 41))),(oQ 43 (.pick (.t 34) cT (.t 42)))])
 (.cond (.t 43) (.seq (.reg [(mQ 44 4),(mQ 2 44),(oQ 3 (.mv (iQ 2)))])
 .ret) .skip))
 (.seq (.regd [(mQ 45 0),(mQ 46 4),(jQ 47 3 45 46),(fQ 48 1 47),(fQ 49 0 48),(lQ 50 49),(mQ 51 0),(mQ 52 4),(jQ 53 3 51 52),(fQ 54 1 53),(fQ 55 1 54),(lQ 56 55),(bQ 57 .gtr 50 56),(mQ 58 57),(vQ 59 58 false 4),(gQ 60 58 false (.bin .gtr (.t 59) (iQ 0))),(vQ 61 58 false 60),(vQ 62 61 true 0),(vQ 63 61 true 4),(gQ 64 61 true (.ia 3 (.t 62) (.t 63))),(gQ 65 61 true (.fa 0 (.t 64))),(gQ 66 61 true (.ld1 (.t 65))),(vQ 67 61 true 0),(vQ 68 61 true 4),(gQ 69 61 true (.bin .sub (.t 68) (iQ 1))),(gQ 70 61 true (.ia 3 (.t 67) (.t 69))),(gQ 71 61 true (.fa 0 (.t 70))),(gQ 72 61 true (.ld1 (.t 71))),(gQ 73 61 true (.bin .leq (.t 66) (.t 72))),(gQ 74 58 false (.pick (.t 61) (.t 73) cF)),(oQ 75 (.pick (.t 58) cT (.t 74)))] [(5,11),(21,27)] [])
 (.cond (.t 75) (.seq (.reg [(mQ 76 4),(mQ 2 76),(oQ 3 (.mv (iQ 9)))])
 .ret) .skip))))
 (.reg [(mQ 15 4),(cQ 16 .add 15 1),(mQ 4 16)]))))))
 (.seq (.reg [(oQ 2 (.mv (iQ 0))),(oQ 3 (.mv (iQ 0)))])
 .ret)))))⟩
def A_Z1:Nat→Ty := tyAt [.un,.un,.un]
abbrev P_Z1:List PSh := [.one (.sl (.pr tQ pQ))]
abbrev R_Z1:List PSh := [.one tQ,.one tQ]
theorem e_Z1:cFn Tryz.prog 105 = some F_Z1.erase := by kernel_rfl
theorem k_Z1:callable Tryz.prog 105 = true := by kernel_rfl
def F_Z1j:TFn := ⟨14,3,[.celln 2 1,.tmp 3],(.seq (.reg [(oQ 1 (.box 0 (.t 0))),(oQ 2 (.newz 1 [(.p (.sl 0 [] true))])),(oQ 3 (.mv (iQ 0)))])
 (.seq (.reg [(nQ 7 1 1),(kQ 8 2 172 [(.t 7)]),(mQ 6 8),(oQ 9 (.ext 0 (.t 6))),(oQ 10 (.ext 1 (.t 6))),(mQ 4 9),(mQ 5 10)])
 (.seq (.reg [(nQ 11 1 1),(oQ 12 (.build [(.p (.sl 0 [] true))] [(0,1,(.t 11))])),(mQ 13 5),(sQ 1 2 12),(mQ 3 13)])
 .ret)))⟩
theorem e_Z1j:cFn Tryz.prog 116 = some F_Z1j.erase := by kernel_rfl
def F_Z1k:TFn := ⟨25,2,[.tmp 2],(.seq (.reg [(oQ 1 (.box 0 (.t 0))),(oQ 2 (.mv (iQ 0)))])
 (.seq (.reg [(oQ 3 (.mv (iQ 1)))])
 (.seq (.seq (.reg [(fQ 6 0 1),(fQ 7 0 6),(lQ 8 7),(hQ 9 8),(oQ 10 (.mv (iQ 0)))])
 (.block 0 (.loop [.v 10 tQ,.v 3 tQ] [1] [1] (.seq (.reg [(bQ 11 .lss 10 9)])
 (.seq (.cond (.t 11) .skip (.exit 0))
 (.seq (.block 1 (.seq (.reg [(jQ 12 2 8 10),(nQ 13 2 12),(oQ 5 (.newz 1 [(.p (.sl 0 [] true)),(.p (.sl 0 [] true))])),(sQ 2 5 13)])
 (.reg [(mQ 14 3),(fQ 15 0 5),(lQ 16 15),(hQ 17 16),(fQ 18 1 5),(lQ 19 18),(hQ 20 19),(bQ 21 .mul 17 20),(bQ 22 .mul 14 21),(mQ 3 22)])))
 (.reg [(cQ 23 .add 10 1),(mQ 10 23)])))))))
 (.seq (.reg [(mQ 24 3),(mQ 2 24)])
 .ret))))⟩
theorem e_Z1k:cFn Tryz.prog 119 = some F_Z1k.erase := by kernel_rfl
def F_Zg:TFn := ⟨15,0,[.tmp 6],(.seq (.reg [(oQ 6 (.mv cF))])
 (.seq (.reg [(mQ 7 1),(mQ 8 0),(bQ 9 .leq 7 8),(mQ 10 9),(vQ 11 10 true 0),(vQ 12 10 true 2),(gQ 13 10 true (.bin .leq (.t 11) (.t 12))),(oQ 14 (.pick (.t 10) (.t 13) cF)),(mQ 6 14)])
 .ret))⟩
def A_Zg:Nat→Ty := tyAt []
abbrev P_Zg:List PSh := [.one tQ,.one tQ,.one tQ]
abbrev R_Zg:List PSh := [.one .bool]
theorem e_Zg:cFn Tryz.prog 118 = some F_Zg.erase := by kernel_rfl
theorem k_Zg:callable Tryz.prog 118 = true := by kernel_rfl
def F_Z8:TFn := ⟨7,0,[.tmp 4],(.seq (.reg [(oQ 4 (.mv (iQ 0)))])
 (.seq (.seq (.reg [(mQ 5 0)])
 (.cond (.t 5) (.seq (.reg [(oQ 4 (.mv (iQ 0)))])
 .ret) .skip))
 (.seq (.reg [(mQ 6 1),(mQ 4 6)])
 .ret)))⟩
def A_Z8:Nat→Ty := tyAt []
abbrev P_Z8:List PSh := [.one .bool,.one tQ]
abbrev R_Z8:List PSh := [.one tQ]
theorem e_Z8:cFn Tryz.prog 117 = some F_Z8.erase := by kernel_rfl
theorem k_Z8:callable Tryz.prog 117 = true := by kernel_rfl
def F_Z1l:TFn := ⟨39,10,[.celln 4 1],(.seq (.reg [(oQ 2 (.box 0 (.t 0))),(oQ 3 (.box 1 (.t 1))),(oQ 4 (.newz 2 [(.p (.sl 0 [] true))]))])
 (.seq (.reg [(fQ 9 0 2),(fQ 10 0 9),(lQ 11 10),(hQ 12 11),(oQ 13 (.mk 3 2 16 [zQ,zQ] (.t 12))),(oQ 5 (.newz 4 [(.p (.sl 0 [] true))])),(sQ 1 5 13)])
 (.seq (.reg [(oQ 14 (.clo 173 [(.t 3)])),(oQ 6 (.newz 5 [.und])),(sQ 1 6 14)])
 (.seq (.seq (.reg [(fQ 15 0 2),(fQ 16 0 15),(lQ 17 16),(kQ 18 6 174 [(.t 17)])])
 (.block 0 (.rng (.t 18) [19,20] [19,20,7,8,21,22,23,24,25,26,27,28,29,30,31,32,33,34,35,36] [.c 1 tQ,.d 3 pQ] [1,3,7] [7] (.seq (.reg [(mQ 7 19)])
 (.reg [(oQ 8 (.newz 7 [(.p (.sl 0 [] true)),(.p (.sl 0 [] true))])),(sQ 2 8 20)]))
 (.block 1 (.seq (.regd [(lQ 21 5),(mQ 22 7),(lQ 23 6),(fQ 24 1 8),(lQ 25 24),⟨some 26,none,(.callv 8 (.t 23) [(.t 25)])⟩,(jQ 27 2 21 22),(fQ 28 1 27),(sQ 1 28 26)] [(0,2),(0,4),(2,4),(0,5)] [])
 (.regd [(lQ 29 5),(mQ 30 7),(lQ 31 6),(fQ 32 0 8),(lQ 33 32),⟨some 34,none,(.callv 9 (.t 31) [(.t 33)])⟩,(jQ 35 2 29 30),(fQ 36 0 35),(sQ 1 36 34)] [(0,2),(0,4),(2,4),(0,5)] []))))))
 (.seq (.reg [(lQ 37 5),(oQ 38 (.build [(.p (.sl 0 [] true))] [(0,1,(.t 37))])),(sQ 1 4 38)])
 .ret)))))⟩
theorem e_Z1l:cFn Tryz.prog 120 = some F_Z1l.erase := by kernel_rfl
def F_Zs:TFn := ⟨6,2,[.tmp 2],(.seq (.reg [(oQ 2 (.mv (iQ 0)))])
 (.seq (.reg [(mQ 3 0),(kQ 4 0 118 [(.t 3),(iQ 1),(iQ 20)]),(kQ 5 1 117 [(.t 4),(iQ 2)]),(mQ 2 5)])
 .ret))⟩
def A_Zs:Nat→Ty := tyAt [.un,.un]
abbrev P_Zs:List PSh := [.one tQ]
abbrev R_Zs:List PSh := [.one tQ]
theorem e_Zs:cFn Tryz.prog 122 = some F_Zs.erase := by kernel_rfl
theorem k_Zs:callable Tryz.prog 122 = true := by kernel_rfl
def F_Zj:TFn := ⟨15,0,[.tmp 2],(.seq (.reg [(oQ 2 (.mv (iQ 0)))])
 (.seq (.seq (.reg [(mQ 5 0),(hQ 6 5),(oQ 7 (.mv (iQ 0)))])
 (.block 0 (.loop [.v 7 tQ] [] [] (.seq (.reg [(bQ 8 .lss 7 6)])
 (.seq (.cond (.t 8) .skip (.exit 0))
 (.seq (.block 1 (.seq (.reg [(jQ 9 1 5 7),(lQ 10 9),(mQ 4 10)])
 (.seq (.reg [(mQ 11 4),(cQ 12 .neq 11 0)])
 (.cond (.t 12) (.seq (.reg [(mQ 13 4),(mQ 2 13)])
 .ret) .skip))))
 (.reg [(cQ 14 .add 7 1),(mQ 7 14)])))))))
 (.seq (.reg [(oQ 2 (.mv (iQ 0)))])
 .ret)))⟩
def A_Zj:Nat→Ty := tyAt []
abbrev P_Zj:List PSh := [.one (.sl tQ)]
abbrev R_Zj:List PSh := [.one tQ]
theorem e_Zj:cFn Tryz.prog 121 = some F_Zj.erase := by kernel_rfl
theorem k_Zj:callable Tryz.prog 121 = true := by kernel_rfl
def F_Z1m:TFn := ⟨57,7,[.celln 4 2],(.seq (.reg [(oQ 2 (.box 0 (.t 0))),(oQ 3 (.box 1 (.t 1))),(oQ 4 (.newz 2 [zQ,zQ]))])
 (.seq (.reg [(oQ 5 (.newz 3 [zQ,zQ]))])
 (.seq (.seq (.reg [(lQ 11 2),(kQ 12 4 175 [(.t 11)])])
 (.block 0 (.rng (.t 12) [13,14] [13,14,6,7,15,16,17,18,19,20,21,22,23,24,25,26,27,28,29,30,8,9,10,31,32,33,34,35,36,37,38,39,40,41,42,43,44,45,46,47,48,49,50,51,52,53,54,55] [.c 3 pQ] [3,5] [5] (.seq (.reg [(mQ 6 13)])
 (.reg [(oQ 7 (.newz 5 [zQ,zQ])),(sQ 2 7 14)]))
 (.block 1 (.seq (.seq (.reg [(mQ 15 6),(lQ 16 2),(hQ 17 16),(cQ 18 .sub 17 1),(bQ 19 .eql 15 18)])
 (.cond (.t 19) (.seq (.reg [(fQ 20 0 7),(lQ 21 20),(oQ 22 (.build [zQ,zQ] [(0,1,(.t 21)),(1,1,(iQ 1))])),(sQ 2 5 22)])
 (.exit 1)) .skip))
 (.seq (.regd [(fQ 23 0 7),(lQ 24 23),(fQ 25 1 7),(lQ 26 25),(fQ 27 1 7),(lQ 28 27),(lQ 29 3),(bQ 30 .add 28 29),(mQ 8 24),(mQ 9 26),(mQ 10 30)] [(1,3),(1,5),(3,5),(1,6),(3,6),(5,6)] [])
 (.reg [(mQ 31 8),(fQ 32 0 5),(lQ 33 32),(mQ 34 10),(bQ 35 .mul 33 34),(mQ 36 8),(mQ 37 9),(bQ 38 .mul 36 37),(fQ 39 1 5),(lQ 40 39),(bQ 41 .mul 38 40),(bQ 42 .add 35 41),(bQ 43 .mul 31 42),(mQ 44 8),(fQ 45 1 5),(lQ 46 45),(bQ 47 .mul 44 46),(mQ 48 10),(bQ 49 .mul 47 48),(fQ 50 0 5),(lQ 51 50),(mQ 52 9),(bQ 53 .mul 51 52),(bQ 54 .add 49 53),(kQ 55 6 176 [(.t 43),(.t 54)]),(sQ 2 5 55)])))))))
 (.seq (.reg [(nQ 56 2 5),(sQ 2 4 56)])
 .ret))))⟩
theorem e_Z1m:cFn Tryz.prog 123 = some F_Z1m.erase := by kernel_rfl
def F_Z1n:TFn := ⟨18,2,[.celln 2 2,.tmp 3],(.seq (.reg [(oQ 1 (.box 0 (.t 0))),(oQ 2 (.newz 1 [zQ,zQ])),(oQ 3 (.mv (iQ 0)))])
 (.seq (.seq (.reg [(fQ 4 0 1),(lQ 5 4),(cQ 6 .gtr 5 1000000000),(mQ 7 6),(gQ 8 7 false (.fa 1 (.t 1))),(gQ 9 7 false (.ld1 (.t 8))),(gQ 10 7 false (.bin .gtr (.t 9) (iQ 1000000000))),(oQ 11 (.pick (.t 7) cT (.t 10)))])
 (.cond (.t 11) (.seq (.reg [(oQ 12 (.build [zQ,zQ] [])),(sQ 2 2 12),(oQ 3 (.mv (iQ 8)))])
 .ret) .skip))
 (.seq (.reg [(fQ 13 0 1),(lQ 14 13),(fQ 15 1 1),(lQ 16 15),(oQ 17 (.build [zQ,zQ] [(0,1,(.t 14)),(1,1,(.t 16))])),(sQ 2 2 17),(oQ 3 (.mv (iQ 0)))])
 .ret)))⟩
theorem e_Z1n:cFn Tryz.prog 124 = some F_Z1n.erase := by kernel_rfl
def F_Z1o:TFn := ⟨19,7,[.celln 4 1,.tmp 5],(.seq (.reg [(oQ 2 (.box 0 (.t 0))),(oQ 4 (.newz 1 [(.p (.sl 0 [] true))])),(oQ 5 (.mv (iQ 0)))])
 (.seq (.reg [(nQ 9 1 2),(kQ 10 2 116 [(.t 9)]),(mQ 8 10),(oQ 11 (.ext 0 (.t 8))),(oQ 12 (.ext 1 (.t 8))),(oQ 6 (.newz 3 [(.p (.sl 0 [] true))])),(sQ 1 6 11),(mQ 7 12)])
 (.seq (.regd [(nQ 13 1 6),(mQ 14 7),(mQ 15 1),(kQ 16 4 99 [(.t 15)]),(oQ 17 (.bsl false 5 1 2 [zQ,zQ] [(0,1,(.t 14)),(1,1,(.t 16))])),(kQ 18 6 121 [(.t 17)]),(sQ 1 4 13),(mQ 5 18)] [(0,3),(0,5)] [])
 .ret)))⟩
theorem e_Z1o:cFn Tryz.prog 126 = some F_Z1o.erase := by kernel_rfl
def F_Z1p:TFn := ⟨20,7,[.tmp 4],(.seq (.reg [(oQ 2 (.box 0 (.t 0))),(oQ 3 (.box 1 (.t 1))),(oQ 4 (.mv (.c (.p (.sl 0 [] true)))))])
 (.seq (.reg [(oQ 5 (.newz 2 [(.p (.sl 0 [] true))]))])
 (.seq (.seq (.reg [(nQ 8 1 2),(oQ 9 (.bnd 1000000131 (.t 8)))])
 (.block 0 (.rng (.t 9) [10,11] [10,11,6,7,12,13,14,15,16,17,18] [.q 2 6 tQ] [2,3,6] [3,6] (.seq (.reg [(mQ 6 10)])
 (.reg [(oQ 7 (.newz 3 [(.p (.sl 0 [] true))])),(sQ 1 7 11)]))
 (.block 1 (.seq (.reg [(nQ 12 1 7),(lQ 13 3),(kQ 14 4 177 [(.t 12),(.t 13)])])
 (.cond (.t 14) (.reg [(lQ 15 5),(mQ 16 6),(oQ 17 (.bsl false 5 1 1 [zQ] [(0,1,(.t 16))])),(oQ 18 (.app 6 1 8 (.t 15) (.t 17))),(sQ 1 5 18)]) .skip))))))
 (.seq (.reg [(lQ 19 5),(mQ 4 19)])
 .ret))))⟩
theorem e_Z1p:cFn Tryz.prog 127 = some F_Z1p.erase := by kernel_rfl
def F_Z27:TFn := ⟨18,4,[],(.seq (.reg [(oQ 2 (.box 0 (.t 0)))])
 (.seq (.reg [(nQ 5 1 2),(kQ 6 1 119 [(.t 5)]),(oQ 7 (.mv (iQ 0)))])
 (.block 0 (.loop [] [] [] (.seq (.reg [(bQ 8 .lss 7 6)])
 (.seq (.cond (.t 8) .skip (.exit 0))
 (.seq (.block 1 (.seq (.reg [(mQ 9 7),(mQ 4 9)])
 (.seq (.reg [(mQ 10 1),(mQ 11 4),(nQ 12 1 2),(mQ 13 4),(kQ 14 2 120 [(.t 12),(.t 13)]),⟨some 15,none,(.callv 3 (.t 10) [(.t 11),(.t 14)])⟩,(oQ 16 (.unot (.t 15)))])
 (.cond (.t 16) .ret .skip))))
 (.reg [(cQ 17 .add 7 1),(mQ 7 17)]))))))))⟩
theorem e_Z27:cFn Tryz.prog 131 = some F_Z27.erase := by kernel_rfl
def F_Z1q:TFn := ⟨37,4,[.tmp 6],(.seq (.reg [(oQ 3 (.box 0 (.t 0))),(oQ 4 (.box 1 (.t 1))),(oQ 6 (.mv cF))])
 (.seq (.seq (.reg [(fQ 10 0 3),(lQ 11 10),(hQ 12 11),(oQ 13 (.mv (iQ 0)))])
 (.block 0 (.loop [.v 13 tQ] [2,3] [2,3] (.seq (.reg [(bQ 14 .lss 13 12)])
 (.seq (.cond (.t 14) .skip (.exit 0))
 (.seq (.block 1 (.seq (.reg [(mQ 15 13),(jQ 16 2 11 13),(nQ 17 2 16),(oQ 8 (.newz 2 [zQ,zQ])),(mQ 7 15),(sQ 2 8 17)])
 (.seq (.reg [(fQ 18 0 4),(lQ 19 18),(mQ 20 7),(jQ 21 2 19 20),(nQ 22 2 21),(oQ 9 (.newz 3 [zQ,zQ])),(sQ 2 9 22)])
 (.seq (.reg [(fQ 23 0 8),(lQ 24 23),(fQ 25 0 9),(lQ 26 25),(oQ 27 (.mm true (.t 24) (.t 26))),(fQ 28 0 8),(lQ 29 28),(fQ 30 0 9),(lQ 31 30),(oQ 32 (.mm false (.t 29) (.t 31))),(bQ 33 .sub 27 32),(mQ 34 2),(bQ 35 .geq 33 34)])
 (.cond (.t 35) (.seq (.reg [(oQ 6 (.mv cT))])
 .ret) .skip)))))
 (.reg [(cQ 36 .add 13 1),(mQ 13 36)])))))))
 (.seq (.reg [(oQ 6 (.mv cF))])
 .ret)))⟩
theorem e_Z1q:cFn Tryz.prog 134 = some F_Z1q.erase := by kernel_rfl
def F_Zo:TFn := ⟨7,0,[.tmp 2],(.seq (.reg [(oQ 2 (.mv (iQ 0)))])
 (.seq (.reg [(mQ 3 0),(mQ 4 0),(oQ 5 (.uneg (.t 4))),(oQ 6 (.mm true (.t 3) (.t 5))),(mQ 2 6)])
 .ret))⟩
def A_Zo:Nat→Ty := tyAt []
abbrev P_Zo:List PSh := [.one tQ]
abbrev R_Zo:List PSh := [.one tQ]
theorem e_Zo:cFn Tryz.prog 135 = some F_Zo.erase := by kernel_rfl
theorem k_Zo:callable Tryz.prog 135 = true := by kernel_rfl
abbrev P_Z19:List PSh := [.one .str]
abbrev R_Z19:List PSh := [.one tQ,.one .err]

theorem k_Z19:callable Tryz.prog 141 = true := by kernel_rfl
def F_Z1r:TFn := ⟨26,0,[.tmp 4],(.seq (.reg [(oQ 4 (.mv cF))])
 (.seq (.seq (.reg [(mQ 6 0),(hQ 7 6),(mQ 8 1),(hQ 9 8),(bQ 10 .neq 7 9)])
 (.cond (.t 10) (.seq (.reg [(oQ 4 (.mv cF))])
 .ret) .skip))
 (.seq (.seq (.reg [(mQ 11 0),(hQ 12 11),(oQ 13 (.mv (iQ 0)))])
 (.block 0 (.loop [.v 13 tQ] [] [] (.seq (.reg [(bQ 14 .lss 13 12)])
 (.seq (.cond (.t 14) .skip (.exit 0))
 (.seq (.block 1 (.seq (.reg [(mQ 15 13),(mQ 5 15)])
 (.seq (.regd [(mQ 16 0),(mQ 17 5),(jQ 18 2 16 17),(nQ 19 2 18),(mQ 20 1),(mQ 21 5),(jQ 22 2 20 21),(nQ 23 2 22),(oQ 24 (.eqa true 2 [(true,0),(true,1)] (.t 19) (.t 23)))] [(3,7)] [])
 (.cond (.t 24) (.seq (.reg [(oQ 4 (.mv cF))])
 .ret) .skip))))
 (.reg [(cQ 25 .add 13 1),(mQ 13 25)])))))))
 (.seq (.reg [(oQ 4 (.mv cT))])
 .ret))))⟩
theorem e_Z1r:cFn Tryz.prog 150 = some F_Z1r.erase := by kernel_rfl
abbrev P_Z1a:List PSh := [.one .str,.one .str]
abbrev R_Z1a:List PSh := [.one .str,.one .str,.one .bool]

theorem k_Z1a:callable Tryz.prog 153 = true := by kernel_rfl
def F_Za:TFn := ⟨62,12,[.tmp 2,.tmp 3],(.seq (.reg [(oQ 1 (.box 0 (.t 0))),(oQ 2 (.mv (iQ 0))),(oQ 3 (.mv (iQ 0)))])
 (.seq (.seq (.regd [(fQ 9 0 1),(lQ 10 9),(hQ 11 10),(cQ 12 .gtr 11 0),(kQ 13 1 117 [(.t 12),(iQ 10)]),(fQ 14 0 1),(lQ 15 14),(hQ 16 15),(cQ 17 .leq 16 4),(kQ 18 2 117 [(.t 17),(iQ 8)]),(oQ 19 (.bsl false 3 1 2 [zQ,zQ] [(0,1,(.t 13)),(1,1,(.t 18))])),(kQ 20 4 121 [(.t 19)]),(mQ 4 20)] [(1,6),(4,6)] [])
 (.seq (.reg [(mQ 21 4),(cQ 22 .neq 21 0)])
 (.cond (.t 22) (.seq (.reg [(mQ 23 4),(oQ 2 (.mv (iQ 0))),(mQ 3 23)])
 .ret) .skip)))
 (.seq (.seq (.reg [(fQ 24 0 1),(lQ 25 24),(hQ 26 25),(oQ 27 (.mv (iQ 0)))])
 (.block 0 (.loop [.v 27 tQ] [5] [5] (.seq (.reg [(bQ 28 .lss 27 26)])
 (.seq (.cond (.t 28) .skip (.exit 0))
 (.seq (.block 1 (.seq (.reg [(mQ 29 27),(jQ 30 2 25 27),(nQ 31 2 30),(oQ 6 (.newz 5 [zQ,zQ])),(mQ 5 29),(sQ 2 6 31)])
 (.seq (.reg [(mQ 32 5),(fQ 33 0 1),(lQ 34 33),(hQ 35 34),(cQ 36 .sub 35 1),(bQ 37 .eql 32 36),(mQ 7 37)])
 (.seq (.reg [(fQ 38 0 6),(lQ 39 38),(kQ 40 6 198 [(.t 39)]),(mQ 41 40),(gQ 42 41 true (.fa 1 (.t 6))),(gQ 43 41 true (.ld1 (.t 42))),⟨some 44,some (some 41,true),(.call 7 199 [(.t 43)])⟩,(oQ 45 (.pick (.t 41) (.t 44) cF)),(kQ 46 8 117 [(.t 45),(iQ 2)]),(mQ 47 7),(oQ 48 (.unot (.t 47))),(mQ 49 48),(gQ 50 49 false (.fa 1 (.t 6))),(gQ 51 49 false (.ld1 (.t 50))),(gQ 52 49 false (.bin .eql (.t 51) (iQ 0))),(oQ 53 (.pick (.t 49) cT (.t 52))),(kQ 54 9 117 [(.t 53),(iQ 3)]),(oQ 55 (.bsl false 10 1 2 [zQ,zQ] [(0,1,(.t 46)),(1,1,(.t 54))])),(kQ 56 11 121 [(.t 55)]),(mQ 8 56)])
 (.seq (.reg [(mQ 57 8),(cQ 58 .neq 57 0)])
 (.cond (.t 58) (.seq (.reg [(mQ 59 5),(mQ 60 8),(mQ 2 59),(mQ 3 60)])
 .ret) .skip))))))
 (.reg [(cQ 61 .add 27 1),(mQ 27 61)])))))))
 (.seq (.reg [(oQ 2 (.mv (iQ 0))),(oQ 3 (.mv (iQ 0)))])
 .ret))))⟩
def A_Za:Nat→Ty := tyAt [.un,.un,.un,tQ,.un,.un,.un,.un,.un,.un,tQ,.un]
abbrev P_Za:List PSh := [.agg (.sl pQ)]
abbrev R_Za:List PSh := [.one tQ,.one tQ]
theorem e_Za:cFn Tryz.prog 154 = some F_Za.erase := by kernel_rfl
theorem k_Za:callable Tryz.prog 154 = true := by kernel_rfl
def F_Z5:TFn := ⟨77,12,[.tmp 2,.tmp 3],(.seq (.reg [(oQ 2 (.mv (iQ 0))),(oQ 3 (.mv (iQ 0)))])
 (.seq (.seq (.reg [(mQ 10 0),(hQ 11 10),(cQ 12 .gtr 11 0),(kQ 13 0 117 [(.t 12),(iQ 10)]),(mQ 14 0),(hQ 15 14),(cQ 16 .leq 15 6),(kQ 17 1 117 [(.t 16),(iQ 8)]),(oQ 18 (.bsl false 2 1 2 [zQ,zQ] [(0,1,(.t 13)),(1,1,(.t 17))])),(kQ 19 3 121 [(.t 18)]),(mQ 4 19)])
 (.seq (.reg [(mQ 20 4),(cQ 21 .neq 20 0)])
 (.cond (.t 21) (.seq (.reg [(mQ 22 4),(oQ 2 (.mv (iQ 0))),(mQ 3 22)])
 .ret) .skip)))
 (.seq (.reg [(oQ 5 (.mv (.c (.clo 200 []))))])
 (.seq (.seq (.reg [(mQ 23 0),(hQ 24 23),(oQ 25 (.mv (iQ 0)))])
 (.block 0 (.loop [.v 25 tQ] [4] [4] (.seq (.reg [(bQ 26 .lss 25 24)])
 (.seq (.cond (.t 26) .skip (.exit 0))
 (.seq (.block 1 (.seq (.reg [(mQ 27 25),(jQ 28 3 23 25),(nQ 29 3 28),(oQ 7 (.newz 4 [zQ,zQ,zQ])),(mQ 6 27),(sQ 3 7 29)])
 (.seq (.regd [(mQ 30 6),(cQ 31 .eql 30 0),(mQ 32 31),(gQ 33 32 false (.fa 0 (.t 7))),(gQ 34 32 false (.ld1 (.t 33))),(vQ 35 32 false 0),(vQ 36 32 false 6),(gQ 37 32 false (.bin .sub (.t 36) (iQ 1))),(gQ 38 32 false (.ia 3 (.t 35) (.t 37))),(gQ 39 32 false (.fa 0 (.t 38))),(gQ 40 32 false (.ld1 (.t 39))),(gQ 41 32 false (.bin .gtr (.t 34) (.t 40))),(oQ 42 (.pick (.t 32) cT (.t 41))),(mQ 8 42)] [(4,10)] [])
 (.seq (.regd [(fQ 43 0 7),(lQ 44 43),(kQ 45 5 122 [(.t 44)]),(mQ 46 5),(fQ 47 1 7),(fQ 48 0 47),(lQ 49 48),⟨some 50,none,(.callv 6 (.t 46) [(.t 49)])⟩,(mQ 51 50),(vQ 52 51 true 5),(gQ 53 51 true (.fa 1 (.t 7))),(gQ 54 51 true (.fa 1 (.t 53))),(gQ 55 51 true (.ld1 (.t 54))),⟨some 56,some (some 51,true),(.callv 7 (.t 52) [(.t 55)])⟩,(oQ 57 (.pick (.t 51) (.t 56) cF)),(kQ 58 8 117 [(.t 57),(iQ 2)]),(fQ 59 1 7),(fQ 60 0 59),(lQ 61 60),(fQ 62 1 7),(fQ 63 1 62),(lQ 64 63),(bQ 65 .leq 61 64),(mQ 66 65),(vQ 67 66 true 8),(oQ 68 (.pick (.t 66) (.t 67) cF)),(kQ 69 9 117 [(.t 68),(iQ 9)]),(oQ 70 (.bsl false 10 1 3 [zQ,zQ,zQ] [(0,1,(.t 45)),(1,1,(.t 58)),(2,1,(.t 69))])),(kQ 71 11 121 [(.t 70)]),(mQ 9 71)] [(1,6),(2,6),(1,18),(2,18),(6,18),(7,18),(12,18),(13,18),(15,18),(1,21),(2,21),(6,21),(7,21),(12,21),(13,21),(15,21),(18,21)] [])
 (.seq (.reg [(mQ 72 9),(cQ 73 .neq 72 0)])
 (.cond (.t 73) (.seq (.reg [(mQ 74 6),(mQ 75 9),(mQ 2 74),(mQ 3 75)])
 .ret) .skip))))))
 (.reg [(cQ 76 .add 25 1),(mQ 25 76)])))))))
 (.seq (.reg [(oQ 2 (.mv (iQ 0))),(oQ 3 (.mv (iQ 0)))])
 .ret)))))⟩
def A_Z5:Nat→Ty := tyAt [.un,.un,tQ,.un,.un,.un,.un,.un,.un,.un,tQ,.un]
abbrev P_Z5:List PSh := [.one (.sl (.pr tQ pQ))]
abbrev R_Z5:List PSh := [.one tQ,.one tQ]
theorem e_Z5:cFn Tryz.prog 155 = some F_Z5.erase := by kernel_rfl
theorem k_Z5:callable Tryz.prog 155 = true := by kernel_rfl
def F_Z0:TFn := ⟨70,0,[.tmp 4,.tmp 5],(.seq (.reg [(oQ 4 (.mv (iQ 0))),(oQ 5 (.mv cF))])
 (.seq (.reg [(oQ 6 (.mv (iQ 0)))])
 (.seq (.seq (.reg [(mQ 9 0),(oQ 10 (.len true (.t 9))),(cQ 11 .gtr 10 0),(mQ 12 11),(vQ 13 12 true 0),(gQ 14 12 true (.six (.t 13) (iQ 0))),(gQ 15 12 true (.bin .eql (.t 14) (.c (.p (.int .u8 45))))),(oQ 16 (.pick (.t 12) (.t 15) cF))])
 (.cond (.t 16) (.reg [(oQ 6 (.mv (iQ 1)))]) .skip))
 (.seq (.seq (.reg [(mQ 17 0),(oQ 18 (.len true (.t 17))),(mQ 19 6),(bQ 20 .eql 18 19),(mQ 21 20),(vQ 22 21 false 0),(gQ 23 21 false (.len true (.t 22))),(vQ 24 21 false 6),(gQ 25 21 false (.bin .sub (.t 23) (.t 24))),(vQ 26 21 false 1),(gQ 27 21 false (.bin .gtr (.t 25) (.t 26))),(oQ 28 (.pick (.t 21) cT (.t 27))),(mQ 29 28),(vQ 30 29 false 0),(vQ 31 29 false 6),(gQ 32 29 false (.six (.t 30) (.t 31))),(gQ 33 29 false (.bin .eql (.t 32) (.c (.p (.int .u8 48))))),(vQ 34 29 false 33),(vQ 35 34 true 0),(gQ 36 34 true (.len true (.t 35))),(gQ 37 34 true (.bin .gtr (.t 36) (iQ 1))),(gQ 38 29 false (.pick (.t 34) (.t 37) cF)),(oQ 39 (.pick (.t 29) cT (.t 38)))])
 (.cond (.t 39) (.seq (.reg [(oQ 4 (.mv (iQ 0))),(oQ 5 (.mv cF))])
 .ret) .skip))
 (.seq (.reg [(oQ 7 (.mv (iQ 0)))])
 (.seq (.seq (.reg [(mQ 40 6),(mQ 8 40)])
 (.block 0 (.loop [.v 8 tQ,.v 7 tQ] [] [] (.seq (.seq (.reg [(mQ 41 8),(mQ 42 0),(oQ 43 (.len true (.t 42))),(bQ 44 .lss 41 43)])
 (.cond (.t 44) .skip (.exit 0)))
 (.seq (.block 1 (.seq (.seq (.reg [(mQ 47 0),(mQ 48 8),(oQ 49 (.six (.t 47) (.t 48))),(oQ 50 (.bin .lss (.t 49) (.c (.p (.int .u8 48))))),(mQ 51 50),(vQ 52 51 false 0),(vQ 53 51 false 8),(gQ 54 51 false (.six (.t 52) (.t 53))),(gQ 55 51 false (.bin .gtr (.t 54) (.c (.p (.int .u8 57))))),(oQ 56 (.pick (.t 51) cT (.t 55)))])
 (.cond (.t 56) (.seq (.reg [(oQ 4 (.mv (iQ 0))),(oQ 5 (.mv cF))])
 .ret) .skip))
 (.reg [(mQ 57 7),(oQ 58 (.bin .mul (iQ 10) (.t 57))),(mQ 59 0),(mQ 60 8),(oQ 61 (.six (.t 59) (.t 60))),(oQ 62 (.bin .sub (.t 61) (.c (.p (.int .u8 48))))),(oQ 63 (.conv .i64 (.t 62))),(bQ 64 .add 58 63),(mQ 7 64)])))
 (.reg [(mQ 45 8),(cQ 46 .add 45 1),(mQ 8 46)]))))))
 (.seq (.seq (.reg [(mQ 65 6),(cQ 66 .eql 65 1)])
 (.cond (.t 66) (.reg [(mQ 67 7),(oQ 68 (.uneg (.t 67))),(mQ 7 68)]) .skip))
 (.seq (.reg [(mQ 69 7),(mQ 4 69),(oQ 5 (.mv cT))])
 .ret))))))))⟩
def A_Z0:Nat→Ty := tyAt []
abbrev P_Z0:List PSh := [.one .str,.one tQ]
abbrev R_Z0:List PSh := [.one tQ,.one .bool]
theorem e_Z0:cFn Tryz.prog 156 = some F_Z0.erase := by kernel_rfl
theorem k_Z0:callable Tryz.prog 156 = true := by kernel_rfl
def F_Z11:TFn := ⟨5,1,[.tmp 2],(.seq (.reg [(oQ 2 (.mv cF))])
 (.seq (.reg [(mQ 3 0),(kQ 4 0 8 [(.t 3),(iQ 1),(iQ 20)]),(mQ 2 4)])
 .ret))⟩
def A_Z11:Nat→Ty := tyAt [.un]
abbrev P_Z11:List PSh := [.one tQ]
abbrev R_Z11:List PSh := [.one .bool]
theorem e_Z11:cFn Tryz.prog 157 = some F_Z11.erase := by kernel_rfl
theorem k_Z11:callable Tryz.prog 157 = true := by kernel_rfl
def F_Z12:TFn := ⟨5,1,[.tmp 2],(.seq (.reg [(oQ 2 (.mv cF))])
 (.seq (.reg [(mQ 3 0),(kQ 4 0 8 [(.t 3),(iQ 0),(iQ 10)]),(mQ 2 4)])
 .ret))⟩
def A_Z12:Nat→Ty := tyAt [.un]
abbrev P_Z12:List PSh := [.one tQ]
abbrev R_Z12:List PSh := [.one .bool]
theorem e_Z12:cFn Tryz.prog 158 = some F_Z12.erase := by kernel_rfl
theorem k_Z12:callable Tryz.prog 158 = true := by kernel_rfl
def F_Z1s:TFn := ⟨84,15,[.tmp 2,.tmp 3],(.seq (.reg [(oQ 1 (.box 0 (.t 0))),(oQ 2 (.mv (iQ 0))),(oQ 3 (.mv (iQ 0)))])
 (.seq (.seq (.regd [(fQ 10 0 1),(lQ 11 10),(hQ 12 11),(cQ 13 .gtr 12 0),(kQ 14 1 117 [(.t 13),(iQ 10)]),(fQ 15 0 1),(lQ 16 15),(hQ 17 16),(cQ 18 .leq 17 4),(kQ 19 2 117 [(.t 18),(iQ 8)]),(oQ 20 (.bsl false 3 1 2 [zQ,zQ] [(0,1,(.t 14)),(1,1,(.t 19))])),(kQ 21 4 121 [(.t 20)]),(mQ 4 21)] [(1,6),(4,6)] [])
 (.seq (.reg [(mQ 22 4),(cQ 23 .neq 22 0)])
 (.cond (.t 23) (.seq (.reg [(mQ 24 4),(oQ 2 (.mv (iQ 0))),(mQ 3 24)])
 .ret) .skip)))
 (.seq (.reg [(oQ 5 (.mv (iQ 1)))])
 (.seq (.seq (.reg [(fQ 25 0 1),(lQ 26 25),(hQ 27 26),(oQ 28 (.mv (iQ 0)))])
 (.block 0 (.loop [.v 28 tQ,.v 5 tQ] [5] [5] (.seq (.reg [(bQ 29 .lss 28 27)])
 (.seq (.cond (.t 29) .skip (.exit 0))
 (.seq (.block 1 (.seq (.reg [(mQ 30 28),(jQ 31 2 26 28),(nQ 32 2 31),(oQ 7 (.newz 5 [(.p (.sl 0 [] true)),(.p (.sl 0 [] true))])),(mQ 6 30),(sQ 2 7 32)])
 (.seq (.reg [(mQ 33 6),(fQ 34 0 1),(lQ 35 34),(hQ 36 35),(cQ 37 .sub 36 1),(bQ 38 .eql 33 37),(mQ 8 38)])
 (.seq (.regd [(fQ 39 0 7),(lQ 40 39),(hQ 41 40),(cQ 42 .gtr 41 0),(mQ 43 42),(gQ 44 43 true (.fa 1 (.t 7))),(gQ 45 43 true (.ld1 (.t 44))),(gQ 46 43 true (.len false (.t 45))),(gQ 47 43 true (.bin .gtr (.t 46) (iQ 0))),(oQ 48 (.pick (.t 43) (.t 47) cF)),(kQ 49 6 117 [(.t 48),(iQ 10)]),(fQ 50 0 7),(lQ 51 50),(kQ 52 7 205 [(.t 51),(.c (.clo 198 []))]),(fQ 53 1 7),(lQ 54 53),(kQ 55 8 205 [(.t 54),(.c (.clo 199 []))]),(mQ 56 8),(oQ 57 (.unot (.t 56))),(mQ 58 57),(gQ 59 58 false (.fa 1 (.t 7))),(gQ 60 58 false (.ld1 (.t 59))),(gQ 61 58 false (.bsl false 9 1 1 [zQ] [(0,1,(iQ 0))])),⟨some 62,some (some 58,false),(.call 10 206 [(.t 60),(.t 61)])⟩,(oQ 63 (.pick (.t 58) cT (.t 62))),(kQ 64 11 117 [(.t 63),(iQ 3)]),(oQ 65 (.bsl false 12 1 4 [zQ,zQ,zQ,zQ] [(0,1,(.t 49)),(1,1,(.t 52)),(2,1,(.t 55)),(3,1,(.t 64))])),(kQ 66 13 121 [(.t 65)]),(mQ 9 66)] [(1,12),(6,12),(10,12),(1,15),(6,15),(10,15),(12,15),(13,15)] [])
 (.seq (.seq (.reg [(mQ 67 9),(cQ 68 .neq 67 0)])
 (.cond (.t 68) (.seq (.reg [(mQ 69 6),(mQ 70 9),(mQ 2 69),(mQ 3 70)])
 .ret) .skip))
 (.reg [(mQ 71 5),(fQ 72 0 7),(lQ 73 72),(hQ 74 73),(fQ 75 1 7),(lQ 76 75),(hQ 77 76),(bQ 78 .mul 74 77),(bQ 79 .mul 71 78),(mQ 5 79)]))))))
 (.reg [(cQ 80 .add 28 1),(mQ 28 80)])))))))
 (.seq (.reg [(mQ 81 5),(cQ 82 .leq 81 300),(kQ 83 14 117 [(.t 82),(iQ 16)]),(oQ 2 (.mv (iQ 0))),(mQ 3 83)])
 .ret)))))⟩
theorem e_Z1s:cFn Tryz.prog 172 = some F_Z1s.erase := by kernel_rfl
def F_Z1t:TFn := ⟨4,1,[.tmp 2],(.seq (.reg [(oQ 1 (.box 0 (.t 0))),(oQ 2 (.mv (.c .und)))])
 (.seq (.reg [(oQ 3 (.clo 207 [(.t 1)])),(mQ 2 3)])
 .ret))⟩
theorem e_Z1t:cFn Tryz.prog 174 = some F_Z1t.erase := by kernel_rfl
def F_Z28:TFn := ⟨19,1,[],(.seq (.reg [(lQ 4 1),(hQ 5 4),(cQ 6 .sub 5 1),(mQ 3 6)])
 (.block 0 (.loop [] [] [] (.seq (.seq (.reg [(mQ 7 3),(cQ 8 .geq 7 0)])
 (.cond (.t 8) .skip (.exit 0)))
 (.seq (.block 1 (.seq (.reg [(mQ 11 0),(mQ 12 3),(lQ 13 1),(mQ 14 3),(jQ 15 2 13 14),(nQ 16 2 15),⟨some 17,none,(.callv 0 (.t 11) [(.t 12),(.t 16)])⟩,(oQ 18 (.unot (.t 17)))])
 (.cond (.t 18) .ret .skip)))
 (.reg [(mQ 9 3),(cQ 10 .sub 9 1),(mQ 3 10)]))))))⟩
theorem e_Z28:cFn Tryz.prog 207 = some F_Z28.erase := by kernel_rfl
def F_Z1u:TFn := ⟨17,0,[.tmp 3],(.seq (.reg [(oQ 3 (.mv (iQ 0)))])
 (.seq (.reg [(mQ 5 0),(lQ 6 1),(mQ 7 0),(hQ 8 7),(bQ 9 .rem 6 8),(jQ 10 1 5 9),(lQ 11 10),(mQ 4 11)])
 (.seq (.reg [(lQ 12 1),(mQ 13 0),(hQ 14 13),(bQ 15 .quo 12 14),(sQ 1 1 15)])
 (.seq (.reg [(mQ 16 4),(mQ 3 16)])
 .ret))))⟩
theorem e_Z1u:cFnM Tryz.prog 173 = some F_Z1u.erase := by kernel_rfl
def F_Z1v:TFn := ⟨4,1,[.tmp 2],(.seq (.reg [(oQ 1 (.box 0 (.t 0))),(oQ 2 (.mv (.c .und)))])
 (.seq (.reg [(oQ 3 (.clo 208 [(.t 1)])),(mQ 2 3)])
 .ret))⟩
theorem e_Z1v:cFn Tryz.prog 175 = some F_Z1v.erase := by kernel_rfl
def F_Z29:TFn := ⟨19,1,[],(.seq (.reg [(lQ 4 1),(hQ 5 4),(cQ 6 .sub 5 1),(mQ 3 6)])
 (.block 0 (.loop [] [] [] (.seq (.seq (.reg [(mQ 7 3),(cQ 8 .geq 7 0)])
 (.cond (.t 8) .skip (.exit 0)))
 (.seq (.block 1 (.seq (.reg [(mQ 11 0),(mQ 12 3),(lQ 13 1),(mQ 14 3),(jQ 15 2 13 14),(nQ 16 2 15),⟨some 17,none,(.callv 0 (.t 11) [(.t 12),(.t 16)])⟩,(oQ 18 (.unot (.t 17)))])
 (.cond (.t 18) .ret .skip)))
 (.reg [(mQ 9 3),(cQ 10 .sub 9 1),(mQ 3 10)]))))))⟩
theorem e_Z29:cFn Tryz.prog 208 = some F_Z29.erase := by kernel_rfl
def F_Z1w:TFn := ⟨16,2,[.celln 4 2],(.seq (.reg [(oQ 4 (.newz 0 [zQ,zQ]))])
 (.seq (.reg [(mQ 6 0),(mQ 7 1),(kQ 8 1 209 [(.t 6),(.t 7)]),(mQ 5 8)])
 (.seq (.regd [(mQ 9 0),(mQ 10 5),(bQ 11 .quo 9 10),(mQ 12 1),(mQ 13 5),(bQ 14 .quo 12 13),(oQ 15 (.build [zQ,zQ] [(0,1,(.t 11)),(1,1,(.t 14))])),(sQ 2 4 15)] [] [])
 .ret)))⟩
theorem e_Z1w:cFn Tryz.prog 176 = some F_Z1w.erase := by kernel_rfl
def F_Z1x:TFn := ⟨9,2,[.tmp 4],(.seq (.reg [(oQ 2 (.box 0 (.t 0))),(oQ 4 (.mv cF))])
 (.seq (.reg [(mQ 5 1),(oQ 6 (.clo 211 [(.t 2)])),(kQ 7 1 210 [(.t 5),(.t 6)]),(oQ 8 (.unot (.t 7))),(mQ 4 8)])
 .ret))⟩
theorem e_Z1x:cFn Tryz.prog 177 = some F_Z1x.erase := by kernel_rfl
def F_Zt:TFn := ⟨5,1,[.tmp 2],(.seq (.reg [(oQ 2 (.mv cF))])
 (.seq (.reg [(mQ 3 0),(kQ 4 0 118 [(.t 3),(iQ 1),(iQ 20)]),(mQ 2 4)])
 .ret))⟩
def A_Zt:Nat→Ty := tyAt [.un]
abbrev P_Zt:List PSh := [.one tQ]
abbrev R_Zt:List PSh := [.one .bool]
theorem e_Zt:cFn Tryz.prog 198 = some F_Zt.erase := by kernel_rfl
theorem k_Zt:callable Tryz.prog 198 = true := by kernel_rfl
def F_Zu:TFn := ⟨5,1,[.tmp 2],(.seq (.reg [(oQ 2 (.mv cF))])
 (.seq (.reg [(mQ 3 0),(kQ 4 0 118 [(.t 3),(iQ 0),(iQ 10)]),(mQ 2 4)])
 .ret))⟩
def A_Zu:Nat→Ty := tyAt [.un]
abbrev P_Zu:List PSh := [.one tQ]
abbrev R_Zu:List PSh := [.one .bool]
theorem e_Zu:cFn Tryz.prog 199 = some F_Zu.erase := by kernel_rfl
theorem k_Zu:callable Tryz.prog 199 = true := by kernel_rfl
def F_Zv:TFn := ⟨5,1,[.tmp 2],(.seq (.reg [(oQ 2 (.mv cF))])
 (.seq (.reg [(mQ 3 0),(kQ 4 0 118 [(.t 3),(iQ 0),(iQ 100000)]),(mQ 2 4)])
 .ret))⟩
def A_Zv:Nat→Ty := tyAt [.un]
abbrev P_Zv:List PSh := [.one tQ]
abbrev R_Zv:List PSh := [.one .bool]
theorem e_Zv:cFn Tryz.prog 200 = some F_Zv.erase := by kernel_rfl
theorem k_Zv:callable Tryz.prog 200 = true := by kernel_rfl
def F_Z1y:TFn := ⟨38,5,[.tmp 4],(.seq (.reg [(oQ 4 (.mv (iQ 0)))])
 (.seq (.seq (.reg [(mQ 8 0),(hQ 9 8),(oQ 10 (.mv (iQ 0)))])
 (.block 0 (.loop [.v 10 tQ] [] [] (.seq (.reg [(bQ 11 .lss 10 9)])
 (.seq (.cond (.t 11) .skip (.exit 0))
 (.seq (.block 1 (.seq (.reg [(mQ 12 10),(jQ 13 1 8 10),(lQ 14 13),(mQ 5 12),(mQ 6 14)])
 (.seq (.reg [(mQ 15 1),(mQ 16 6),⟨some 17,none,(.callv 0 (.t 15) [(.t 16)])⟩,(kQ 18 1 117 [(.t 17),(iQ 2)]),(mQ 19 5),(cQ 20 .eql 19 0),(mQ 21 20),(vQ 22 21 false 6),(vQ 23 21 false 0),(vQ 24 21 false 5),(gQ 25 21 false (.bin .sub (.t 24) (iQ 1))),(gQ 26 21 false (.mm true (iQ 0) (.t 25))),(gQ 27 21 false (.ia 1 (.t 23) (.t 26))),(gQ 28 21 false (.ld1 (.t 27))),(gQ 29 21 false (.bin .gtr (.t 22) (.t 28))),(oQ 30 (.pick (.t 21) cT (.t 29))),(kQ 31 2 117 [(.t 30),(iQ 9)]),(oQ 32 (.bsl false 3 1 2 [zQ,zQ] [(0,1,(.t 18)),(1,1,(.t 31))])),(kQ 33 4 121 [(.t 32)]),(mQ 7 33)])
 (.seq (.reg [(mQ 34 7),(cQ 35 .neq 34 0)])
 (.cond (.t 35) (.seq (.reg [(mQ 36 7),(mQ 4 36)])
 .ret) .skip)))))
 (.reg [(cQ 37 .add 10 1),(mQ 10 37)])))))))
 (.seq (.reg [(oQ 4 (.mv (iQ 0)))])
 .ret)))⟩
theorem e_Z1y:cFn Tryz.prog 205 = some F_Z1y.erase := by kernel_rfl
def F_Z1z:TFn := ⟨26,0,[.tmp 4],(.seq (.reg [(oQ 4 (.mv cF))])
 (.seq (.seq (.reg [(mQ 6 0),(hQ 7 6),(mQ 8 1),(hQ 9 8),(bQ 10 .neq 7 9)])
 (.cond (.t 10) (.seq (.reg [(oQ 4 (.mv cF))])
 .ret) .skip))
 (.seq (.seq (.reg [(mQ 11 0),(hQ 12 11),(oQ 13 (.mv (iQ 0)))])
 (.block 0 (.loop [.v 13 tQ] [] [] (.seq (.reg [(bQ 14 .lss 13 12)])
 (.seq (.cond (.t 14) .skip (.exit 0))
 (.seq (.block 1 (.seq (.reg [(mQ 15 13),(mQ 5 15)])
 (.seq (.regd [(mQ 16 0),(mQ 17 5),(jQ 18 1 16 17),(lQ 19 18),(mQ 20 1),(mQ 21 5),(jQ 22 1 20 21),(lQ 23 22),(bQ 24 .neq 19 23)] [(3,7)] [])
 (.cond (.t 24) (.seq (.reg [(oQ 4 (.mv cF))])
 .ret) .skip))))
 (.reg [(cQ 25 .add 13 1),(mQ 13 25)])))))))
 (.seq (.reg [(oQ 4 (.mv cT))])
 .ret))))⟩
theorem e_Z1z:cFn Tryz.prog 206 = some F_Z1z.erase := by kernel_rfl
def F_Z20:TFn := ⟨13,0,[.tmp 4],(.seq (.reg [(oQ 4 (.mv (iQ 0)))])
 (.seq (.block 0 (.loop [.v 1 tQ,.v 0 tQ] [] [] (.seq (.seq (.reg [(mQ 5 1),(cQ 6 .neq 5 0)])
 (.cond (.t 6) .skip (.exit 0)))
 (.block 1 (.regd [(mQ 7 1),(mQ 8 0),(mQ 9 1),(bQ 10 .rem 8 9),(mQ 0 7),(mQ 1 10)] [] [])))))
 (.seq (.reg [(mQ 11 0),(oQ 12 (.mm true (.t 11) (iQ 1))),(mQ 4 12)])
 .ret)))⟩
theorem e_Z20:cFn Tryz.prog 209 = some F_Z20.erase := by kernel_rfl
def F_Z21:TFn := ⟨9,1,[.tmp 4],(.seq (.reg [(oQ 4 (.mv cF))])
 (.seq (.reg [(mQ 5 0),(mQ 6 1),(kQ 7 0 233 [(.t 5),(.t 6)]),(cQ 8 .geq 7 0),(mQ 4 8)])
 .ret))⟩
theorem e_Z21:cFn Tryz.prog 210 = some F_Z21.erase := by kernel_rfl
def F_Z22:TFn := ⟨19,1,[.tmp 4],(.seq (.reg [(oQ 4 (.mv (iQ 0)))])
 (.seq (.seq (.reg [(mQ 6 0),(hQ 7 6),(oQ 8 (.mv (iQ 0)))])
 (.block 0 (.loop [.v 8 tQ] [] [] (.seq (.reg [(bQ 9 .lss 8 7)])
 (.seq (.cond (.t 9) .skip (.exit 0))
 (.seq (.block 1 (.seq (.reg [(mQ 10 8),(mQ 5 10)])
 (.seq (.reg [(mQ 11 1),(mQ 12 0),(mQ 13 5),(jQ 14 3 12 13),(nQ 15 3 14),⟨some 16,none,(.callv 0 (.t 11) [(.t 15)])⟩])
 (.cond (.t 16) (.seq (.reg [(mQ 17 5),(mQ 4 17)])
 .ret) .skip))))
 (.reg [(cQ 18 .add 8 1),(mQ 8 18)])))))))
 (.seq (.reg [(oQ 4 (.mv (iQ (-1))))])
 .ret)))⟩
theorem e_Z22:cFn Tryz.prog 233 = some F_Z22.erase := by kernel_rfl
def F_Z23:TFn := ⟨8,2,[.tmp 3],(.seq (.reg [(oQ 2 (.box 0 (.t 0))),(oQ 3 (.mv cF))])
 (.seq (.reg [(nQ 4 1 1),(nQ 5 3 2),(kQ 6 1 212 [(.t 4),(.t 5)]),(oQ 7 (.unot (.t 6))),(mQ 3 7)])
 .ret))⟩
theorem e_Z23:cFn Tryz.prog 211 = some F_Z23.erase := by kernel_rfl
def F_Z24:TFn := ⟨21,6,[.tmp 4],(.seq (.reg [(oQ 2 (.box 0 (.t 0))),(oQ 3 (.box 1 (.t 1))),(oQ 4 (.mv cF))])
 (.seq (.reg [(fQ 6 0 2),(lQ 7 6),(fQ 8 0 3),(lQ 9 8),(kQ 10 2 123 [(.t 7),(.t 9)]),(oQ 5 (.newz 3 [zQ,zQ])),(sQ 2 5 10)])
 (.seq (.reg [(nQ 11 2 5),(nQ 12 3 3),(kQ 13 4 234 [(.t 11),(.t 12)]),(oQ 14 (.unot (.t 13))),(mQ 15 14),(gQ 16 15 true (.ldn 2 (.t 5))),(gQ 17 15 true (.ldn 3 (.t 3))),⟨some 18,some (some 15,true),(.call 5 235 [(.t 16),(.t 17)])⟩,(gQ 19 15 true (.unot (.t 18))),(oQ 20 (.pick (.t 15) (.t 19) cF)),(mQ 4 20)])
 .ret)))⟩
theorem e_Z24:cFn Tryz.prog 212 = some F_Z24.erase := by kernel_rfl
def F_Z25:TFn := ⟨15,2,[.tmp 4],(.seq (.reg [(oQ 2 (.box 0 (.t 0))),(oQ 3 (.box 1 (.t 1))),(oQ 4 (.mv cF))])
 (.seq (.reg [(fQ 5 0 2),(lQ 6 5),(oQ 7 (.bin .mul (iQ 1000) (.t 6))),(fQ 8 1 3),(fQ 9 0 8),(lQ 10 9),(fQ 11 1 2),(lQ 12 11),(bQ 13 .mul 10 12),(bQ 14 .lss 7 13),(mQ 4 14)])
 .ret))⟩
theorem e_Z25:cFn Tryz.prog 234 = some F_Z25.erase := by kernel_rfl
def F_Z26:TFn := ⟨15,2,[.tmp 4],(.seq (.reg [(oQ 2 (.box 0 (.t 0))),(oQ 3 (.box 1 (.t 1))),(oQ 4 (.mv cF))])
 (.seq (.reg [(fQ 5 0 2),(lQ 6 5),(oQ 7 (.bin .mul (iQ 1000) (.t 6))),(fQ 8 1 3),(fQ 9 1 8),(lQ 10 9),(fQ 11 1 2),(lQ 12 11),(bQ 13 .mul 10 12),(bQ 14 .gtr 7 13),(mQ 4 14)])
 .ret))⟩
theorem e_Z26:cFn Tryz.prog 235 = some F_Z26.erase := by kernel_rfl
end Go.Proofs.YtepdfhjmngbhhaaGreatDoor
