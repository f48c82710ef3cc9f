/- The code of the functions that GroundData reaches, as it is walked: each equals what the given program's text gives. -/
import Derived.Test.YtehblgccaiiikaaGg1GroundData
import Derived.Test.YtehblgccaiiikaaProg
import Derived.KernelRfl
namespace Go.Proofs.Ytehblgccaiiikaa
open Go Go.Mx
set_option maxRecDepth 100000
abbrev oQ (d:Nat) (o:AOp):AIns := ⟨some d,none,.op o⟩
abbrev uQ (o:AOp):AIns := ⟨none,none,.op o⟩
abbrev gQ (d g:Nat) (b:Bool) (o:AOp):AIns := ⟨some d,some (some g,b),.op o⟩
abbrev kQ (d s f:Nat) (a:List Opd):AIns := ⟨some d,none,.call s f a⟩
abbrev iQ (n:Int):Opd := .c (.p (.int .i64 n))
abbrev zQ:V := .p (.int .i64 0)
abbrev tQ:Ty := .int .i64
abbrev pQ:Ty := .pr tQ tQ
def F_law04_GroundData:TFn := ⟨126,19,[.tmp 4],
 (.seq (.reg [(oQ 2 (.box 0 (.t 0))),
 (oQ 4 (.mv (.c (.p (.bool false)))))])
 (.seq (.seq (.reg [(kQ 16 1 12 []),
 (oQ 17 (.unot (.t 16)))])
 (.cond (.t 17) (.seq (.reg [(oQ 4 (.mv (.c (.p (.bool false)))))])
 .ret) .skip))
 (.seq (.seq (.reg [(oQ 18 (.ldn 1 (.t 2))),
 (kQ 19 2 13 [(.t 18)]),
 (oQ 20 (.unot (.t 19))),
 (oQ 21 (.mv (.t 20))),
 (gQ 22 21 false (.mv (.t 1))),
 ⟨some 23,some (some 21,false),(.call 3 47 [(.t 22)])⟩,
 (gQ 24 21 false (.unot (.t 23))),
 (oQ 25 (.pick (.t 21) (.c (.p (.bool true))) (.t 24)))])
 (.cond (.t 25) (.seq (.reg [(oQ 4 (.mv (.c (.p (.bool true)))))])
 .ret) .skip))
 (.seq (.reg [(oQ 27 (.mv (.t 1))),
 (kQ 28 4 49 [(.t 27)]),
 (kQ 29 5 52 [(.t 28)]),
 (oQ 26 (.mv (.t 29))),
 (oQ 30 (.ext 0 (.t 26))),
 (oQ 31 (.ext 1 (.t 26))),
 (oQ 5 (.mv (.t 30))),
 (oQ 6 (.mv (.t 31)))])
 (.seq (.reg [(oQ 33 (.ldn 1 (.t 2))),
 (kQ 34 6 15 [(.t 33)]),
 (oQ 35 (.mv (.t 1))),
 (kQ 36 7 49 [(.t 35)]),
 (kQ 37 8 44 [(.t 34),(.t 36)]),
 (oQ 32 (.mv (.t 37))),
 (oQ 38 (.ext 0 (.t 32))),
 (oQ 39 (.ext 1 (.t 32))),
 (oQ 7 (.mv (.t 38))),
 (oQ 8 (.mv (.t 39)))])
 (.seq (.reg [(oQ 41 (.ldn 1 (.t 2))),
 (kQ 42 9 15 [(.t 41)]),
 (oQ 43 (.mv (.t 1))),
 (kQ 44 10 49 [(.t 43)]),
 (kQ 45 11 53 [(.t 42),(.t 44)]),
 (oQ 40 (.mv (.t 45))),
 (oQ 46 (.ext 0 (.t 40))),
 (oQ 47 (.ext 1 (.t 40))),
 (oQ 9 (.newz 12 [zQ,zQ])),
 (uQ (.st 2 (.t 9) (.t 46))),
 (oQ 10 (.mv (.t 47)))])
 (.seq (.reg [(oQ 49 (.mv (.t 1))),
 (kQ 50 13 54 [(.t 49)]),
 (oQ 48 (.mv (.t 50))),
 (oQ 51 (.ext 0 (.t 48))),
 (oQ 52 (.ext 1 (.t 48))),
 (oQ 11 (.mv (.t 51))),
 (oQ 12 (.mv (.t 52)))])
 (.seq (.seq (.reg [(oQ 53 (.mv (.t 6))),
 (oQ 54 (.mv (.t 12))),
 (oQ 55 (.bin .neq (.t 53) (.t 54))),
 (oQ 56 (.mv (.t 55))),
 (gQ 57 56 false (.mv (.t 5))),
 (gQ 58 56 false (.mv (.t 11))),
 (gQ 59 56 false (.bin .neq (.t 57) (.t 58))),
 (oQ 60 (.pick (.t 56) (.c (.p (.bool true))) (.t 59)))])
 (.cond (.t 60) (.seq (.reg [(oQ 4 (.mv (.c (.p (.bool false)))))])
 .ret) .skip))
 (.seq (.seq (.reg [(oQ 61 (.ldn 1 (.t 2))),
 (kQ 62 14 21 [(.t 61)]),
 (oQ 13 (.mv (.t 62)))])
 (.seq (.reg [(oQ 63 (.mv (.t 13))),
 (oQ 64 (.bin .neq (.t 63) (iQ 0)))])
 (.cond (.t 64) (.reg [(oQ 65 (.mv (.t 13))),
 (oQ 12 (.mv (.t 65)))]) .skip)))
 (.seq (.seq (.reg [(oQ 66 (.mv (.t 12))),
 (oQ 67 (.bin .neq (.t 66) (iQ 0)))])
 (.cond (.t 67) (.seq (.reg [(oQ 68 (.mv (.t 8))),
 (oQ 69 (.mv (.t 12))),
 (oQ 70 (.bin .eql (.t 68) (.t 69))),
 (oQ 71 (.mv (.t 70))),
 (gQ 72 71 true (.mv (.t 7))),
 (gQ 73 71 true (.unot (.t 72))),
 (oQ 74 (.pick (.t 71) (.t 73) (.c (.p (.bool false))))),
 (oQ 75 (.mv (.t 74))),
 (gQ 76 75 true (.mv (.t 10))),
 (gQ 77 75 true (.mv (.t 12))),
 (gQ 78 75 true (.bin .eql (.t 76) (.t 77))),
 (oQ 79 (.pick (.t 75) (.t 78) (.c (.p (.bool false))))),
 (oQ 80 (.mv (.t 79))),
 (gQ 81 80 true (.ldn 2 (.t 9))),
 (gQ 82 80 true (.build [zQ,zQ] [])),
 (gQ 83 80 true (.eqa false 2 [(true,0),(true,1)] (.t 81) (.t 82))),
 (oQ 84 (.pick (.t 80) (.t 83) (.c (.p (.bool false))))),
 (oQ 4 (.mv (.t 84)))])
 .ret) .skip))
 (.seq (.reg [(oQ 86 (.ldn 1 (.t 2))),
 (oQ 87 (.mv (.t 1))),
 (kQ 88 15 55 [(.t 86),(.t 87)]),
 (kQ 89 16 19 [(.t 88)]),
 (oQ 85 (.mv (.t 89))),
 (oQ 90 (.ext 0 (.t 85))),
 (oQ 91 (.ext 1 (.t 85))),
 (oQ 14 (.newz 17 [zQ,zQ])),
 (uQ (.st 2 (.t 14) (.t 90))),
 (oQ 15 (.mv (.t 91)))])
 (.seq (.reg [(oQ 92 (.mv (.t 8))),
 (oQ 93 (.bin .eql (.t 92) (iQ 0))),
 (oQ 94 (.mv (.t 93))),
 (gQ 95 94 true (.mv (.t 7))),
 (gQ 96 94 true (.ldn 1 (.t 2))),
 (gQ 97 94 true (.mv (.t 1))),
 ⟨some 98,some (some 94,true),(.call 18 56 [(.t 96),(.t 97)])⟩,
 (gQ 99 94 true (.eqb false (.t 95) (.t 98))),
 (oQ 100 (.pick (.t 94) (.t 99) (.c (.p (.bool false))))),
 (oQ 101 (.mv (.t 100))),
 (gQ 102 101 true (.mv (.t 15))),
 (gQ 103 101 true (.mv (.t 102))),
 (gQ 104 103 true (.mv (.t 10))),
 (gQ 105 103 true (.bin .eql (.t 104) (iQ 0))),
 (gQ 106 101 true (.pick (.t 103) (.t 105) (.c (.p (.bool false))))),
 (gQ 107 101 true (.mv (.t 106))),
 (gQ 108 107 true (.ldn 2 (.t 9))),
 (gQ 109 107 true (.ldn 2 (.t 14))),
 (gQ 110 107 true (.eqa false 2 [(true,0),(true,1)] (.t 108) (.t 109))),
 (gQ 111 101 true (.pick (.t 107) (.t 110) (.c (.p (.bool false))))),
 (gQ 112 101 true (.mv (.t 111))),
 (gQ 113 112 false (.mv (.t 15))),
 (gQ 114 112 false (.unot (.t 113))),
 (gQ 115 112 false (.mv (.t 114))),
 (gQ 116 115 true (.mv (.t 10))),
 (gQ 117 115 true (.bin .eql (.t 116) (iQ 8))),
 (gQ 118 112 false (.pick (.t 115) (.t 117) (.c (.p (.bool false))))),
 (gQ 119 112 false (.mv (.t 118))),
 (gQ 120 119 true (.ldn 2 (.t 9))),
 (gQ 121 119 true (.build [zQ,zQ] [])),
 (gQ 122 119 true (.eqa false 2 [(true,0),(true,1)] (.t 120) (.t 121))),
 (gQ 123 112 false (.pick (.t 119) (.t 122) (.c (.p (.bool false))))),
 (gQ 124 101 true (.pick (.t 112) (.c (.p (.bool true))) (.t 123))),
 (oQ 125 (.pick (.t 101) (.t 124) (.c (.p (.bool false))))),
 (oQ 4 (.mv (.t 125)))])
 .ret))))))))))))⟩
def A_law04_GroundData:Nat→Ty := tyAt [.un,.un,.un,.un,.un,.un,.un,.un,.un,.un,.un,.un,.un,.un,.un,.un,.un,.un,.un]
abbrev P_law04_GroundData:List PSh := [.agg (.sl pQ),.one (.sl (.pr tQ pQ))]
abbrev R_law04_GroundData:List PSh := [.one .bool]
theorem e_law04_GroundData:cFn Try.prog 9 = some F_law04_GroundData.erase := by kernel_rfl
theorem k_law04_GroundData:callable Try.prog 9 = true := by kernel_rfl
def F_law04_awake:TFn := ⟨65,15,[.tmp 0],
 (.seq (.reg [(oQ 0 (.mv (.c (.p (.bool false)))))])
 (.seq (.reg [(kQ 10 0 69 []),
 (kQ 11 1 16 [(.t 10),(iQ 2)]),
 (oQ 9 (.mv (.t 11))),
 (oQ 12 (.ext 0 (.t 9))),
 (oQ 13 (.ext 1 (.t 9))),
 (oQ 1 (.newz 2 [zQ,zQ])),
 (uQ (.st 2 (.t 1) (.t 12))),
 (oQ 2 (.mv (.t 13)))])
 (.seq (.reg [(kQ 15 3 70 []),
 (kQ 16 4 71 []),
 (kQ 17 5 48 [(.t 15),(.t 16)]),
 (oQ 14 (.mv (.t 17))),
 (oQ 18 (.ext 0 (.t 14))),
 (oQ 19 (.ext 1 (.t 14))),
 (oQ 3 (.mv (.t 18))),
 (oQ 4 (.mv (.t 19)))])
 (.seq (.reg [(kQ 21 6 70 []),
 (kQ 22 7 71 []),
 (kQ 23 8 72 [(.t 21),(.t 22),(iQ 2)]),
 (oQ 20 (.mv (.t 23))),
 (oQ 24 (.ext 0 (.t 20))),
 (oQ 25 (.ext 1 (.t 20))),
 (oQ 5 (.newz 9 [zQ,zQ])),
 (uQ (.st 2 (.t 5) (.t 24))),
 (oQ 6 (.mv (.t 25)))])
 (.seq (.reg [(kQ 27 10 70 []),
 (kQ 28 11 69 []),
 (kQ 29 12 32 [(.t 27),(.t 28)]),
 (oQ 26 (.mv (.t 29))),
 (oQ 30 (.ext 0 (.t 26))),
 (oQ 31 (.ext 1 (.t 26))),
 (oQ 7 (.mv (.t 30))),
 (oQ 8 (.mv (.t 31)))])
 (.seq (.reg [(oQ 32 (.mv (.t 2))),
 (oQ 33 (.bin .eql (.t 32) (iQ 0))),
 (oQ 34 (.mv (.t 33))),
 (gQ 35 34 true (.ldn 2 (.t 1))),
 (gQ 36 34 true (.build [zQ,zQ] [(0,1,(iQ 8)),(1,1,(iQ 3))])),
 (gQ 37 34 true (.eqa false 2 [(true,0),(true,1)] (.t 35) (.t 36))),
 (oQ 38 (.pick (.t 34) (.t 37) (.c (.p (.bool false))))),
 (oQ 39 (.mv (.t 38))),
 (gQ 40 39 true (.mv (.t 4))),
 (gQ 41 39 true (.bin .eql (.t 40) (iQ 0))),
 (oQ 42 (.pick (.t 39) (.t 41) (.c (.p (.bool false))))),
 (oQ 43 (.mv (.t 42))),
 (gQ 44 43 true (.mv (.t 3))),
 (gQ 45 43 true (.bsl false 13 1 3 [zQ,zQ,zQ] [(0,1,(iQ 1)),(1,1,(iQ 3)),(2,1,(iQ 4))])),
 ⟨some 46,some (some 43,true),(.call 14 58 [(.t 44),(.t 45)])⟩,
 (oQ 47 (.pick (.t 43) (.t 46) (.c (.p (.bool false))))),
 (oQ 48 (.mv (.t 47))),
 (gQ 49 48 true (.mv (.t 6))),
 (gQ 50 48 true (.bin .eql (.t 49) (iQ 0))),
 (oQ 51 (.pick (.t 48) (.t 50) (.c (.p (.bool false))))),
 (oQ 52 (.mv (.t 51))),
 (gQ 53 52 true (.ldn 2 (.t 5))),
 (gQ 54 52 true (.build [zQ,zQ] [(0,1,(iQ 1)),(1,1,(iQ 4))])),
 (gQ 55 52 true (.eqa false 2 [(true,0),(true,1)] (.t 53) (.t 54))),
 (oQ 56 (.pick (.t 52) (.t 55) (.c (.p (.bool false))))),
 (oQ 57 (.mv (.t 56))),
 (gQ 58 57 true (.mv (.t 8))),
 (gQ 59 57 true (.bin .eql (.t 58) (iQ 0))),
 (oQ 60 (.pick (.t 57) (.t 59) (.c (.p (.bool false))))),
 (oQ 61 (.mv (.t 60))),
 (gQ 62 61 true (.mv (.t 7))),
 (gQ 63 61 true (.bin .eql (.t 62) (iQ 4))),
 (oQ 64 (.pick (.t 61) (.t 63) (.c (.p (.bool false))))),
 (oQ 0 (.mv (.t 64)))])
 .ret))))))⟩
abbrev P_law04_awake:List PSh := []
abbrev R_law04_awake:List PSh := [.one .bool]
theorem e_law04_awake:cFn Try.prog 12 = some F_law04_awake.erase := by kernel_rfl
theorem k_law04_awake:callable Try.prog 12 = true := by kernel_rfl
def F_law04_few:TFn := ⟨7,1,[.tmp 2],
 (.seq (.reg [(oQ 1 (.box 0 (.t 0))),
 (oQ 2 (.mv (.c (.p (.bool false)))))])
 (.seq (.reg [(oQ 3 (.fa 0 (.t 1))),
 (oQ 4 (.ld1 (.t 3))),
 (oQ 5 (.len false (.t 4))),
 (oQ 6 (.bin .leq (.t 5) (iQ 6))),
 (oQ 2 (.mv (.t 6)))])
 .ret))⟩
def A_law04_few:Nat→Ty := tyAt [.un]
abbrev P_law04_few:List PSh := [.agg (.sl pQ)]
abbrev R_law04_few:List PSh := [.one .bool]
theorem e_law04_few:cFn Try.prog 13 = some F_law04_few.erase := by kernel_rfl
theorem k_law04_few:callable Try.prog 13 = true := by kernel_rfl
def F_ref04_CopyModel:TFn := ⟨8,4,[.celln 2 1],
 (.seq (.reg [(oQ 1 (.box 0 (.t 0))),
 (oQ 2 (.newz 1 [(.p (.sl 0 [] true))]))])
 (.seq (.reg [(oQ 3 (.bsl true 2 2 0 [] [])),
 (oQ 4 (.fa 0 (.t 1))),
 (oQ 5 (.ld1 (.t 4))),
 (oQ 6 (.app 3 2 16 (.t 3) (.t 5))),
 (oQ 7 (.build [(.p (.sl 0 [] true))] [(0,1,(.t 6))])),
 (uQ (.st 1 (.t 2) (.t 7)))])
 .ret))⟩
def A_ref04_CopyModel:Nat→Ty := tyAt [.un,.un,pQ,pQ]
abbrev P_ref04_CopyModel:List PSh := [.agg (.sl pQ)]
abbrev E_ref04_CopyModel:Ty := pQ
theorem e_ref04_CopyModel:cFn Try.prog 15 = some F_ref04_CopyModel.erase := by kernel_rfl
theorem k_ref04_CopyModel:callable Try.prog 15 = true := by kernel_rfl
def F_ground_CheckModel:TFn := ⟨62,12,[.tmp 2,.tmp 3],
 (.seq (.reg [(oQ 1 (.box 0 (.t 0))),
 (oQ 2 (.mv (iQ 0))),
 (oQ 3 (.mv (iQ 0)))])
 (.seq (.seq (.regd [(oQ 9 (.fa 0 (.t 1))),
 (oQ 10 (.ld1 (.t 9))),
 (oQ 11 (.len false (.t 10))),
 (oQ 12 (.bin .gtr (.t 11) (iQ 0))),
 (kQ 13 1 74 [(.t 12),(iQ 10)]),
 (oQ 14 (.fa 0 (.t 1))),
 (oQ 15 (.ld1 (.t 14))),
 (oQ 16 (.len false (.t 15))),
 (oQ 17 (.bin .leq (.t 16) (iQ 4))),
 (kQ 18 2 74 [(.t 17),(iQ 8)]),
 (oQ 19 (.bsl false 3 1 2 [zQ,zQ] [(0,1,(.t 13)),(1,1,(.t 18))])),
 (kQ 20 4 73 [(.t 19)]),
 (oQ 4 (.mv (.t 20)))] [(1,6),(4,6)] [])
 (.seq (.reg [(oQ 21 (.mv (.t 4))),
 (oQ 22 (.bin .neq (.t 21) (iQ 0)))])
 (.cond (.t 22) (.seq (.reg [(oQ 23 (.mv (.t 4))),
 (oQ 2 (.mv (iQ 0))),
 (oQ 3 (.mv (.t 23)))])
 .ret) .skip)))
 (.seq (.seq (.reg [(oQ 24 (.fa 0 (.t 1))),
 (oQ 25 (.ld1 (.t 24))),
 (oQ 26 (.len false (.t 25))),
 (oQ 27 (.mv (iQ 0)))])
 (.block 0 (.loop [.v 27 tQ] [5] [5] (.seq (.reg [(oQ 28 (.bin .lss (.t 27) (.t 26)))])
 (.seq (.cond (.t 28) .skip (.exit 0))
 (.seq (.block 1 (.seq (.reg [(oQ 29 (.mv (.t 27))),
 (oQ 30 (.ia 2 (.t 25) (.t 27))),
 (oQ 31 (.ldn 2 (.t 30))),
 (oQ 6 (.newz 5 [zQ,zQ])),
 (oQ 5 (.mv (.t 29))),
 (uQ (.st 2 (.t 6) (.t 31)))])
 (.seq (.reg [(oQ 32 (.mv (.t 5))),
 (oQ 33 (.fa 0 (.t 1))),
 (oQ 34 (.ld1 (.t 33))),
 (oQ 35 (.len false (.t 34))),
 (oQ 36 (.bin .sub (.t 35) (iQ 1))),
 (oQ 37 (.bin .eql (.t 32) (.t 36))),
 (oQ 7 (.mv (.t 37)))])
 (.seq (.reg [(oQ 38 (.fa 0 (.t 6))),
 (oQ 39 (.ld1 (.t 38))),
 (kQ 40 6 75 [(.t 39)]),
 (oQ 41 (.mv (.t 40))),
 (gQ 42 41 true (.fa 1 (.t 6))),
 (gQ 43 41 true (.ld1 (.t 42))),
 ⟨some 44,some (some 41,true),(.call 7 76 [(.t 43)])⟩,
 (oQ 45 (.pick (.t 41) (.t 44) (.c (.p (.bool false))))),
 (kQ 46 8 74 [(.t 45),(iQ 2)]),
 (oQ 47 (.mv (.t 7))),
 (oQ 48 (.unot (.t 47))),
 (oQ 49 (.mv (.t 48))),
 (gQ 50 49 false (.fa 1 (.t 6))),
 (gQ 51 49 false (.ld1 (.t 50))),
 (gQ 52 49 false (.bin .eql (.t 51) (iQ 0))),
 (oQ 53 (.pick (.t 49) (.c (.p (.bool true))) (.t 52))),
 (kQ 54 9 74 [(.t 53),(iQ 3)]),
 (oQ 55 (.bsl false 10 1 2 [zQ,zQ] [(0,1,(.t 46)),(1,1,(.t 54))])),
 (kQ 56 11 73 [(.t 55)]),
 (oQ 8 (.mv (.t 56)))])
 (.seq (.reg [(oQ 57 (.mv (.t 8))),
 (oQ 58 (.bin .neq (.t 57) (iQ 0)))])
 (.cond (.t 58) (.seq (.reg [(oQ 59 (.mv (.t 5))),
 (oQ 60 (.mv (.t 8))),
 (oQ 2 (.mv (.t 59))),
 (oQ 3 (.mv (.t 60)))])
 .ret) .skip))))))
 (.reg [(oQ 61 (.bin .add (.t 27) (iQ 1))),
 (oQ 27 (.mv (.t 61)))])))))))
 (.seq (.reg [(oQ 2 (.mv (iQ 0))),
 (oQ 3 (.mv (iQ 0)))])
 .ret))))⟩
def A_ground_CheckModel:Nat→Ty := tyAt [.un,.un,.un,tQ,.un,.un,.un,.un,.un,.un,tQ,.un]
abbrev P_ground_CheckModel:List PSh := [.agg (.sl pQ)]
abbrev R_ground_CheckModel:List PSh := [.one tQ,.one tQ]
theorem e_ground_CheckModel:cFn Try.prog 14 = some F_ground_CheckModel.erase := by kernel_rfl
theorem k_ground_CheckModel:callable Try.prog 14 = true := by kernel_rfl
def F_ground_ResponseAt:TFn := ⟨24,8,[.celln 4 2,.tmp 5],
 (.seq (.reg [(oQ 2 (.box 0 (.t 0))),
 (oQ 4 (.newz 1 [zQ,zQ])),
 (oQ 5 (.mv (iQ 0)))])
 (.seq (.seq (.reg [(oQ 7 (.ldn 1 (.t 2))),
 (kQ 8 2 77 [(.t 7)]),
 (oQ 9 (.mv (.t 1))),
 (kQ 10 3 78 [(.t 9)]),
 (oQ 11 (.bsl false 4 1 2 [zQ,zQ] [(0,1,(.t 8)),(1,1,(.t 10))])),
 (kQ 12 5 73 [(.t 11)]),
 (oQ 6 (.mv (.t 12)))])
 (.seq (.reg [(oQ 13 (.mv (.t 6))),
 (oQ 14 (.bin .neq (.t 13) (iQ 0)))])
 (.cond (.t 14) (.seq (.reg [(oQ 15 (.build [zQ,zQ] [])),
 (oQ 16 (.mv (.t 6))),
 (uQ (.st 2 (.t 4) (.t 15))),
 (oQ 5 (.mv (.t 16)))])
 .ret) .skip)))
 (.seq (.reg [(oQ 17 (.fa 0 (.t 2))),
 (oQ 18 (.ld1 (.t 17))),
 (oQ 19 (.mv (.t 1))),
 (kQ 20 6 79 [(.t 18),(.t 19)]),
 (kQ 21 7 80 [(.t 20)]),
 (oQ 22 (.ext 0 (.t 21))),
 (oQ 23 (.ext 1 (.t 21))),
 (uQ (.st 2 (.t 4) (.t 22))),
 (oQ 5 (.mv (.t 23)))])
 .ret)))⟩
theorem e_ground_ResponseAt:cFn Try.prog 16 = some F_ground_ResponseAt.erase := by kernel_rfl
def F_ref04_CheckModel:TFn := ⟨55,3,[.tmp 2,.tmp 3],
 (.seq (.reg [(oQ 1 (.box 0 (.t 0))),
 (oQ 2 (.mv (iQ 0))),
 (oQ 3 (.mv (iQ 0)))])
 (.seq (.seq (.reg [(oQ 5 (.fa 0 (.t 1))),
 (oQ 6 (.ld1 (.t 5))),
 (oQ 7 (.len false (.t 6))),
 (oQ 8 (.bin .eql (.t 7) (iQ 0)))])
 (.cond (.t 8) (.seq (.reg [(oQ 2 (.mv (iQ 0))),
 (oQ 3 (.mv (iQ 10)))])
 .ret) .skip))
 (.seq (.seq (.reg [(oQ 9 (.fa 0 (.t 1))),
 (oQ 10 (.ld1 (.t 9))),
 (oQ 11 (.len false (.t 10))),
 (oQ 12 (.bin .gtr (.t 11) (iQ 4)))])
 (.cond (.t 12) (.seq (.reg [(oQ 2 (.mv (iQ 0))),
 (oQ 3 (.mv (iQ 8)))])
 .ret) .skip))
 (.seq (.seq (.reg [(oQ 4 (.mv (iQ 0)))])
 (.block 0 (.loop [.v 4 tQ] [] [] (.seq (.seq (.reg [(oQ 13 (.mv (.t 4))),
 (oQ 14 (.fa 0 (.t 1))),
 (oQ 15 (.ld1 (.t 14))),
 (oQ 16 (.len false (.t 15))),
 (oQ 17 (.bin .lss (.t 13) (.t 16)))])
 (.cond (.t 17) .skip (.exit 0)))
 (.seq (.block 1 (.seq (.seq (.reg [(oQ 20 (.fa 0 (.t 1))),
 (oQ 21 (.ld1 (.t 20))),
 (oQ 22 (.mv (.t 4))),
 (oQ 23 (.ia 2 (.t 21) (.t 22))),
 (oQ 24 (.fa 0 (.t 23))),
 (oQ 25 (.ld1 (.t 24))),
 (kQ 26 1 81 [(.t 25)]),
 (oQ 27 (.unot (.t 26))),
 (oQ 28 (.mv (.t 27))),
 (gQ 29 28 false (.fa 0 (.t 1))),
 (gQ 30 28 false (.ld1 (.t 29))),
 (gQ 31 28 false (.mv (.t 4))),
 (gQ 32 28 false (.ia 2 (.t 30) (.t 31))),
 (gQ 33 28 false (.fa 1 (.t 32))),
 (gQ 34 28 false (.ld1 (.t 33))),
 ⟨some 35,some (some 28,false),(.call 2 82 [(.t 34)])⟩,
 (gQ 36 28 false (.unot (.t 35))),
 (oQ 37 (.pick (.t 28) (.c (.p (.bool true))) (.t 36)))])
 (.cond (.t 37) (.seq (.reg [(oQ 38 (.mv (.t 4))),
 (oQ 2 (.mv (.t 38))),
 (oQ 3 (.mv (iQ 2)))])
 .ret) .skip))
 (.seq (.reg [(oQ 39 (.mv (.t 4))),
 (oQ 40 (.fa 0 (.t 1))),
 (oQ 41 (.ld1 (.t 40))),
 (oQ 42 (.len false (.t 41))),
 (oQ 43 (.bin .sub (.t 42) (iQ 1))),
 (oQ 44 (.bin .eql (.t 39) (.t 43))),
 (oQ 45 (.mv (.t 44))),
 (gQ 46 45 true (.fa 0 (.t 1))),
 (gQ 47 45 true (.ld1 (.t 46))),
 (gQ 48 45 true (.mv (.t 4))),
 (gQ 49 45 true (.ia 2 (.t 47) (.t 48))),
 (gQ 50 45 true (.fa 1 (.t 49))),
 (gQ 51 45 true (.ld1 (.t 50))),
 (gQ 52 45 true (.bin .neq (.t 51) (iQ 0))),
 (oQ 53 (.pick (.t 45) (.t 52) (.c (.p (.bool false)))))])
 (.cond (.t 53) (.seq (.reg [(oQ 54 (.mv (.t 4))),
 (oQ 2 (.mv (.t 54))),
 (oQ 3 (.mv (iQ 3)))])
 .ret) .skip))))
 (.reg [(oQ 18 (.mv (.t 4))),
 (oQ 19 (.bin .add (.t 18) (iQ 1))),
 (oQ 4 (.mv (.t 19)))]))))))
 (.seq (.reg [(oQ 2 (.mv (iQ 0))),
 (oQ 3 (.mv (iQ 0)))])
 .ret)))))⟩
def A_ref04_CheckModel:Nat→Ty := tyAt [.un,.un,.un]
abbrev P_ref04_CheckModel:List PSh := [.agg (.sl pQ)]
abbrev R_ref04_CheckModel:List PSh := [.one tQ,.one tQ]
theorem e_ref04_CheckModel:cFn Try.prog 17 = some F_ref04_CheckModel.erase := by kernel_rfl
theorem k_ref04_CheckModel:callable Try.prog 17 = true := by kernel_rfl
def F_ref04_ScaleErr:TFn := ⟨6,1,[.tmp 2],
 (.seq (.reg [(oQ 2 (.mv (iQ 0)))])
 (.seq (.seq (.reg [(oQ 3 (.mv (.t 0))),
 (kQ 4 0 35 [(.t 3),(iQ 1),(iQ 20)]),
 (oQ 5 (.unot (.t 4)))])
 (.cond (.t 5) (.seq (.reg [(oQ 2 (.mv (iQ 2)))])
 .ret) .skip))
 (.seq (.reg [(oQ 2 (.mv (iQ 0)))])
 .ret)))⟩
def A_ref04_ScaleErr:Nat→Ty := tyAt [.un]
abbrev P_ref04_ScaleErr:List PSh := [.one tQ]
abbrev R_ref04_ScaleErr:List PSh := [.one tQ]
theorem e_ref04_ScaleErr:cFn Try.prog 18 = some F_ref04_ScaleErr.erase := by kernel_rfl
theorem k_ref04_ScaleErr:callable Try.prog 18 = true := by kernel_rfl
def F_ref04_Response:TFn := ⟨59,16,[.celln 4 4],
 (.seq (.reg [(oQ 2 (.box 0 (.t 0))),
 (oQ 4 (.newz 1 [zQ,(.p (.sl 0 [] true)),zQ,(.p (.sl 0 [] true))]))])
 (.seq (.reg [(oQ 12 (.fa 0 (.t 2))),
 (oQ 13 (.ld1 (.t 12))),
 (oQ 14 (.len false (.t 13))),
 (oQ 5 (.mv (.t 14)))])
 (.seq (.reg [(oQ 15 (.fa 0 (.t 2))),
 (oQ 16 (.ld1 (.t 15))),
 (oQ 17 (.mv (.t 5))),
 (oQ 18 (.bin .sub (.t 17) (iQ 1))),
 (oQ 19 (.ia 2 (.t 16) (.t 18))),
 (oQ 20 (.fa 0 (.t 19))),
 (oQ 21 (.ld1 (.t 20))),
 (kQ 22 2 84 [(.t 21)]),
 (oQ 6 (.newz 3 [zQ,(.p (.sl 0 [] true)),zQ,(.p (.sl 0 [] true))])),
 (uQ (.st 4 (.t 6) (.t 22)))])
 (.seq (.seq (.reg [(oQ 23 (.mv (.t 5))),
 (oQ 24 (.bin .sub (.t 23) (iQ 2))),
 (oQ 7 (.mv (.t 24)))])
 (.block 0 (.loop [.v 7 tQ,.c 3 (.pr tQ (.pr (.sl tQ) (.pr tQ (.sl tQ))))] [3,4,7,8,12] [4,7,8,12] (.seq (.seq (.reg [(oQ 25 (.mv (.t 7))),
 (oQ 26 (.bin .geq (.t 25) (iQ 0)))])
 (.cond (.t 26) .skip (.exit 0)))
 (.seq (.block 1 (.seq (.reg [(oQ 29 (.fa 0 (.t 2))),
 (oQ 30 (.ld1 (.t 29))),
 (oQ 31 (.mv (.t 7))),
 (oQ 32 (.ia 2 (.t 30) (.t 31))),
 (oQ 33 (.ldn 2 (.t 32))),
 (oQ 8 (.newz 4 [zQ,zQ])),
 (uQ (.st 2 (.t 8) (.t 33)))])
 (.seq (.regd [(oQ 34 (.fa 0 (.t 8))),
 (oQ 35 (.ld1 (.t 34))),
 (kQ 36 5 84 [(.t 35)]),
 (oQ 37 (.fa 1 (.t 8))),
 (oQ 38 (.ld1 (.t 37))),
 (oQ 39 (.fa 1 (.t 8))),
 (oQ 40 (.ld1 (.t 39))),
 (oQ 41 (.mv (.t 1))),
 (oQ 42 (.bin .add (.t 40) (.t 41))),
 (kQ 43 6 85 [(.t 38),(.t 42)]),
 (oQ 9 (.newz 7 [zQ,(.p (.sl 0 [] true)),zQ,(.p (.sl 0 [] true))])),
 (oQ 10 (.newz 8 [zQ,(.p (.sl 0 [] true)),zQ,(.p (.sl 0 [] true))])),
 (uQ (.st 4 (.t 9) (.t 36))),
 (uQ (.st 4 (.t 10) (.t 43)))] [(1,4),(2,4),(1,6),(2,6),(4,6),(1,10),(2,10),(4,10),(6,10),(9,10),(1,11),(2,11),(4,11),(6,11),(9,11),(10,11)] [])
 (.seq (.regd [(oQ 44 (.ldn 4 (.t 9))),
 (oQ 45 (.ldn 4 (.t 6))),
 (oQ 46 (.ldn 4 (.t 9))),
 (oQ 47 (.ldn 4 (.t 10))),
 (kQ 48 9 86 [(.t 46),(.t 47)]),
 (kQ 49 10 87 [(.t 45),(.t 48)]),
 (kQ 50 11 86 [(.t 44),(.t 49)]),
 (oQ 11 (.newz 12 [zQ,(.p (.sl 0 [] true)),zQ,(.p (.sl 0 [] true))])),
 (uQ (.st 4 (.t 11) (.t 50)))] [(0,1),(0,2),(1,2),(0,3),(1,3),(2,3),(0,4),(1,4),(0,5),(0,7),(1,7),(2,7),(3,7),(4,7),(5,7),(6,7)] [])
 (.regd [(oQ 51 (.ldn 4 (.t 11))),
 (oQ 52 (.ldn 4 (.t 9))),
 (oQ 53 (.ldn 4 (.t 6))),
 (oQ 54 (.ldn 4 (.t 10))),
 (kQ 55 13 86 [(.t 53),(.t 54)]),
 (kQ 56 14 87 [(.t 52),(.t 55)]),
 (kQ 57 15 88 [(.t 51),(.t 56)]),
 (uQ (.st 4 (.t 6) (.t 57)))] [(0,1),(0,2),(1,2),(0,3),(1,3),(2,3),(0,4),(1,4),(0,5)] [])))))
 (.reg [(oQ 27 (.mv (.t 7))),
 (oQ 28 (.bin .sub (.t 27) (iQ 1))),
 (oQ 7 (.mv (.t 28)))]))))))
 (.seq (.reg [(oQ 58 (.ldn 4 (.t 6))),
 (uQ (.st 4 (.t 4) (.t 58)))])
 .ret)))))⟩
def A_ref04_Response:Nat→Ty := tyAt [.un,.un,.un,.un,.un,.un,.un,.un,.un,.un,.un,.un,.un,.un,.un,.un]
abbrev P_ref04_Response:List PSh := [.agg (.sl pQ),.one tQ]
abbrev R_ref04_Response:List PSh := [.agg (.pr (.pr tQ (.sl tQ)) (.pr tQ (.sl tQ)))]
theorem e_ref04_Response:cFn Try.prog 20 = some F_ref04_Response.erase := by kernel_rfl
theorem k_ref04_Response:callable Try.prog 20 = true := by kernel_rfl
def F_base_RatioFrac:TFn := ⟨37,6,[.celln 2 2,.tmp 3],
 (.seq (.reg [(oQ 1 (.box 0 (.t 0))),
 (oQ 2 (.newz 1 [zQ,zQ])),
 (oQ 3 (.mv (.c (.p (.bool false)))))])
 (.seq (.reg [(oQ 10 (.fa 0 (.t 1))),
 (oQ 11 (.ldn 2 (.t 10))),
 (kQ 12 2 83 [(.t 11)]),
 (oQ 9 (.mv (.t 12))),
 (oQ 13 (.ext 0 (.t 9))),
 (oQ 14 (.ext 1 (.t 9))),
 (oQ 4 (.mv (.t 13))),
 (oQ 5 (.mv (.t 14)))])
 (.seq (.reg [(oQ 16 (.fa 2 (.t 1))),
 (oQ 17 (.ldn 2 (.t 16))),
 (kQ 18 3 83 [(.t 17)]),
 (oQ 15 (.mv (.t 18))),
 (oQ 19 (.ext 0 (.t 15))),
 (oQ 20 (.ext 1 (.t 15))),
 (oQ 6 (.mv (.t 19))),
 (oQ 7 (.mv (.t 20)))])
 (.seq (.reg [(oQ 21 (.mv (.t 4))),
 (oQ 22 (.mv (.t 6))),
 (oQ 23 (.build [zQ,zQ] [(0,1,(.t 21)),(1,1,(.t 22))])),
 (oQ 8 (.newz 4 [zQ,zQ])),
 (uQ (.st 2 (.t 8) (.t 23)))])
 (.seq (.seq (.reg [(oQ 24 (.mv (.t 5))),
 (oQ 25 (.unot (.t 24))),
 (oQ 26 (.mv (.t 25))),
 (gQ 27 26 false (.mv (.t 7))),
 (gQ 28 26 false (.unot (.t 27))),
 (oQ 29 (.pick (.t 26) (.c (.p (.bool true))) (.t 28))),
 (oQ 30 (.mv (.t 29))),
 (gQ 31 30 false (.ldn 2 (.t 8))),
 ⟨some 32,some (some 30,false),(.call 5 23 [(.t 31)])⟩,
 (gQ 33 30 false (.unot (.t 32))),
 (oQ 34 (.pick (.t 30) (.c (.p (.bool true))) (.t 33)))])
 (.cond (.t 34) (.seq (.reg [(oQ 35 (.build [zQ,zQ] [])),
 (uQ (.st 2 (.t 2) (.t 35))),
 (oQ 3 (.mv (.c (.p (.bool false)))))])
 .ret) .skip))
 (.seq (.reg [(oQ 36 (.ldn 2 (.t 8))),
 (uQ (.st 2 (.t 2) (.t 36))),
 (oQ 3 (.mv (.c (.p (.bool true)))))])
 .ret))))))⟩
def A_base_RatioFrac:Nat→Ty := tyAt [.un,.un,.un,.un,.un,.un]
abbrev P_base_RatioFrac:List PSh := [.agg (.pr (.pr tQ (.sl tQ)) (.pr tQ (.sl tQ)))]
abbrev R_base_RatioFrac:List PSh := [.agg pQ,.one .bool]
theorem e_base_RatioFrac:cFn Try.prog 19 = some F_base_RatioFrac.erase := by kernel_rfl
theorem k_base_RatioFrac:callable Try.prog 19 = true := by kernel_rfl
def F_ref04_ModelErr:TFn := ⟨11,2,[.tmp 2],
 (.seq (.reg [(oQ 1 (.box 0 (.t 0))),
 (oQ 2 (.mv (iQ 0)))])
 (.seq (.reg [(oQ 6 (.ldn 1 (.t 1))),
 (kQ 7 1 17 [(.t 6)]),
 (oQ 5 (.mv (.t 7))),
 (oQ 8 (.ext 0 (.t 5))),
 (oQ 9 (.ext 1 (.t 5))),
 (oQ 3 (.mv (.t 8))),
 (oQ 4 (.mv (.t 9)))])
 (.seq (.reg [(oQ 10 (.mv (.t 4))),
 (oQ 2 (.mv (.t 10)))])
 .ret)))⟩
def A_ref04_ModelErr:Nat→Ty := tyAt [.un,.un]
abbrev P_ref04_ModelErr:List PSh := [.agg (.sl pQ)]
abbrev R_ref04_ModelErr:List PSh := [.one tQ]
theorem e_ref04_ModelErr:cFn Try.prog 21 = some F_ref04_ModelErr.erase := by kernel_rfl
theorem k_ref04_ModelErr:callable Try.prog 21 = true := by kernel_rfl
def F_base_IsSmall:TFn := ⟨11,3,[.tmp 2],
 (.seq (.reg [(oQ 1 (.box 0 (.t 0))),
 (oQ 2 (.mv (.c (.p (.bool false)))))])
 (.seq (.reg [(oQ 3 (.fa 0 (.t 1))),
 (oQ 4 (.ld1 (.t 3))),
 (kQ 5 1 35 [(.t 4),(iQ (-1000000000)),(iQ 1000000000)]),
 (oQ 6 (.mv (.t 5))),
 (gQ 7 6 true (.fa 1 (.t 1))),
 (gQ 8 6 true (.ld1 (.t 7))),
 ⟨some 9,some (some 6,true),(.call 2 35 [(.t 8),(iQ 1),(iQ 1000000000)])⟩,
 (oQ 10 (.pick (.t 6) (.t 9) (.c (.p (.bool false))))),
 (oQ 2 (.mv (.t 10)))])
 .ret))⟩
def A_base_IsSmall:Nat→Ty := tyAt [.un,.un,.un]
abbrev P_base_IsSmall:List PSh := [.agg pQ]
abbrev R_base_IsSmall:List PSh := [.one .bool]
theorem e_base_IsSmall:cFn Try.prog 23 = some F_base_IsSmall.erase := by kernel_rfl
theorem k_base_IsSmall:callable Try.prog 23 = true := by kernel_rfl
def F_ground_CheckClass:TFn := ⟨84,15,[.tmp 2,.tmp 3],
 (.seq (.reg [(oQ 1 (.box 0 (.t 0))),
 (oQ 2 (.mv (iQ 0))),
 (oQ 3 (.mv (iQ 0)))])
 (.seq (.seq (.regd [(oQ 10 (.fa 0 (.t 1))),
 (oQ 11 (.ld1 (.t 10))),
 (oQ 12 (.len false (.t 11))),
 (oQ 13 (.bin .gtr (.t 12) (iQ 0))),
 (kQ 14 1 74 [(.t 13),(iQ 10)]),
 (oQ 15 (.fa 0 (.t 1))),
 (oQ 16 (.ld1 (.t 15))),
 (oQ 17 (.len false (.t 16))),
 (oQ 18 (.bin .leq (.t 17) (iQ 4))),
 (kQ 19 2 74 [(.t 18),(iQ 8)]),
 (oQ 20 (.bsl false 3 1 2 [zQ,zQ] [(0,1,(.t 14)),(1,1,(.t 19))])),
 (kQ 21 4 73 [(.t 20)]),
 (oQ 4 (.mv (.t 21)))] [(1,6),(4,6)] [])
 (.seq (.reg [(oQ 22 (.mv (.t 4))),
 (oQ 23 (.bin .neq (.t 22) (iQ 0)))])
 (.cond (.t 23) (.seq (.reg [(oQ 24 (.mv (.t 4))),
 (oQ 2 (.mv (iQ 0))),
 (oQ 3 (.mv (.t 24)))])
 .ret) .skip)))
 (.seq (.reg [(oQ 5 (.mv (iQ 1)))])
 (.seq (.seq (.reg [(oQ 25 (.fa 0 (.t 1))),
 (oQ 26 (.ld1 (.t 25))),
 (oQ 27 (.len false (.t 26))),
 (oQ 28 (.mv (iQ 0)))])
 (.block 0 (.loop [.v 28 tQ,.v 5 tQ] [5] [5] (.seq (.reg [(oQ 29 (.bin .lss (.t 28) (.t 27)))])
 (.seq (.cond (.t 29) .skip (.exit 0))
 (.seq (.block 1 (.seq (.reg [(oQ 30 (.mv (.t 28))),
 (oQ 31 (.ia 2 (.t 26) (.t 28))),
 (oQ 32 (.ldn 2 (.t 31))),
 (oQ 7 (.newz 5 [(.p (.sl 0 [] true)),(.p (.sl 0 [] true))])),
 (oQ 6 (.mv (.t 30))),
 (uQ (.st 2 (.t 7) (.t 32)))])
 (.seq (.reg [(oQ 33 (.mv (.t 6))),
 (oQ 34 (.fa 0 (.t 1))),
 (oQ 35 (.ld1 (.t 34))),
 (oQ 36 (.len false (.t 35))),
 (oQ 37 (.bin .sub (.t 36) (iQ 1))),
 (oQ 38 (.bin .eql (.t 33) (.t 37))),
 (oQ 8 (.mv (.t 38)))])
 (.seq (.regd [(oQ 39 (.fa 0 (.t 7))),
 (oQ 40 (.ld1 (.t 39))),
 (oQ 41 (.len false (.t 40))),
 (oQ 42 (.bin .gtr (.t 41) (iQ 0))),
 (oQ 43 (.mv (.t 42))),
 (gQ 44 43 true (.fa 1 (.t 7))),
 (gQ 45 43 true (.ld1 (.t 44))),
 (gQ 46 43 true (.len false (.t 45))),
 (gQ 47 43 true (.bin .gtr (.t 46) (iQ 0))),
 (oQ 48 (.pick (.t 43) (.t 47) (.c (.p (.bool false))))),
 (kQ 49 6 74 [(.t 48),(iQ 10)]),
 (oQ 50 (.fa 0 (.t 7))),
 (oQ 51 (.ld1 (.t 50))),
 (kQ 52 7 91 [(.t 51),(.c (.clo 75 []))]),
 (oQ 53 (.fa 1 (.t 7))),
 (oQ 54 (.ld1 (.t 53))),
 (kQ 55 8 91 [(.t 54),(.c (.clo 76 []))]),
 (oQ 56 (.mv (.t 8))),
 (oQ 57 (.unot (.t 56))),
 (oQ 58 (.mv (.t 57))),
 (gQ 59 58 false (.fa 1 (.t 7))),
 (gQ 60 58 false (.ld1 (.t 59))),
 (gQ 61 58 false (.bsl false 9 1 1 [zQ] [(0,1,(iQ 0))])),
 ⟨some 62,some (some 58,false),(.call 10 92 [(.t 60),(.t 61)])⟩,
 (oQ 63 (.pick (.t 58) (.c (.p (.bool true))) (.t 62))),
 (kQ 64 11 74 [(.t 63),(iQ 3)]),
 (oQ 65 (.bsl false 12 1 4 [zQ,zQ,zQ,zQ] [(0,1,(.t 49)),(1,1,(.t 52)),(2,1,(.t 55)),(3,1,(.t 64))])),
 (kQ 66 13 73 [(.t 65)]),
 (oQ 9 (.mv (.t 66)))] [(1,12),(6,12),(10,12),(1,15),(6,15),(10,15),(12,15),(13,15)] [])
 (.seq (.seq (.reg [(oQ 67 (.mv (.t 9))),
 (oQ 68 (.bin .neq (.t 67) (iQ 0)))])
 (.cond (.t 68) (.seq (.reg [(oQ 69 (.mv (.t 6))),
 (oQ 70 (.mv (.t 9))),
 (oQ 2 (.mv (.t 69))),
 (oQ 3 (.mv (.t 70)))])
 .ret) .skip))
 (.reg [(oQ 71 (.mv (.t 5))),
 (oQ 72 (.fa 0 (.t 7))),
 (oQ 73 (.ld1 (.t 72))),
 (oQ 74 (.len false (.t 73))),
 (oQ 75 (.fa 1 (.t 7))),
 (oQ 76 (.ld1 (.t 75))),
 (oQ 77 (.len false (.t 76))),
 (oQ 78 (.bin .mul (.t 74) (.t 77))),
 (oQ 79 (.bin .mul (.t 71) (.t 78))),
 (oQ 5 (.mv (.t 79)))]))))))
 (.reg [(oQ 80 (.bin .add (.t 28) (iQ 1))),
 (oQ 28 (.mv (.t 80)))])))))))
 (.seq (.reg [(oQ 81 (.mv (.t 5))),
 (oQ 82 (.bin .leq (.t 81) (iQ 300))),
 (kQ 83 14 74 [(.t 82),(iQ 16)]),
 (oQ 2 (.mv (iQ 0))),
 (oQ 3 (.mv (.t 83)))])
 .ret)))))⟩
theorem e_ground_CheckClass:cFn Try.prog 28 = some F_ground_CheckClass.erase := by kernel_rfl
def F_ground_NumberOf:TFn := ⟨33,11,[.cell1 4,.cell1 5],
 (.seq (.reg [(oQ 2 (.box 0 (.t 0))),
 (oQ 3 (.box 1 (.t 1))),
 (oQ 4 (.newz 2 [zQ])),
 (oQ 5 (.newz 3 [zQ]))])
 (.seq (.reg [(oQ 11 (.ldn 1 (.t 2))),
 (kQ 12 4 93 [(.t 11)]),
 (oQ 10 (.mv (.t 12))),
 (oQ 13 (.ext 0 (.t 10))),
 (oQ 14 (.ext 1 (.t 10))),
 (oQ 6 (.newz 5 [(.p (.sl 0 [] true))])),
 (uQ (.st 1 (.t 6) (.t 13))),
 (oQ 7 (.mv (.t 14)))])
 (.seq (.seq (.reg [(oQ 15 (.mv (.t 7))),
 (oQ 16 (.ldn 1 (.t 3))),
 (kQ 17 6 77 [(.t 16)]),
 (oQ 18 (.bsl false 7 1 2 [zQ,zQ] [(0,1,(.t 15)),(1,1,(.t 17))])),
 (kQ 19 8 73 [(.t 18)]),
 (oQ 7 (.mv (.t 19)))])
 (.seq (.reg [(oQ 20 (.mv (.t 7))),
 (oQ 21 (.bin .neq (.t 20) (iQ 0)))])
 (.cond (.t 21) (.seq (.reg [(oQ 22 (.mv (.t 7))),
 (uQ (.st 1 (.t 4) (iQ 0))),
 (uQ (.st 1 (.t 5) (.t 22)))])
 .ret) .skip)))
 (.seq (.seq (.reg [(oQ 23 (.ldn 1 (.t 6))),
 (oQ 24 (.bnd 1000000097 (.t 23)))])
 (.block 0 (.rng (.t 24) [25,26] [25,26,8,9,27,28,29,30,31,32] [] [9] [9] (.seq (.reg [(oQ 8 (.mv (.t 25)))])
 (.reg [(oQ 9 (.newz 9 [(.p (.sl 0 [] true))])),
 (uQ (.st 1 (.t 9) (.t 26)))]))
 (.block 1 (.seq (.reg [(oQ 27 (.fa 0 (.t 9))),
 (oQ 28 (.ld1 (.t 27))),
 (oQ 29 (.fa 0 (.t 3))),
 (oQ 30 (.ld1 (.t 29))),
 (kQ 31 10 98 [(.t 28),(.t 30)])])
 (.cond (.t 31) (.seq (.reg [(oQ 32 (.mv (.t 8))),
 (uQ (.st 1 (.t 4) (.t 32))),
 (uQ (.st 1 (.t 5) (iQ 0)))])
 .ret) .skip))))))
 (.seq (.reg [(uQ (.st 1 (.t 4) (iQ 0))),
 (uQ (.st 1 (.t 5) (iQ 6)))])
 .ret)))))⟩
theorem e_ground_NumberOf:cFn Try.prog 32 = some F_ground_NumberOf.erase := by kernel_rfl
def F_base_Within:TFn := ⟨15,0,[.tmp 6],
 (.seq (.reg [(oQ 6 (.mv (.c (.p (.bool false)))))])
 (.seq (.reg [(oQ 7 (.mv (.t 1))),
 (oQ 8 (.mv (.t 0))),
 (oQ 9 (.bin .leq (.t 7) (.t 8))),
 (oQ 10 (.mv (.t 9))),
 (gQ 11 10 true (.mv (.t 0))),
 (gQ 12 10 true (.mv (.t 2))),
 (gQ 13 10 true (.bin .leq (.t 11) (.t 12))),
 (oQ 14 (.pick (.t 10) (.t 13) (.c (.p (.bool false))))),
 (oQ 6 (.mv (.t 14)))])
 .ret))⟩
def A_base_Within:Nat→Ty := tyAt []
abbrev P_base_Within:List PSh := [.one tQ,.one tQ,.one tQ]
abbrev R_base_Within:List PSh := [.one .bool]
theorem e_base_Within:cFn Try.prog 35 = some F_base_Within.erase := by kernel_rfl
theorem k_base_Within:callable Try.prog 35 = true := by kernel_rfl
def F_ground_Explains:TFn := ⟨19,6,[.tmp 4,.tmp 5],
 (.seq (.reg [(oQ 2 (.box 0 (.t 0))),
 (oQ 4 (.mv (.c (.p (.bool false))))),
 (oQ 5 (.mv (iQ 0)))])
 (.seq (.seq (.reg [(oQ 7 (.ldn 1 (.t 2))),
 (kQ 8 1 77 [(.t 7)]),
 (oQ 9 (.mv (.t 1))),
 (kQ 10 2 101 [(.t 9)]),
 (oQ 11 (.bsl false 3 1 2 [zQ,zQ] [(0,1,(.t 8)),(1,1,(.t 10))])),
 (kQ 12 4 73 [(.t 11)]),
 (oQ 6 (.mv (.t 12)))])
 (.seq (.reg [(oQ 13 (.mv (.t 6))),
 (oQ 14 (.bin .neq (.t 13) (iQ 0)))])
 (.cond (.t 14) (.seq (.reg [(oQ 15 (.mv (.t 6))),
 (oQ 4 (.mv (.c (.p (.bool false))))),
 (oQ 5 (.mv (.t 15)))])
 .ret) .skip)))
 (.seq (.reg [(oQ 16 (.ldn 1 (.t 2))),
 (oQ 17 (.mv (.t 1))),
 (kQ 18 5 106 [(.t 16),(.t 17)]),
 (oQ 4 (.mv (.t 18))),
 (oQ 5 (.mv (iQ 0)))])
 .ret)))⟩
def A_ground_Explains:Nat→Ty := tyAt [.un,.un,.un,tQ,.un,.un]
abbrev P_ground_Explains:List PSh := [.agg (.sl pQ),.one (.sl (.pr tQ pQ))]
abbrev R_ground_Explains:List PSh := [.one .bool,.one tQ]
theorem e_ground_Explains:cFn Try.prog 44 = some F_ground_Explains.erase := by kernel_rfl
theorem k_ground_Explains:callable Try.prog 44 = true := by kernel_rfl
def F_law04_fewData:TFn := ⟨6,0,[.tmp 2],
 (.seq (.reg [(oQ 2 (.mv (.c (.p (.bool false)))))])
 (.seq (.reg [(oQ 3 (.mv (.t 0))),
 (oQ 4 (.len false (.t 3))),
 (oQ 5 (.bin .leq (.t 4) (iQ 8))),
 (oQ 2 (.mv (.t 5)))])
 .ret))⟩
def A_law04_fewData:Nat→Ty := tyAt []
abbrev P_law04_fewData:List PSh := [.one (.sl (.pr tQ pQ))]
abbrev R_law04_fewData:List PSh := [.one .bool]
theorem e_law04_fewData:cFn Try.prog 47 = some F_law04_fewData.erase := by kernel_rfl
theorem k_law04_fewData:callable Try.prog 47 = true := by kernel_rfl
def F_ref04_CopyData:TFn := ⟨6,2,[.tmp 2],
 (.seq (.reg [(oQ 2 (.mv (.c (.p (.sl 0 [] true)))))])
 (.seq (.reg [(oQ 3 (.bsl true 0 3 0 [] [])),
 (oQ 4 (.mv (.t 0))),
 (oQ 5 (.app 1 3 24 (.t 3) (.t 4))),
 (oQ 2 (.mv (.t 5)))])
 .ret))⟩
def A_ref04_CopyData:Nat→Ty := tyAt [(.pr tQ pQ),(.pr tQ pQ)]
abbrev P_ref04_CopyData:List PSh := [.one (.sl (.pr tQ pQ))]
abbrev E_ref04_CopyData:Ty := (.pr tQ pQ)
theorem e_ref04_CopyData:cFn Try.prog 49 = some F_ref04_CopyData.erase := by kernel_rfl
theorem k_ref04_CopyData:callable Try.prog 49 = true := by kernel_rfl
def F_ground_ExplainedIn:TFn := ⟨20,4,[.tmp 4,.tmp 5],
 (.seq (.reg [(oQ 2 (.box 0 (.t 0))),
 (oQ 4 (.mv (.c (.p (.sl 0 [] true))))),
 (oQ 5 (.mv (iQ 0)))])
 (.seq (.reg [(oQ 9 (.ldn 1 (.t 2))),
 (oQ 10 (.mv (.t 1))),
 (kQ 11 1 107 [(.t 9),(.t 10)]),
 (oQ 8 (.mv (.t 11))),
 (oQ 12 (.ext 0 (.t 8))),
 (oQ 13 (.ext 1 (.t 8))),
 (oQ 6 (.newz 2 [(.p (.sl 0 [] true))])),
 (uQ (.st 1 (.t 6) (.t 12))),
 (oQ 7 (.mv (.t 13)))])
 (.seq (.seq (.reg [(oQ 14 (.mv (.t 7))),
 (oQ 15 (.bin .neq (.t 14) (iQ 0)))])
 (.cond (.t 15) (.seq (.reg [(oQ 16 (.mv (.t 7))),
 (oQ 4 (.mv (.c (.p (.sl 0 [] true))))),
 (oQ 5 (.mv (.t 16)))])
 .ret) .skip))
 (.seq (.reg [(oQ 17 (.ldn 1 (.t 6))),
 (oQ 18 (.mv (.t 1))),
 (kQ 19 3 108 [(.t 17),(.t 18)]),
 (oQ 4 (.mv (.t 19))),
 (oQ 5 (.mv (iQ 0)))])
 .ret))))⟩
theorem e_ground_ExplainedIn:cFn Try.prog 48 = some F_ground_ExplainedIn.erase := by kernel_rfl
def F_ground_CheckData:TFn := ⟨77,12,[.tmp 2,.tmp 3],
 (.seq (.reg [(oQ 2 (.mv (iQ 0))),
 (oQ 3 (.mv (iQ 0)))])
 (.seq (.seq (.reg [(oQ 10 (.mv (.t 0))),
 (oQ 11 (.len false (.t 10))),
 (oQ 12 (.bin .gtr (.t 11) (iQ 0))),
 (kQ 13 0 74 [(.t 12),(iQ 10)]),
 (oQ 14 (.mv (.t 0))),
 (oQ 15 (.len false (.t 14))),
 (oQ 16 (.bin .leq (.t 15) (iQ 6))),
 (kQ 17 1 74 [(.t 16),(iQ 8)]),
 (oQ 18 (.bsl false 2 1 2 [zQ,zQ] [(0,1,(.t 13)),(1,1,(.t 17))])),
 (kQ 19 3 73 [(.t 18)]),
 (oQ 4 (.mv (.t 19)))])
 (.seq (.reg [(oQ 20 (.mv (.t 4))),
 (oQ 21 (.bin .neq (.t 20) (iQ 0)))])
 (.cond (.t 21) (.seq (.reg [(oQ 22 (.mv (.t 4))),
 (oQ 2 (.mv (iQ 0))),
 (oQ 3 (.mv (.t 22)))])
 .ret) .skip)))
 (.seq (.reg [(oQ 5 (.mv (.c (.clo 110 []))))])
 (.seq (.seq (.reg [(oQ 23 (.mv (.t 0))),
 (oQ 24 (.len false (.t 23))),
 (oQ 25 (.mv (iQ 0)))])
 (.block 0 (.loop [.v 25 tQ] [4] [4] (.seq (.reg [(oQ 26 (.bin .lss (.t 25) (.t 24)))])
 (.seq (.cond (.t 26) .skip (.exit 0))
 (.seq (.block 1 (.seq (.reg [(oQ 27 (.mv (.t 25))),
 (oQ 28 (.ia 3 (.t 23) (.t 25))),
 (oQ 29 (.ldn 3 (.t 28))),
 (oQ 7 (.newz 4 [zQ,zQ,zQ])),
 (oQ 6 (.mv (.t 27))),
 (uQ (.st 3 (.t 7) (.t 29)))])
 (.seq (.regd [(oQ 30 (.mv (.t 6))),
 (oQ 31 (.bin .eql (.t 30) (iQ 0))),
 (oQ 32 (.mv (.t 31))),
 (gQ 33 32 false (.fa 0 (.t 7))),
 (gQ 34 32 false (.ld1 (.t 33))),
 (gQ 35 32 false (.mv (.t 0))),
 (gQ 36 32 false (.mv (.t 6))),
 (gQ 37 32 false (.bin .sub (.t 36) (iQ 1))),
 (gQ 38 32 false (.ia 3 (.t 35) (.t 37))),
 (gQ 39 32 false (.fa 0 (.t 38))),
 (gQ 40 32 false (.ld1 (.t 39))),
 (gQ 41 32 false (.bin .gtr (.t 34) (.t 40))),
 (oQ 42 (.pick (.t 32) (.c (.p (.bool true))) (.t 41))),
 (oQ 8 (.mv (.t 42)))] [(4,10)] [])
 (.seq (.regd [(oQ 43 (.fa 0 (.t 7))),
 (oQ 44 (.ld1 (.t 43))),
 (kQ 45 5 78 [(.t 44)]),
 (oQ 46 (.mv (.t 5))),
 (oQ 47 (.fa 1 (.t 7))),
 (oQ 48 (.fa 0 (.t 47))),
 (oQ 49 (.ld1 (.t 48))),
 ⟨some 50,none,(.callv 6 (.t 46) [(.t 49)])⟩,
 (oQ 51 (.mv (.t 50))),
 (gQ 52 51 true (.mv (.t 5))),
 (gQ 53 51 true (.fa 1 (.t 7))),
 (gQ 54 51 true (.fa 1 (.t 53))),
 (gQ 55 51 true (.ld1 (.t 54))),
 ⟨some 56,some (some 51,true),(.callv 7 (.t 52) [(.t 55)])⟩,
 (oQ 57 (.pick (.t 51) (.t 56) (.c (.p (.bool false))))),
 (kQ 58 8 74 [(.t 57),(iQ 2)]),
 (oQ 59 (.fa 1 (.t 7))),
 (oQ 60 (.fa 0 (.t 59))),
 (oQ 61 (.ld1 (.t 60))),
 (oQ 62 (.fa 1 (.t 7))),
 (oQ 63 (.fa 1 (.t 62))),
 (oQ 64 (.ld1 (.t 63))),
 (oQ 65 (.bin .leq (.t 61) (.t 64))),
 (oQ 66 (.mv (.t 65))),
 (gQ 67 66 true (.mv (.t 8))),
 (oQ 68 (.pick (.t 66) (.t 67) (.c (.p (.bool false))))),
 (kQ 69 9 74 [(.t 68),(iQ 9)]),
 (oQ 70 (.bsl false 10 1 3 [zQ,zQ,zQ] [(0,1,(.t 45)),(1,1,(.t 58)),(2,1,(.t 69))])),
 (kQ 71 11 73 [(.t 70)]),
 (oQ 9 (.mv (.t 71)))] [(1,6),(2,6),(1,18),(2,18),(6,18),(7,18),(12,18),(13,18),(15,18),(1,21),(2,21),(6,21),(7,21),(12,21),(13,21),(15,21),(18,21)] [])
 (.seq (.reg [(oQ 72 (.mv (.t 9))),
 (oQ 73 (.bin .neq (.t 72) (iQ 0)))])
 (.cond (.t 73) (.seq (.reg [(oQ 74 (.mv (.t 6))),
 (oQ 75 (.mv (.t 9))),
 (oQ 2 (.mv (.t 74))),
 (oQ 3 (.mv (.t 75)))])
 .ret) .skip))))))
 (.reg [(oQ 76 (.bin .add (.t 25) (iQ 1))),
 (oQ 25 (.mv (.t 76)))])))))))
 (.seq (.reg [(oQ 2 (.mv (iQ 0))),
 (oQ 3 (.mv (iQ 0)))])
 .ret)))))⟩
def A_ground_CheckData:Nat→Ty := tyAt [.un,.un,tQ,.un,.un,.un,.un,.un,.un,.un,tQ,.un]
abbrev P_ground_CheckData:List PSh := [.one (.sl (.pr tQ pQ))]
abbrev R_ground_CheckData:List PSh := [.one tQ,.one tQ]
theorem e_ground_CheckData:cFn Try.prog 52 = some F_ground_CheckData.erase := by kernel_rfl
theorem k_ground_CheckData:callable Try.prog 52 = true := by kernel_rfl
def F_ground_MisfitOf:TFn := ⟨23,8,[.celln 4 2,.tmp 5],
 (.seq (.reg [(oQ 2 (.box 0 (.t 0))),
 (oQ 4 (.newz 1 [zQ,zQ])),
 (oQ 5 (.mv (iQ 0)))])
 (.seq (.seq (.reg [(oQ 7 (.ldn 1 (.t 2))),
 (kQ 8 2 77 [(.t 7)]),
 (oQ 9 (.mv (.t 1))),
 (kQ 10 3 101 [(.t 9)]),
 (oQ 11 (.bsl false 4 1 2 [zQ,zQ] [(0,1,(.t 8)),(1,1,(.t 10))])),
 (kQ 12 5 73 [(.t 11)]),
 (oQ 6 (.mv (.t 12)))])
 (.seq (.reg [(oQ 13 (.mv (.t 6))),
 (oQ 14 (.bin .neq (.t 13) (iQ 0)))])
 (.cond (.t 14) (.seq (.reg [(oQ 15 (.build [zQ,zQ] [])),
 (oQ 16 (.mv (.t 6))),
 (uQ (.st 2 (.t 4) (.t 15))),
 (oQ 5 (.mv (.t 16)))])
 .ret) .skip)))
 (.seq (.reg [(oQ 17 (.ldn 1 (.t 2))),
 (oQ 18 (.mv (.t 1))),
 (kQ 19 6 111 [(.t 17),(.t 18)]),
 (kQ 20 7 80 [(.t 19)]),
 (oQ 21 (.ext 0 (.t 20))),
 (oQ 22 (.ext 1 (.t 20))),
 (uQ (.st 2 (.t 4) (.t 21))),
 (oQ 5 (.mv (.t 22)))])
 .ret)))⟩
def A_ground_MisfitOf:Nat→Ty := tyAt [.un,.un,.un,.un,tQ,.un,.un,.un]
abbrev P_ground_MisfitOf:List PSh := [.agg (.sl pQ),.one (.sl (.pr tQ pQ))]
abbrev R_ground_MisfitOf:List PSh := [.agg pQ,.one tQ]
theorem e_ground_MisfitOf:cFn Try.prog 53 = some F_ground_MisfitOf.erase := by kernel_rfl
theorem k_ground_MisfitOf:callable Try.prog 53 = true := by kernel_rfl
def F_ref04_CheckData:TFn := ⟨77,3,[.tmp 2,.tmp 3],
 (.seq (.reg [(oQ 2 (.mv (iQ 0))),
 (oQ 3 (.mv (iQ 0)))])
 (.seq (.seq (.reg [(oQ 5 (.mv (.t 0))),
 (oQ 6 (.len false (.t 5))),
 (oQ 7 (.bin .eql (.t 6) (iQ 0)))])
 (.cond (.t 7) (.seq (.reg [(oQ 2 (.mv (iQ 0))),
 (oQ 3 (.mv (iQ 10)))])
 .ret) .skip))
 (.seq (.seq (.reg [(oQ 8 (.mv (.t 0))),
 (oQ 9 (.len false (.t 8))),
 (oQ 10 (.bin .gtr (.t 9) (iQ 6)))])
 (.cond (.t 10) (.seq (.reg [(oQ 2 (.mv (iQ 0))),
 (oQ 3 (.mv (iQ 8)))])
 .ret) .skip))
 (.seq (.seq (.reg [(oQ 4 (.mv (iQ 0)))])
 (.block 0 (.loop [.v 4 tQ] [] [] (.seq (.seq (.reg [(oQ 11 (.mv (.t 4))),
 (oQ 12 (.mv (.t 0))),
 (oQ 13 (.len false (.t 12))),
 (oQ 14 (.bin .lss (.t 11) (.t 13)))])
 (.cond (.t 14) .skip (.exit 0)))
 (.seq (.block 1 (.seq (.seq (.reg [(oQ 17 (.mv (.t 0))),
 (oQ 18 (.mv (.t 4))),
 (oQ 19 (.ia 3 (.t 17) (.t 18))),
 (oQ 20 (.fa 0 (.t 19))),
 (oQ 21 (.ld1 (.t 20))),
 (kQ 22 0 18 [(.t 21)]),
 (oQ 23 (.bin .neq (.t 22) (iQ 0))),
 (oQ 24 (.mv (.t 23))),
 (gQ 25 24 false (.mv (.t 0))),
 (gQ 26 24 false (.mv (.t 4))),
 (gQ 27 24 false (.ia 3 (.t 25) (.t 26))),
 (gQ 28 24 false (.fa 1 (.t 27))),
 (gQ 29 24 false (.fa 0 (.t 28))),
 (gQ 30 24 false (.ld1 (.t 29))),
 ⟨some 31,some (some 24,false),(.call 1 35 [(.t 30),(iQ 0),(iQ 100000)])⟩,
 (gQ 32 24 false (.unot (.t 31))),
 (oQ 33 (.pick (.t 24) (.c (.p (.bool true))) (.t 32))),
 (oQ 34 (.mv (.t 33))),
 (gQ 35 34 false (.mv (.t 0))),
 (gQ 36 34 false (.mv (.t 4))),
 (gQ 37 34 false (.ia 3 (.t 35) (.t 36))),
 (gQ 38 34 false (.fa 1 (.t 37))),
 (gQ 39 34 false (.fa 1 (.t 38))),
 (gQ 40 34 false (.ld1 (.t 39))),
 ⟨some 41,some (some 34,false),(.call 2 35 [(.t 40),(iQ 0),(iQ 100000)])⟩,
 (gQ 42 34 false (.unot (.t 41))),
 (oQ 43 (.pick (.t 34) (.c (.p (.bool true))) (.t 42)))])
 (.cond (.t 43) (.seq (.reg [(oQ 44 (.mv (.t 4))),
 (oQ 2 (.mv (.t 44))),
 (oQ 3 (.mv (iQ 2)))])
 .ret) .skip))
 (.seq (.regd [(oQ 45 (.mv (.t 0))),
 (oQ 46 (.mv (.t 4))),
 (oQ 47 (.ia 3 (.t 45) (.t 46))),
 (oQ 48 (.fa 1 (.t 47))),
 (oQ 49 (.fa 0 (.t 48))),
 (oQ 50 (.ld1 (.t 49))),
 (oQ 51 (.mv (.t 0))),
 (oQ 52 (.mv (.t 4))),
 (oQ 53 (.ia 3 (.t 51) (.t 52))),
 (oQ 54 (.fa 1 (.t 53))),
 (oQ 55 (.fa 1 (.t 54))),
 (oQ 56 (.ld1 (.t 55))),
 (oQ 57 (.bin .gtr (.t 50) (.t 56))),
 (oQ 58 (.mv (.t 57))),
 (gQ 59 58 false (.mv (.t 4))),
 (gQ 60 58 false (.bin .gtr (.t 59) (iQ 0))),
 (gQ 61 58 false (.mv (.t 60))),
 (gQ 62 61 true (.mv (.t 0))),
 (gQ 63 61 true (.mv (.t 4))),
 (gQ 64 61 true (.ia 3 (.t 62) (.t 63))),
 (gQ 65 61 true (.fa 0 (.t 64))),
 (gQ 66 61 true (.ld1 (.t 65))),
 (gQ 67 61 true (.mv (.t 0))),
 (gQ 68 61 true (.mv (.t 4))),
 (gQ 69 61 true (.bin .sub (.t 68) (iQ 1))),
 (gQ 70 61 true (.ia 3 (.t 67) (.t 69))),
 (gQ 71 61 true (.fa 0 (.t 70))),
 (gQ 72 61 true (.ld1 (.t 71))),
 (gQ 73 61 true (.bin .leq (.t 66) (.t 72))),
 (gQ 74 58 false (.pick (.t 61) (.t 73) (.c (.p (.bool false))))),
 (oQ 75 (.pick (.t 58) (.c (.p (.bool true))) (.t 74)))] [(5,11),(21,27)] [])
 (.cond (.t 75) (.seq (.reg [(oQ 76 (.mv (.t 4))),
 (oQ 2 (.mv (.t 76))),
 (oQ 3 (.mv (iQ 9)))])
 .ret) .skip))))
 (.reg [(oQ 15 (.mv (.t 4))),
 (oQ 16 (.bin .add (.t 15) (iQ 1))),
 (oQ 4 (.mv (.t 16)))]))))))
 (.seq (.reg [(oQ 2 (.mv (iQ 0))),
 (oQ 3 (.mv (iQ 0)))])
 .ret)))))⟩
def A_ref04_CheckData:Nat→Ty := tyAt [.un,.un,.un]
abbrev P_ref04_CheckData:List PSh := [.one (.sl (.pr tQ pQ))]
abbrev R_ref04_CheckData:List PSh := [.one tQ,.one tQ]
theorem e_ref04_CheckData:cFn Try.prog 54 = some F_ref04_CheckData.erase := by kernel_rfl
theorem k_ref04_CheckData:callable Try.prog 54 = true := by kernel_rfl
def F_ref04_Misfit:TFn := ⟨33,8,[.celln 4 4],
 (.seq (.reg [(oQ 2 (.box 0 (.t 0))),
 (oQ 4 (.newz 1 [zQ,(.p (.sl 0 [] true)),zQ,(.p (.sl 0 [] true))]))])
 (.seq (.reg [(kQ 8 2 84 [(iQ 0)]),
 (oQ 5 (.newz 3 [zQ,(.p (.sl 0 [] true)),zQ,(.p (.sl 0 [] true))])),
 (uQ (.st 4 (.t 5) (.t 8)))])
 (.seq (.seq (.reg [(oQ 6 (.mv (iQ 0)))])
 (.block 0 (.loop [.v 6 tQ,.c 3 (.pr tQ (.pr (.sl tQ) (.pr tQ (.sl tQ))))] [3,6] [6] (.seq (.seq (.reg [(oQ 9 (.mv (.t 6))),
 (oQ 10 (.mv (.t 1))),
 (oQ 11 (.len false (.t 10))),
 (oQ 12 (.bin .lss (.t 9) (.t 11)))])
 (.cond (.t 12) .skip (.exit 0)))
 (.seq (.block 1 (.seq (.regd [(oQ 15 (.ldn 1 (.t 2))),
 (oQ 16 (.mv (.t 1))),
 (oQ 17 (.mv (.t 6))),
 (oQ 18 (.ia 3 (.t 16) (.t 17))),
 (oQ 19 (.fa 0 (.t 18))),
 (oQ 20 (.ld1 (.t 19))),
 (kQ 21 4 20 [(.t 15),(.t 20)]),
 (oQ 22 (.mv (.t 1))),
 (oQ 23 (.mv (.t 6))),
 (oQ 24 (.ia 3 (.t 22) (.t 23))),
 (oQ 25 (.ldn 3 (.t 24))),
 (kQ 26 5 112 [(.t 21),(.t 25)]),
 (oQ 7 (.newz 6 [zQ,(.p (.sl 0 [] true)),zQ,(.p (.sl 0 [] true))])),
 (uQ (.st 4 (.t 7) (.t 26)))] [(0,5),(0,10),(5,10),(6,10),(0,12),(5,12),(6,12),(10,12),(11,12)] [])
 (.seq (.reg [(oQ 27 (.ldn 4 (.t 7))),
 (oQ 28 (.ldn 4 (.t 5))),
 (kQ 29 7 105 [(.t 27),(.t 28)]),
 (oQ 30 (.bin .gtr (.t 29) (iQ 0)))])
 (.cond (.t 30) (.reg [(oQ 31 (.ldn 4 (.t 7))),
 (uQ (.st 4 (.t 5) (.t 31)))]) .skip))))
 (.reg [(oQ 13 (.mv (.t 6))),
 (oQ 14 (.bin .add (.t 13) (iQ 1))),
 (oQ 6 (.mv (.t 14)))]))))))
 (.seq (.reg [(oQ 32 (.ldn 4 (.t 5))),
 (uQ (.st 4 (.t 4) (.t 32)))])
 .ret))))⟩
def A_ref04_Misfit:Nat→Ty := tyAt [.un,.un,.un,.un,.un,.un,.un,.un]
abbrev P_ref04_Misfit:List PSh := [.agg (.sl pQ),.one (.sl (.pr tQ pQ))]
abbrev R_ref04_Misfit:List PSh := [.agg (.pr (.pr tQ (.sl tQ)) (.pr tQ (.sl tQ)))]
theorem e_ref04_Misfit:cFn Try.prog 55 = some F_ref04_Misfit.erase := by kernel_rfl
theorem k_ref04_Misfit:callable Try.prog 55 = true := by kernel_rfl
def F_ref04_Explains:TFn := ⟨10,3,[.tmp 4],
 (.seq (.reg [(oQ 2 (.box 0 (.t 0))),
 (oQ 4 (.mv (.c (.p (.bool false)))))])
 (.seq (.reg [(oQ 5 (.ldn 1 (.t 2))),
 (oQ 6 (.mv (.t 1))),
 (kQ 7 1 55 [(.t 5),(.t 6)]),
 (kQ 8 2 113 [(.t 7)]),
 (oQ 9 (.bin .eql (.t 8) (iQ 0))),
 (oQ 4 (.mv (.t 9)))])
 .ret))⟩
def A_ref04_Explains:Nat→Ty := tyAt [.un,.un,.un]
abbrev P_ref04_Explains:List PSh := [.agg (.sl pQ),.one (.sl (.pr tQ pQ))]
abbrev R_ref04_Explains:List PSh := [.one .bool]
theorem e_ref04_Explains:cFn Try.prog 56 = some F_ref04_Explains.erase := by kernel_rfl
theorem k_ref04_Explains:callable Try.prog 56 = true := by kernel_rfl
def F_base_Ints:TFn := ⟨26,0,[.tmp 4],
 (.seq (.reg [(oQ 4 (.mv (.c (.p (.bool false)))))])
 (.seq (.seq (.reg [(oQ 6 (.mv (.t 0))),
 (oQ 7 (.len false (.t 6))),
 (oQ 8 (.mv (.t 1))),
 (oQ 9 (.len false (.t 8))),
 (oQ 10 (.bin .neq (.t 7) (.t 9)))])
 (.cond (.t 10) (.seq (.reg [(oQ 4 (.mv (.c (.p (.bool false)))))])
 .ret) .skip))
 (.seq (.seq (.reg [(oQ 5 (.mv (iQ 0)))])
 (.block 0 (.loop [.v 5 tQ] [] [] (.seq (.seq (.reg [(oQ 11 (.mv (.t 5))),
 (oQ 12 (.mv (.t 0))),
 (oQ 13 (.len false (.t 12))),
 (oQ 14 (.bin .lss (.t 11) (.t 13)))])
 (.cond (.t 14) .skip (.exit 0)))
 (.seq (.block 1 (.seq (.regd [(oQ 17 (.mv (.t 0))),
 (oQ 18 (.mv (.t 5))),
 (oQ 19 (.ia 1 (.t 17) (.t 18))),
 (oQ 20 (.ld1 (.t 19))),
 (oQ 21 (.mv (.t 1))),
 (oQ 22 (.mv (.t 5))),
 (oQ 23 (.ia 1 (.t 21) (.t 22))),
 (oQ 24 (.ld1 (.t 23))),
 (oQ 25 (.bin .neq (.t 20) (.t 24)))] [(3,7)] [])
 (.cond (.t 25) (.seq (.reg [(oQ 4 (.mv (.c (.p (.bool false)))))])
 .ret) .skip)))
 (.reg [(oQ 15 (.mv (.t 5))),
 (oQ 16 (.bin .add (.t 15) (iQ 1))),
 (oQ 5 (.mv (.t 16)))]))))))
 (.seq (.reg [(oQ 4 (.mv (.c (.p (.bool true)))))])
 .ret))))⟩
theorem e_base_Ints:cFn Try.prog 58 = some F_base_Ints.erase := by kernel_rfl
def F_law04_Model:TFn := ⟨5,2,[.celln 0 1],
 (.seq (.reg [(oQ 0 (.newz 0 [(.p (.sl 0 [] true))]))])
 (.seq (.reg [(oQ 1 (.build [zQ,zQ] [(0,1,(iQ 4)),(1,1,(iQ 2))])),
 (oQ 2 (.build [zQ,zQ] [(0,1,(iQ 1))])),
 (oQ 3 (.bsl false 1 2 2 [zQ,zQ,zQ,zQ] [(0,2,(.t 1)),(2,2,(.t 2))])),
 (oQ 4 (.build [(.p (.sl 0 [] true))] [(0,1,(.t 3))])),
 (uQ (.st 1 (.t 0) (.t 4)))])
 .ret))⟩
theorem e_law04_Model:cFn Try.prog 69 = some F_law04_Model.erase := by kernel_rfl
def F_law04_Class:TFn := ⟨9,6,[.celln 0 1],
 (.seq (.reg [(oQ 0 (.newz 0 [(.p (.sl 0 [] true))]))])
 (.seq (.reg [(oQ 1 (.bsl false 1 1 2 [zQ,zQ] [(0,1,(iQ 2)),(1,1,(iQ 4))])),
 (oQ 2 (.bsl false 2 1 2 [zQ,zQ] [(0,1,(iQ 2)),(1,1,(iQ 4))])),
 (oQ 3 (.build [(.p (.sl 0 [] true)),(.p (.sl 0 [] true))] [(0,1,(.t 1)),(1,1,(.t 2))])),
 (oQ 4 (.bsl false 3 1 2 [zQ,zQ] [(0,1,(iQ 1)),(1,1,(iQ 8))])),
 (oQ 5 (.bsl false 4 1 1 [zQ] [(0,1,(iQ 0))])),
 (oQ 6 (.build [(.p (.sl 0 [] true)),(.p (.sl 0 [] true))] [(0,1,(.t 4)),(1,1,(.t 5))])),
 (oQ 7 (.bsl false 5 2 2 [(.p (.sl 0 [] true)),(.p (.sl 0 [] true)),(.p (.sl 0 [] true)),(.p (.sl 0 [] true))] [(0,2,(.t 3)),(2,2,(.t 6))])),
 (oQ 8 (.build [(.p (.sl 0 [] true))] [(0,1,(.t 7))])),
 (uQ (.st 1 (.t 0) (.t 8)))])
 .ret))⟩
theorem e_law04_Class:cFn Try.prog 70 = some F_law04_Class.erase := by kernel_rfl
def F_law04_Data:TFn := ⟨4,1,[.tmp 0],
 (.seq (.reg [(oQ 0 (.mv (.c (.p (.sl 0 [] true)))))])
 (.seq (.reg [(oQ 1 (.build [zQ,zQ] [(0,1,(iQ 2500)),(1,1,(iQ 3100))])),
 (oQ 2 (.build [zQ,zQ,zQ] [(0,1,(iQ 2)),(1,2,(.t 1))])),
 (oQ 3 (.bsl false 0 3 1 [zQ,zQ,zQ] [(0,3,(.t 2))])),
 (oQ 0 (.mv (.t 3)))])
 .ret))⟩
theorem e_law04_Data:cFn Try.prog 71 = some F_law04_Data.erase := by kernel_rfl
def F_ground_TwoOf:TFn := ⟨64,12,[.celln 6 2,.tmp 7],
 (.seq (.reg [(oQ 3 (.box 0 (.t 0))),
 (oQ 6 (.newz 1 [zQ,zQ])),
 (oQ 7 (.mv (iQ 0)))])
 (.seq (.reg [(oQ 16 (.ldn 1 (.t 3))),
 (oQ 17 (.mv (.t 1))),
 (kQ 18 2 107 [(.t 16),(.t 17)]),
 (oQ 15 (.mv (.t 18))),
 (oQ 19 (.ext 0 (.t 15))),
 (oQ 20 (.ext 1 (.t 15))),
 (oQ 8 (.newz 3 [(.p (.sl 0 [] true))])),
 (uQ (.st 1 (.t 8) (.t 19))),
 (oQ 9 (.mv (.t 20)))])
 (.seq (.seq (.reg [(oQ 21 (.mv (.t 9))),
 (oQ 22 (.mv (.t 2))),
 (kQ 23 4 95 [(.t 22),(iQ 1),(iQ 20)]),
 (kQ 24 5 74 [(.t 23),(iQ 2)]),
 (oQ 25 (.bsl false 6 1 2 [zQ,zQ] [(0,1,(.t 21)),(1,1,(.t 24))])),
 (kQ 26 7 73 [(.t 25)]),
 (oQ 9 (.mv (.t 26)))])
 (.seq (.reg [(oQ 27 (.mv (.t 9))),
 (oQ 28 (.bin .neq (.t 27) (iQ 0)))])
 (.cond (.t 28) (.seq (.reg [(oQ 29 (.build [zQ,zQ] [])),
 (oQ 30 (.mv (.t 9))),
 (uQ (.st 2 (.t 6) (.t 29))),
 (oQ 7 (.mv (.t 30)))])
 .ret) .skip)))
 (.seq (.reg [(oQ 31 (.ldn 1 (.t 8))),
 (oQ 32 (.mv (.t 1))),
 (kQ 33 8 108 [(.t 31),(.t 32)]),
 (oQ 10 (.mv (.t 33)))])
 (.seq (.seq (.reg [(oQ 34 (.mv (.t 10))),
 (oQ 35 (.len false (.t 34))),
 (oQ 36 (.mv (iQ 0)))])
 (.block 0 (.loop [.v 36 tQ] [] [] (.seq (.reg [(oQ 37 (.bin .lss (.t 36) (.t 35)))])
 (.seq (.cond (.t 37) .skip (.exit 0))
 (.seq (.block 1 (.seq (.reg [(oQ 38 (.mv (.t 36))),
 (oQ 39 (.ia 1 (.t 34) (.t 36))),
 (oQ 40 (.ld1 (.t 39))),
 (oQ 11 (.mv (.t 38))),
 (oQ 12 (.mv (.t 40)))])
 (.seq (.reg [(oQ 41 (.mv (.t 10))),
 (oQ 42 (.mv (.t 11))),
 (oQ 43 (.bin .add (.t 42) (iQ 1))),
 (oQ 44 (.sl 1 (.t 41) (some (.t 43)) none)),
 (oQ 45 (.len false (.t 44))),
 (oQ 46 (.mv (iQ 0)))])
 (.block 2 (.loop [.v 46 tQ] [] [] (.seq (.reg [(oQ 47 (.bin .lss (.t 46) (.t 45)))])
 (.seq (.cond (.t 47) .skip (.exit 2))
 (.seq (.block 3 (.seq (.reg [(oQ 48 (.ia 1 (.t 44) (.t 46))),
 (oQ 49 (.ld1 (.t 48))),
 (oQ 14 (.mv (.t 49)))])
 (.seq (.regd [(oQ 50 (.ldn 1 (.t 8))),
 (oQ 51 (.mv (.t 12))),
 (kQ 52 9 96 [(.t 50),(.t 51)]),
 (oQ 53 (.ldn 1 (.t 8))),
 (oQ 54 (.mv (.t 14))),
 (kQ 55 10 96 [(.t 53),(.t 54)]),
 (oQ 56 (.mv (.t 2))),
 (kQ 57 11 124 [(.t 52),(.t 55),(.t 56)])] [(0,3),(2,3)] [])
 (.cond (.t 57) (.seq (.reg [(oQ 58 (.mv (.t 12))),
 (oQ 59 (.mv (.t 14))),
 (oQ 60 (.build [zQ,zQ] [(0,1,(.t 58)),(1,1,(.t 59))])),
 (uQ (.st 2 (.t 6) (.t 60))),
 (oQ 7 (.mv (iQ 0)))])
 .ret) .skip))))
 (.reg [(oQ 61 (.bin .add (.t 46) (iQ 1))),
 (oQ 46 (.mv (.t 61)))])))))))))
 (.reg [(oQ 62 (.bin .add (.t 36) (iQ 1))),
 (oQ 36 (.mv (.t 62)))])))))))
 (.seq (.reg [(oQ 63 (.build [zQ,zQ] [])),
 (uQ (.st 2 (.t 6) (.t 63))),
 (oQ 7 (.mv (iQ 12)))])
 .ret))))))⟩
theorem e_ground_TwoOf:cFn Try.prog 72 = some F_ground_TwoOf.erase := by kernel_rfl
def F_ground_unless:TFn := ⟨7,0,[.tmp 4],
 (.seq (.reg [(oQ 4 (.mv (iQ 0)))])
 (.seq (.seq (.reg [(oQ 5 (.mv (.t 0)))])
 (.cond (.t 5) (.seq (.reg [(oQ 4 (.mv (iQ 0)))])
 .ret) .skip))
 (.seq (.reg [(oQ 6 (.mv (.t 1))),
 (oQ 4 (.mv (.t 6)))])
 .ret)))⟩
def A_ground_unless:Nat→Ty := tyAt []
abbrev P_ground_unless:List PSh := [.one .bool,.one tQ]
abbrev R_ground_unless:List PSh := [.one tQ]
theorem e_ground_unless:cFn Try.prog 74 = some F_ground_unless.erase := by kernel_rfl
theorem k_ground_unless:callable Try.prog 74 = true := by kernel_rfl
def F_ground_first:TFn := ⟨15,0,[.tmp 2],
 (.seq (.reg [(oQ 2 (.mv (iQ 0)))])
 (.seq (.seq (.reg [(oQ 5 (.mv (.t 0))),
 (oQ 6 (.len false (.t 5))),
 (oQ 7 (.mv (iQ 0)))])
 (.block 0 (.loop [.v 7 tQ] [] [] (.seq (.reg [(oQ 8 (.bin .lss (.t 7) (.t 6)))])
 (.seq (.cond (.t 8) .skip (.exit 0))
 (.seq (.block 1 (.seq (.reg [(oQ 9 (.ia 1 (.t 5) (.t 7))),
 (oQ 10 (.ld1 (.t 9))),
 (oQ 4 (.mv (.t 10)))])
 (.seq (.reg [(oQ 11 (.mv (.t 4))),
 (oQ 12 (.bin .neq (.t 11) (iQ 0)))])
 (.cond (.t 12) (.seq (.reg [(oQ 13 (.mv (.t 4))),
 (oQ 2 (.mv (.t 13)))])
 .ret) .skip))))
 (.reg [(oQ 14 (.bin .add (.t 7) (iQ 1))),
 (oQ 7 (.mv (.t 14)))])))))))
 (.seq (.reg [(oQ 2 (.mv (iQ 0)))])
 .ret)))⟩
def A_ground_first:Nat→Ty := tyAt []
abbrev P_ground_first:List PSh := [.one (.sl tQ)]
abbrev R_ground_first:List PSh := [.one tQ]
theorem e_ground_first:cFn Try.prog 73 = some F_ground_first.erase := by kernel_rfl
theorem k_ground_first:callable Try.prog 73 = true := by kernel_rfl
def F_ground_isConductivity:TFn := ⟨5,1,[.tmp 2],
 (.seq (.reg [(oQ 2 (.mv (.c (.p (.bool false)))))])
 (.seq (.reg [(oQ 3 (.mv (.t 0))),
 (kQ 4 0 95 [(.t 3),(iQ 1),(iQ 20)]),
 (oQ 2 (.mv (.t 4)))])
 .ret))⟩
def A_ground_isConductivity:Nat→Ty := tyAt [.un]
abbrev P_ground_isConductivity:List PSh := [.one tQ]
abbrev R_ground_isConductivity:List PSh := [.one .bool]
theorem e_ground_isConductivity:cFn Try.prog 75 = some F_ground_isConductivity.erase := by kernel_rfl
theorem k_ground_isConductivity:callable Try.prog 75 = true := by kernel_rfl
def F_ground_isThickness:TFn := ⟨5,1,[.tmp 2],
 (.seq (.reg [(oQ 2 (.mv (.c (.p (.bool false)))))])
 (.seq (.reg [(oQ 3 (.mv (.t 0))),
 (kQ 4 0 95 [(.t 3),(iQ 0),(iQ 10)]),
 (oQ 2 (.mv (.t 4)))])
 .ret))⟩
def A_ground_isThickness:Nat→Ty := tyAt [.un]
abbrev P_ground_isThickness:List PSh := [.one tQ]
abbrev R_ground_isThickness:List PSh := [.one .bool]
theorem e_ground_isThickness:cFn Try.prog 76 = some F_ground_isThickness.erase := by kernel_rfl
theorem k_ground_isThickness:callable Try.prog 76 = true := by kernel_rfl
def F_ground_modelErr:TFn := ⟨11,2,[.tmp 2],
 (.seq (.reg [(oQ 1 (.box 0 (.t 0))),
 (oQ 2 (.mv (iQ 0)))])
 (.seq (.reg [(oQ 6 (.ldn 1 (.t 1))),
 (kQ 7 1 14 [(.t 6)]),
 (oQ 5 (.mv (.t 7))),
 (oQ 8 (.ext 0 (.t 5))),
 (oQ 9 (.ext 1 (.t 5))),
 (oQ 3 (.mv (.t 8))),
 (oQ 4 (.mv (.t 9)))])
 (.seq (.reg [(oQ 10 (.mv (.t 4))),
 (oQ 2 (.mv (.t 10)))])
 .ret)))⟩
def A_ground_modelErr:Nat→Ty := tyAt [.un,.un]
abbrev P_ground_modelErr:List PSh := [.agg (.sl pQ)]
abbrev R_ground_modelErr:List PSh := [.one tQ]
theorem e_ground_modelErr:cFn Try.prog 77 = some F_ground_modelErr.erase := by kernel_rfl
theorem k_ground_modelErr:callable Try.prog 77 = true := by kernel_rfl
def F_ground_scaleErr:TFn := ⟨6,2,[.tmp 2],
 (.seq (.reg [(oQ 2 (.mv (iQ 0)))])
 (.seq (.reg [(oQ 3 (.mv (.t 0))),
 (kQ 4 0 95 [(.t 3),(iQ 1),(iQ 20)]),
 (kQ 5 1 74 [(.t 4),(iQ 2)]),
 (oQ 2 (.mv (.t 5)))])
 .ret))⟩
def A_ground_scaleErr:Nat→Ty := tyAt [.un,.un]
abbrev P_ground_scaleErr:List PSh := [.one tQ]
abbrev R_ground_scaleErr:List PSh := [.one tQ]
theorem e_ground_scaleErr:cFn Try.prog 78 = some F_ground_scaleErr.erase := by kernel_rfl
theorem k_ground_scaleErr:callable Try.prog 78 = true := by kernel_rfl
def F_ground_response:TFn := ⟨57,7,[.celln 4 2],
 (.seq (.reg [(oQ 2 (.box 0 (.t 0))),
 (oQ 3 (.box 1 (.t 1))),
 (oQ 4 (.newz 2 [zQ,zQ]))])
 (.seq (.reg [(oQ 5 (.newz 3 [zQ,zQ]))])
 (.seq (.seq (.reg [(oQ 11 (.ld1 (.t 2))),
 (kQ 12 4 125 [(.t 11)])])
 (.block 0 (.rng (.t 12) [13,14] [13,14,6,7,15,16,17,18,19,20,21,22,23,24,25,26,27,28,29,30,8,9,10,31,32,33,34,35,36,37,38,39,40,41,42,43,44,45,46,47,48,49,50,51,52,53,54,55] [.c 3 pQ] [3,5] [5] (.seq (.reg [(oQ 6 (.mv (.t 13)))])
 (.reg [(oQ 7 (.newz 5 [zQ,zQ])),
 (uQ (.st 2 (.t 7) (.t 14)))]))
 (.block 1 (.seq (.seq (.reg [(oQ 15 (.mv (.t 6))),
 (oQ 16 (.ld1 (.t 2))),
 (oQ 17 (.len false (.t 16))),
 (oQ 18 (.bin .sub (.t 17) (iQ 1))),
 (oQ 19 (.bin .eql (.t 15) (.t 18)))])
 (.cond (.t 19) (.seq (.reg [(oQ 20 (.fa 0 (.t 7))),
 (oQ 21 (.ld1 (.t 20))),
 (oQ 22 (.build [zQ,zQ] [(0,1,(.t 21)),(1,1,(iQ 1))])),
 (uQ (.st 2 (.t 5) (.t 22)))])
 (.exit 1)) .skip))
 (.seq (.regd [(oQ 23 (.fa 0 (.t 7))),
 (oQ 24 (.ld1 (.t 23))),
 (oQ 25 (.fa 1 (.t 7))),
 (oQ 26 (.ld1 (.t 25))),
 (oQ 27 (.fa 1 (.t 7))),
 (oQ 28 (.ld1 (.t 27))),
 (oQ 29 (.ld1 (.t 3))),
 (oQ 30 (.bin .add (.t 28) (.t 29))),
 (oQ 8 (.mv (.t 24))),
 (oQ 9 (.mv (.t 26))),
 (oQ 10 (.mv (.t 30)))] [(1,3),(1,5),(3,5),(1,6),(3,6),(5,6)] [])
 (.reg [(oQ 31 (.mv (.t 8))),
 (oQ 32 (.fa 0 (.t 5))),
 (oQ 33 (.ld1 (.t 32))),
 (oQ 34 (.mv (.t 10))),
 (oQ 35 (.bin .mul (.t 33) (.t 34))),
 (oQ 36 (.mv (.t 8))),
 (oQ 37 (.mv (.t 9))),
 (oQ 38 (.bin .mul (.t 36) (.t 37))),
 (oQ 39 (.fa 1 (.t 5))),
 (oQ 40 (.ld1 (.t 39))),
 (oQ 41 (.bin .mul (.t 38) (.t 40))),
 (oQ 42 (.bin .add (.t 35) (.t 41))),
 (oQ 43 (.bin .mul (.t 31) (.t 42))),
 (oQ 44 (.mv (.t 8))),
 (oQ 45 (.fa 1 (.t 5))),
 (oQ 46 (.ld1 (.t 45))),
 (oQ 47 (.bin .mul (.t 44) (.t 46))),
 (oQ 48 (.mv (.t 10))),
 (oQ 49 (.bin .mul (.t 47) (.t 48))),
 (oQ 50 (.fa 0 (.t 5))),
 (oQ 51 (.ld1 (.t 50))),
 (oQ 52 (.mv (.t 9))),
 (oQ 53 (.bin .mul (.t 51) (.t 52))),
 (oQ 54 (.bin .add (.t 49) (.t 53))),
 (kQ 55 6 126 [(.t 43),(.t 54)]),
 (uQ (.st 2 (.t 5) (.t 55)))])))))))
 (.seq (.reg [(oQ 56 (.ldn 2 (.t 5))),
 (uQ (.st 2 (.t 4) (.t 56)))])
 .ret))))⟩
def A_ground_response:Nat→Ty := tyAt [.un,.un,.un,.un,.un,.un,.un]
abbrev P_ground_response:List PSh := [.one (.sl pQ),.one tQ]
abbrev R_ground_response:List PSh := [.agg pQ]
theorem e_ground_response:cFn Try.prog 79 = some F_ground_response.erase := by kernel_rfl
theorem k_ground_response:callable Try.prog 79 = true := by kernel_rfl
def F_ground_quotient_frac:TFn := ⟨18,2,[.celln 2 2,.tmp 3],
 (.seq (.reg [(oQ 1 (.box 0 (.t 0))),
 (oQ 2 (.newz 1 [zQ,zQ])),
 (oQ 3 (.mv (iQ 0)))])
 (.seq (.seq (.reg [(oQ 4 (.fa 0 (.t 1))),
 (oQ 5 (.ld1 (.t 4))),
 (oQ 6 (.bin .gtr (.t 5) (iQ 1000000000))),
 (oQ 7 (.mv (.t 6))),
 (gQ 8 7 false (.fa 1 (.t 1))),
 (gQ 9 7 false (.ld1 (.t 8))),
 (gQ 10 7 false (.bin .gtr (.t 9) (iQ 1000000000))),
 (oQ 11 (.pick (.t 7) (.c (.p (.bool true))) (.t 10)))])
 (.cond (.t 11) (.seq (.reg [(oQ 12 (.build [zQ,zQ] [])),
 (uQ (.st 2 (.t 2) (.t 12))),
 (oQ 3 (.mv (iQ 8)))])
 .ret) .skip))
 (.seq (.reg [(oQ 13 (.fa 0 (.t 1))),
 (oQ 14 (.ld1 (.t 13))),
 (oQ 15 (.fa 1 (.t 1))),
 (oQ 16 (.ld1 (.t 15))),
 (oQ 17 (.build [zQ,zQ] [(0,1,(.t 14)),(1,1,(.t 16))])),
 (uQ (.st 2 (.t 2) (.t 17))),
 (oQ 3 (.mv (iQ 0)))])
 .ret)))⟩
def A_ground_quotient_frac:Nat→Ty := tyAt [.un,.un]
abbrev P_ground_quotient_frac:List PSh := [.agg pQ]
abbrev R_ground_quotient_frac:List PSh := [.agg pQ,.one tQ]
theorem e_ground_quotient_frac:cFn Try.prog 80 = some F_ground_quotient_frac.erase := by kernel_rfl
theorem k_ground_quotient_frac:callable Try.prog 80 = true := by kernel_rfl
def F_ref04_isConductivity:TFn := ⟨5,1,[.tmp 2],
 (.seq (.reg [(oQ 2 (.mv (.c (.p (.bool false)))))])
 (.seq (.reg [(oQ 3 (.mv (.t 0))),
 (kQ 4 0 35 [(.t 3),(iQ 1),(iQ 20)]),
 (oQ 2 (.mv (.t 4)))])
 .ret))⟩
def A_ref04_isConductivity:Nat→Ty := tyAt [.un]
abbrev P_ref04_isConductivity:List PSh := [.one tQ]
abbrev R_ref04_isConductivity:List PSh := [.one .bool]
theorem e_ref04_isConductivity:cFn Try.prog 81 = some F_ref04_isConductivity.erase := by kernel_rfl
theorem k_ref04_isConductivity:callable Try.prog 81 = true := by kernel_rfl
def F_ref04_isThickness:TFn := ⟨5,1,[.tmp 2],
 (.seq (.reg [(oQ 2 (.mv (.c (.p (.bool false)))))])
 (.seq (.reg [(oQ 3 (.mv (.t 0))),
 (kQ 4 0 35 [(.t 3),(iQ 0),(iQ 10)]),
 (oQ 2 (.mv (.t 4)))])
 .ret))⟩
def A_ref04_isThickness:Nat→Ty := tyAt [.un]
abbrev P_ref04_isThickness:List PSh := [.one tQ]
abbrev R_ref04_isThickness:List PSh := [.one .bool]
theorem e_ref04_isThickness:cFn Try.prog 82 = some F_ref04_isThickness.erase := by kernel_rfl
theorem k_ref04_isThickness:callable Try.prog 82 = true := by kernel_rfl
def F_base_RatioInt:TFn := ⟨7,3,[.celln 2 4],
 (.seq (.reg [(oQ 2 (.newz 0 [zQ,(.p (.sl 0 [] true)),zQ,(.p (.sl 0 [] true))]))])
 (.seq (.reg [(oQ 3 (.mv (.t 0))),
 (kQ 4 1 127 [(.t 3)]),
 (kQ 5 2 127 [(iQ 1)]),
 (oQ 6 (.build [zQ,(.p (.sl 0 [] true)),zQ,(.p (.sl 0 [] true))] [(0,2,(.t 4)),(2,2,(.t 5))])),
 (uQ (.st 4 (.t 2) (.t 6)))])
 .ret))⟩
def A_base_RatioInt:Nat→Ty := tyAt [.un,.un,.un]
abbrev P_base_RatioInt:List PSh := [.one tQ]
abbrev R_base_RatioInt:List PSh := [.agg (.pr (.pr tQ (.sl tQ)) (.pr tQ (.sl tQ)))]
theorem e_base_RatioInt:cFn Try.prog 84 = some F_base_RatioInt.erase := by kernel_rfl
theorem k_base_RatioInt:callable Try.prog 84 = true := by kernel_rfl
def F_base_RatioOf:TFn := ⟨10,4,[.celln 4 4],
 (.seq (.reg [(oQ 4 (.newz 0 [zQ,(.p (.sl 0 [] true)),zQ,(.p (.sl 0 [] true))]))])
 (.seq (.reg [(oQ 5 (.mv (.t 0))),
 (kQ 6 1 127 [(.t 5)]),
 (oQ 7 (.mv (.t 1))),
 (kQ 8 2 127 [(.t 7)]),
 (kQ 9 3 128 [(.t 6),(.t 8)]),
 (uQ (.st 4 (.t 4) (.t 9)))])
 .ret))⟩
def A_base_RatioOf:Nat→Ty := tyAt [.un,.un,.un,.un]
abbrev P_base_RatioOf:List PSh := [.one tQ,.one tQ]
abbrev R_base_RatioOf:List PSh := [.agg (.pr (.pr tQ (.sl tQ)) (.pr tQ (.sl tQ)))]
theorem e_base_RatioOf:cFn Try.prog 85 = some F_base_RatioOf.erase := by kernel_rfl
theorem k_base_RatioOf:callable Try.prog 85 = true := by kernel_rfl
def F_base_RatioMul:TFn := ⟨16,6,[.celln 4 4],
 (.seq (.reg [(oQ 2 (.box 0 (.t 0))),
 (oQ 3 (.box 1 (.t 1))),
 (oQ 4 (.newz 2 [zQ,(.p (.sl 0 [] true)),zQ,(.p (.sl 0 [] true))]))])
 (.seq (.regd [(oQ 5 (.fa 0 (.t 2))),
 (oQ 6 (.ldn 2 (.t 5))),
 (oQ 7 (.fa 0 (.t 3))),
 (oQ 8 (.ldn 2 (.t 7))),
 (kQ 9 3 129 [(.t 6),(.t 8)]),
 (oQ 10 (.fa 2 (.t 2))),
 (oQ 11 (.ldn 2 (.t 10))),
 (oQ 12 (.fa 2 (.t 3))),
 (oQ 13 (.ldn 2 (.t 12))),
 (kQ 14 4 129 [(.t 11),(.t 13)]),
 (kQ 15 5 128 [(.t 9),(.t 14)]),
 (uQ (.st 4 (.t 4) (.t 15)))] [(1,3),(1,6),(3,6),(4,6),(1,8),(3,8),(4,8),(6,8)] [])
 .ret))⟩
def A_base_RatioMul:Nat→Ty := tyAt [.un,.un,.un,.un,.un,.un]
abbrev P_base_RatioMul:List PSh := [.agg (.pr (.pr tQ (.sl tQ)) (.pr tQ (.sl tQ))),.agg (.pr (.pr tQ (.sl tQ)) (.pr tQ (.sl tQ)))]
abbrev R_base_RatioMul:List PSh := [.agg (.pr (.pr tQ (.sl tQ)) (.pr tQ (.sl tQ)))]
theorem e_base_RatioMul:cFn Try.prog 86 = some F_base_RatioMul.erase := by kernel_rfl
theorem k_base_RatioMul:callable Try.prog 86 = true := by kernel_rfl
def F_base_RatioAdd:TFn := ⟨22,8,[.celln 4 4],
 (.seq (.reg [(oQ 2 (.box 0 (.t 0))),
 (oQ 3 (.box 1 (.t 1))),
 (oQ 4 (.newz 2 [zQ,(.p (.sl 0 [] true)),zQ,(.p (.sl 0 [] true))]))])
 (.seq (.regd [(oQ 5 (.fa 0 (.t 2))),
 (oQ 6 (.ldn 2 (.t 5))),
 (oQ 7 (.fa 2 (.t 3))),
 (oQ 8 (.ldn 2 (.t 7))),
 (kQ 9 3 129 [(.t 6),(.t 8)]),
 (oQ 10 (.fa 0 (.t 3))),
 (oQ 11 (.ldn 2 (.t 10))),
 (oQ 12 (.fa 2 (.t 2))),
 (oQ 13 (.ldn 2 (.t 12))),
 (kQ 14 4 129 [(.t 11),(.t 13)]),
 (kQ 15 5 130 [(.t 9),(.t 14)]),
 (oQ 16 (.fa 2 (.t 2))),
 (oQ 17 (.ldn 2 (.t 16))),
 (oQ 18 (.fa 2 (.t 3))),
 (oQ 19 (.ldn 2 (.t 18))),
 (kQ 20 6 129 [(.t 17),(.t 19)]),
 (kQ 21 7 128 [(.t 15),(.t 20)]),
 (uQ (.st 4 (.t 4) (.t 21)))] [(1,3),(1,6),(3,6),(4,6),(1,8),(3,8),(4,8),(6,8),(1,12),(3,12),(4,12),(6,12),(8,12),(9,12),(10,12),(1,14),(3,14),(4,14),(6,14),(8,14),(9,14),(10,14),(12,14)] [])
 .ret))⟩
def A_base_RatioAdd:Nat→Ty := tyAt [.un,.un,.un,.un,.un,.un,.un,.un]
abbrev P_base_RatioAdd:List PSh := [.agg (.pr (.pr tQ (.sl tQ)) (.pr tQ (.sl tQ))),.agg (.pr (.pr tQ (.sl tQ)) (.pr tQ (.sl tQ)))]
abbrev R_base_RatioAdd:List PSh := [.agg (.pr (.pr tQ (.sl tQ)) (.pr tQ (.sl tQ)))]
theorem e_base_RatioAdd:cFn Try.prog 87 = some F_base_RatioAdd.erase := by kernel_rfl
theorem k_base_RatioAdd:callable Try.prog 87 = true := by kernel_rfl
def F_base_RatioDiv:TFn := ⟨16,6,[.celln 4 4],
 (.seq (.reg [(oQ 2 (.box 0 (.t 0))),
 (oQ 3 (.box 1 (.t 1))),
 (oQ 4 (.newz 2 [zQ,(.p (.sl 0 [] true)),zQ,(.p (.sl 0 [] true))]))])
 (.seq (.regd [(oQ 5 (.fa 0 (.t 2))),
 (oQ 6 (.ldn 2 (.t 5))),
 (oQ 7 (.fa 2 (.t 3))),
 (oQ 8 (.ldn 2 (.t 7))),
 (kQ 9 3 129 [(.t 6),(.t 8)]),
 (oQ 10 (.fa 2 (.t 2))),
 (oQ 11 (.ldn 2 (.t 10))),
 (oQ 12 (.fa 0 (.t 3))),
 (oQ 13 (.ldn 2 (.t 12))),
 (kQ 14 4 129 [(.t 11),(.t 13)]),
 (kQ 15 5 128 [(.t 9),(.t 14)]),
 (uQ (.st 4 (.t 4) (.t 15)))] [(1,3),(1,6),(3,6),(4,6),(1,8),(3,8),(4,8),(6,8)] [])
 .ret))⟩
def A_base_RatioDiv:Nat→Ty := tyAt [.un,.un,.un,.un,.un,.un]
abbrev P_base_RatioDiv:List PSh := [.agg (.pr (.pr tQ (.sl tQ)) (.pr tQ (.sl tQ))),.agg (.pr (.pr tQ (.sl tQ)) (.pr tQ (.sl tQ)))]
abbrev R_base_RatioDiv:List PSh := [.agg (.pr (.pr tQ (.sl tQ)) (.pr tQ (.sl tQ)))]
theorem e_base_RatioDiv:cFn Try.prog 88 = some F_base_RatioDiv.erase := by kernel_rfl
theorem k_base_RatioDiv:callable Try.prog 88 = true := by kernel_rfl
def F_base_WideInt:TFn := ⟨30,1,[.tmp 2,.tmp 3],
 (.seq (.reg [(oQ 1 (.box 0 (.t 0))),
 (oQ 2 (.mv (iQ 0))),
 (oQ 3 (.mv (.c (.p (.bool false)))))])
 (.seq (.seq (.reg [(oQ 6 (.fa 1 (.t 1))),
 (oQ 7 (.ld1 (.t 6))),
 (oQ 8 (.len false (.t 7))),
 (oQ 9 (.bin .gtr (.t 8) (iQ 2)))])
 (.cond (.t 9) (.seq (.reg [(oQ 2 (.mv (iQ 0))),
 (oQ 3 (.mv (.c (.p (.bool false)))))])
 .ret) .skip))
 (.seq (.reg [(oQ 4 (.mv (iQ 0)))])
 (.seq (.seq (.reg [(oQ 10 (.fa 1 (.t 1))),
 (oQ 11 (.ld1 (.t 10))),
 (oQ 12 (.len false (.t 11))),
 (oQ 13 (.bin .sub (.t 12) (iQ 1))),
 (oQ 5 (.mv (.t 13)))])
 (.block 0 (.loop [.v 5 tQ,.v 4 tQ] [] [] (.seq (.seq (.reg [(oQ 14 (.mv (.t 5))),
 (oQ 15 (.bin .geq (.t 14) (iQ 0)))])
 (.cond (.t 15) .skip (.exit 0)))
 (.seq (.block 1 (.reg [(oQ 18 (.mv (.t 4))),
 (oQ 19 (.bin .mul (.t 18) (iQ 1000000000))),
 (oQ 20 (.fa 1 (.t 1))),
 (oQ 21 (.ld1 (.t 20))),
 (oQ 22 (.mv (.t 5))),
 (oQ 23 (.ia 1 (.t 21) (.t 22))),
 (oQ 24 (.ld1 (.t 23))),
 (oQ 25 (.bin .add (.t 19) (.t 24))),
 (oQ 4 (.mv (.t 25)))]))
 (.reg [(oQ 16 (.mv (.t 5))),
 (oQ 17 (.bin .sub (.t 16) (iQ 1))),
 (oQ 5 (.mv (.t 17)))]))))))
 (.seq (.reg [(oQ 26 (.fa 0 (.t 1))),
 (oQ 27 (.ld1 (.t 26))),
 (oQ 28 (.mv (.t 4))),
 (oQ 29 (.bin .mul (.t 27) (.t 28))),
 (oQ 2 (.mv (.t 29))),
 (oQ 3 (.mv (.c (.p (.bool true)))))])
 .ret)))))⟩
def A_base_WideInt:Nat→Ty := tyAt [.un]
abbrev P_base_WideInt:List PSh := [.agg (.pr tQ (.sl tQ))]
abbrev R_base_WideInt:List PSh := [.one tQ,.one .bool]
theorem e_base_WideInt:cFn Try.prog 83 = some F_base_WideInt.erase := by kernel_rfl
theorem k_base_WideInt:callable Try.prog 83 = true := by kernel_rfl
def F_ground_listErr__ground_isConductivity:TFn := ⟨38,5,[.tmp 4],
 (.seq (.reg [(oQ 4 (.mv (iQ 0)))])
 (.seq (.seq (.reg [(oQ 8 (.mv (.t 0))),
 (oQ 9 (.len false (.t 8))),
 (oQ 10 (.mv (iQ 0)))])
 (.block 0 (.loop [.v 10 tQ] [] [] (.seq (.reg [(oQ 11 (.bin .lss (.t 10) (.t 9)))])
 (.seq (.cond (.t 11) .skip (.exit 0))
 (.seq (.block 1 (.seq (.reg [(oQ 12 (.mv (.t 10))),
 (oQ 13 (.ia 1 (.t 8) (.t 10))),
 (oQ 14 (.ld1 (.t 13))),
 (oQ 5 (.mv (.t 12))),
 (oQ 6 (.mv (.t 14)))])
 (.seq (.reg [(oQ 15 (.mv (.t 1))),
 (oQ 16 (.mv (.t 6))),
 ⟨some 17,none,(.callv 0 (.t 15) [(.t 16)])⟩,
 (kQ 18 1 74 [(.t 17),(iQ 2)]),
 (oQ 19 (.mv (.t 5))),
 (oQ 20 (.bin .eql (.t 19) (iQ 0))),
 (oQ 21 (.mv (.t 20))),
 (gQ 22 21 false (.mv (.t 6))),
 (gQ 23 21 false (.mv (.t 0))),
 (gQ 24 21 false (.mv (.t 5))),
 (gQ 25 21 false (.bin .sub (.t 24) (iQ 1))),
 (gQ 26 21 false (.mm true (iQ 0) (.t 25))),
 (gQ 27 21 false (.ia 1 (.t 23) (.t 26))),
 (gQ 28 21 false (.ld1 (.t 27))),
 (gQ 29 21 false (.bin .gtr (.t 22) (.t 28))),
 (oQ 30 (.pick (.t 21) (.c (.p (.bool true))) (.t 29))),
 (kQ 31 2 74 [(.t 30),(iQ 9)]),
 (oQ 32 (.bsl false 3 1 2 [zQ,zQ] [(0,1,(.t 18)),(1,1,(.t 31))])),
 (kQ 33 4 73 [(.t 32)]),
 (oQ 7 (.mv (.t 33)))])
 (.seq (.reg [(oQ 34 (.mv (.t 7))),
 (oQ 35 (.bin .neq (.t 34) (iQ 0)))])
 (.cond (.t 35) (.seq (.reg [(oQ 36 (.mv (.t 7))),
 (oQ 4 (.mv (.t 36)))])
 .ret) .skip)))))
 (.reg [(oQ 37 (.bin .add (.t 10) (iQ 1))),
 (oQ 10 (.mv (.t 37)))])))))))
 (.seq (.reg [(oQ 4 (.mv (iQ 0)))])
 .ret)))⟩
theorem e_ground_listErr__ground_isConductivity:cFn Try.prog 91 = some F_ground_listErr__ground_isConductivity.erase := by kernel_rfl
def F_slices_Equalint_int:TFn := ⟨26,0,[.tmp 4],
 (.seq (.reg [(oQ 4 (.mv (.c (.p (.bool false)))))])
 (.seq (.seq (.reg [(oQ 6 (.mv (.t 0))),
 (oQ 7 (.len false (.t 6))),
 (oQ 8 (.mv (.t 1))),
 (oQ 9 (.len false (.t 8))),
 (oQ 10 (.bin .neq (.t 7) (.t 9)))])
 (.cond (.t 10) (.seq (.reg [(oQ 4 (.mv (.c (.p (.bool false)))))])
 .ret) .skip))
 (.seq (.seq (.reg [(oQ 11 (.mv (.t 0))),
 (oQ 12 (.len false (.t 11))),
 (oQ 13 (.mv (iQ 0)))])
 (.block 0 (.loop [.v 13 tQ] [] [] (.seq (.reg [(oQ 14 (.bin .lss (.t 13) (.t 12)))])
 (.seq (.cond (.t 14) .skip (.exit 0))
 (.seq (.block 1 (.seq (.reg [(oQ 15 (.mv (.t 13))),
 (oQ 5 (.mv (.t 15)))])
 (.seq (.regd [(oQ 16 (.mv (.t 0))),
 (oQ 17 (.mv (.t 5))),
 (oQ 18 (.ia 1 (.t 16) (.t 17))),
 (oQ 19 (.ld1 (.t 18))),
 (oQ 20 (.mv (.t 1))),
 (oQ 21 (.mv (.t 5))),
 (oQ 22 (.ia 1 (.t 20) (.t 21))),
 (oQ 23 (.ld1 (.t 22))),
 (oQ 24 (.bin .neq (.t 19) (.t 23)))] [(3,7)] [])
 (.cond (.t 24) (.seq (.reg [(oQ 4 (.mv (.c (.p (.bool false)))))])
 .ret) .skip))))
 (.reg [(oQ 25 (.bin .add (.t 13) (iQ 1))),
 (oQ 13 (.mv (.t 25)))])))))))
 (.seq (.reg [(oQ 4 (.mv (.c (.p (.bool true)))))])
 .ret))))⟩
theorem e_slices_Equalint_int:cFn Try.prog 92 = some F_slices_Equalint_int.erase := by kernel_rfl
def F_ground_open:TFn := ⟨14,3,[.celln 2 1,.tmp 3],
 (.seq (.reg [(oQ 1 (.box 0 (.t 0))),
 (oQ 2 (.newz 1 [(.p (.sl 0 [] true))])),
 (oQ 3 (.mv (iQ 0)))])
 (.seq (.reg [(oQ 7 (.ldn 1 (.t 1))),
 (kQ 8 2 28 [(.t 7)]),
 (oQ 6 (.mv (.t 8))),
 (oQ 9 (.ext 0 (.t 6))),
 (oQ 10 (.ext 1 (.t 6))),
 (oQ 4 (.mv (.t 9))),
 (oQ 5 (.mv (.t 10)))])
 (.seq (.reg [(oQ 11 (.ldn 1 (.t 1))),
 (oQ 12 (.build [(.p (.sl 0 [] true))] [(0,1,(.t 11))])),
 (oQ 13 (.mv (.t 5))),
 (uQ (.st 1 (.t 2) (.t 12))),
 (oQ 3 (.mv (.t 13)))])
 .ret)))⟩
theorem e_ground_open:cFn Try.prog 93 = some F_ground_open.erase := by kernel_rfl
def F_ground_class_count:TFn := ⟨25,2,[.tmp 2],
 (.seq (.reg [(oQ 1 (.box 0 (.t 0))),
 (oQ 2 (.mv (iQ 0)))])
 (.seq (.reg [(oQ 3 (.mv (iQ 1)))])
 (.seq (.seq (.reg [(oQ 6 (.fa 0 (.t 1))),
 (oQ 7 (.fa 0 (.t 6))),
 (oQ 8 (.ld1 (.t 7))),
 (oQ 9 (.len false (.t 8))),
 (oQ 10 (.mv (iQ 0)))])
 (.block 0 (.loop [.v 10 tQ,.v 3 tQ] [1] [1] (.seq (.reg [(oQ 11 (.bin .lss (.t 10) (.t 9)))])
 (.seq (.cond (.t 11) .skip (.exit 0))
 (.seq (.block 1 (.seq (.reg [(oQ 12 (.ia 2 (.t 8) (.t 10))),
 (oQ 13 (.ldn 2 (.t 12))),
 (oQ 5 (.newz 1 [(.p (.sl 0 [] true)),(.p (.sl 0 [] true))])),
 (uQ (.st 2 (.t 5) (.t 13)))])
 (.reg [(oQ 14 (.mv (.t 3))),
 (oQ 15 (.fa 0 (.t 5))),
 (oQ 16 (.ld1 (.t 15))),
 (oQ 17 (.len false (.t 16))),
 (oQ 18 (.fa 1 (.t 5))),
 (oQ 19 (.ld1 (.t 18))),
 (oQ 20 (.len false (.t 19))),
 (oQ 21 (.bin .mul (.t 17) (.t 20))),
 (oQ 22 (.bin .mul (.t 14) (.t 21))),
 (oQ 3 (.mv (.t 22)))])))
 (.reg [(oQ 23 (.bin .add (.t 10) (iQ 1))),
 (oQ 10 (.mv (.t 23)))])))))))
 (.seq (.reg [(oQ 24 (.mv (.t 3))),
 (oQ 2 (.mv (.t 24)))])
 .ret))))⟩
theorem e_ground_class_count:cFn Try.prog 94 = some F_ground_class_count.erase := by kernel_rfl
def F_ground_within:TFn := ⟨15,0,[.tmp 6],
 (.seq (.reg [(oQ 6 (.mv (.c (.p (.bool false)))))])
 (.seq (.reg [(oQ 7 (.mv (.t 1))),
 (oQ 8 (.mv (.t 0))),
 (oQ 9 (.bin .leq (.t 7) (.t 8))),
 (oQ 10 (.mv (.t 9))),
 (gQ 11 10 true (.mv (.t 0))),
 (gQ 12 10 true (.mv (.t 2))),
 (gQ 13 10 true (.bin .leq (.t 11) (.t 12))),
 (oQ 14 (.pick (.t 10) (.t 13) (.c (.p (.bool false))))),
 (oQ 6 (.mv (.t 14)))])
 .ret))⟩
def A_ground_within:Nat→Ty := tyAt []
abbrev P_ground_within:List PSh := [.one tQ,.one tQ,.one tQ]
abbrev R_ground_within:List PSh := [.one .bool]
theorem e_ground_within:cFn Try.prog 95 = some F_ground_within.erase := by kernel_rfl
theorem k_ground_within:callable Try.prog 95 = true := by kernel_rfl
def F_ground_class_model:TFn := ⟨39,10,[.celln 4 1],
 (.seq (.reg [(oQ 2 (.box 0 (.t 0))),
 (oQ 3 (.box 1 (.t 1))),
 (oQ 4 (.newz 2 [(.p (.sl 0 [] true))]))])
 (.seq (.reg [(oQ 9 (.fa 0 (.t 2))),
 (oQ 10 (.fa 0 (.t 9))),
 (oQ 11 (.ld1 (.t 10))),
 (oQ 12 (.len false (.t 11))),
 (oQ 13 (.mk 3 2 16 [zQ,zQ] (.t 12))),
 (oQ 5 (.newz 4 [(.p (.sl 0 [] true))])),
 (uQ (.st 1 (.t 5) (.t 13)))])
 (.seq (.reg [(oQ 14 (.clo 132 [(.t 3)])),
 (oQ 6 (.newz 5 [.und])),
 (uQ (.st 1 (.t 6) (.t 14)))])
 (.seq (.seq (.reg [(oQ 15 (.fa 0 (.t 2))),
 (oQ 16 (.fa 0 (.t 15))),
 (oQ 17 (.ld1 (.t 16))),
 (kQ 18 6 133 [(.t 17)])])
 (.block 0 (.rng (.t 18) [19,20] [19,20,7,8,21,22,23,24,25,26,27,28,29,30,31,32,33,34,35,36] [.c 1 tQ,.d 3 pQ] [1,3,7] [7] (.seq (.reg [(oQ 7 (.mv (.t 19)))])
 (.reg [(oQ 8 (.newz 7 [(.p (.sl 0 [] true)),(.p (.sl 0 [] true))])),
 (uQ (.st 2 (.t 8) (.t 20)))]))
 (.block 1 (.seq (.regd [(oQ 21 (.ld1 (.t 5))),
 (oQ 22 (.mv (.t 7))),
 (oQ 23 (.ld1 (.t 6))),
 (oQ 24 (.fa 1 (.t 8))),
 (oQ 25 (.ld1 (.t 24))),
 ⟨some 26,none,(.callv 8 (.t 23) [(.t 25)])⟩,
 (oQ 27 (.ia 2 (.t 21) (.t 22))),
 (oQ 28 (.fa 1 (.t 27))),
 (uQ (.st 1 (.t 28) (.t 26)))] [(0,2),(0,4),(2,4),(0,5)] [])
 (.regd [(oQ 29 (.ld1 (.t 5))),
 (oQ 30 (.mv (.t 7))),
 (oQ 31 (.ld1 (.t 6))),
 (oQ 32 (.fa 0 (.t 8))),
 (oQ 33 (.ld1 (.t 32))),
 ⟨some 34,none,(.callv 9 (.t 31) [(.t 33)])⟩,
 (oQ 35 (.ia 2 (.t 29) (.t 30))),
 (oQ 36 (.fa 0 (.t 35))),
 (uQ (.st 1 (.t 36) (.t 34)))] [(0,2),(0,4),(2,4),(0,5)] []))))))
 (.seq (.reg [(oQ 37 (.ld1 (.t 5))),
 (oQ 38 (.build [(.p (.sl 0 [] true))] [(0,1,(.t 37))])),
 (uQ (.st 1 (.t 4) (.t 38)))])
 .ret)))))⟩
theorem e_ground_class_model:cFn Try.prog 96 = some F_ground_class_model.erase := by kernel_rfl
def F_ground_class_models:TFn := ⟨18,4,[],
 (.seq (.reg [(oQ 2 (.box 0 (.t 0)))])
 (.seq (.reg [(oQ 5 (.ldn 1 (.t 2))),
 (kQ 6 1 94 [(.t 5)]),
 (oQ 7 (.mv (iQ 0)))])
 (.block 0 (.loop [] [] [] (.seq (.reg [(oQ 8 (.bin .lss (.t 7) (.t 6)))])
 (.seq (.cond (.t 8) .skip (.exit 0))
 (.seq (.block 1 (.seq (.reg [(oQ 9 (.mv (.t 7))),
 (oQ 4 (.mv (.t 9)))])
 (.seq (.reg [(oQ 10 (.mv (.t 1))),
 (oQ 11 (.mv (.t 4))),
 (oQ 12 (.ldn 1 (.t 2))),
 (oQ 13 (.mv (.t 4))),
 (kQ 14 2 96 [(.t 12),(.t 13)]),
 ⟨some 15,none,(.callv 3 (.t 10) [(.t 11),(.t 14)])⟩,
 (oQ 16 (.unot (.t 15)))])
 (.cond (.t 16) .ret .skip))))
 (.reg [(oQ 17 (.bin .add (.t 7) (iQ 1))),
 (oQ 7 (.mv (.t 17)))]))))))))⟩
theorem e_ground_class_models:cFn Try.prog 97 = some F_ground_class_models.erase := by kernel_rfl
def F_slices_Equalapi_GroundLayer_api_GroundLayer:TFn := ⟨26,0,[.tmp 4],
 (.seq (.reg [(oQ 4 (.mv (.c (.p (.bool false)))))])
 (.seq (.seq (.reg [(oQ 6 (.mv (.t 0))),
 (oQ 7 (.len false (.t 6))),
 (oQ 8 (.mv (.t 1))),
 (oQ 9 (.len false (.t 8))),
 (oQ 10 (.bin .neq (.t 7) (.t 9)))])
 (.cond (.t 10) (.seq (.reg [(oQ 4 (.mv (.c (.p (.bool false)))))])
 .ret) .skip))
 (.seq (.seq (.reg [(oQ 11 (.mv (.t 0))),
 (oQ 12 (.len false (.t 11))),
 (oQ 13 (.mv (iQ 0)))])
 (.block 0 (.loop [.v 13 tQ] [] [] (.seq (.reg [(oQ 14 (.bin .lss (.t 13) (.t 12)))])
 (.seq (.cond (.t 14) .skip (.exit 0))
 (.seq (.block 1 (.seq (.reg [(oQ 15 (.mv (.t 13))),
 (oQ 5 (.mv (.t 15)))])
 (.seq (.regd [(oQ 16 (.mv (.t 0))),
 (oQ 17 (.mv (.t 5))),
 (oQ 18 (.ia 2 (.t 16) (.t 17))),
 (oQ 19 (.ldn 2 (.t 18))),
 (oQ 20 (.mv (.t 1))),
 (oQ 21 (.mv (.t 5))),
 (oQ 22 (.ia 2 (.t 20) (.t 21))),
 (oQ 23 (.ldn 2 (.t 22))),
 (oQ 24 (.eqa true 2 [(true,0),(true,1)] (.t 19) (.t 23)))] [(3,7)] [])
 (.cond (.t 24) (.seq (.reg [(oQ 4 (.mv (.c (.p (.bool false)))))])
 .ret) .skip))))
 (.reg [(oQ 25 (.bin .add (.t 13) (iQ 1))),
 (oQ 13 (.mv (.t 25)))])))))))
 (.seq (.reg [(oQ 4 (.mv (.c (.p (.bool true)))))])
 .ret))))⟩
theorem e_slices_Equalapi_GroundLayer_api_GroundLayer:cFn Try.prog 98 = some F_slices_Equalapi_GroundLayer_api_GroundLayer.erase := by kernel_rfl
def F_ground_dataErr:TFn := ⟨11,1,[.tmp 2],
 (.seq (.reg [(oQ 2 (.mv (iQ 0)))])
 (.seq (.reg [(oQ 6 (.mv (.t 0))),
 (kQ 7 0 52 [(.t 6)]),
 (oQ 5 (.mv (.t 7))),
 (oQ 8 (.ext 0 (.t 5))),
 (oQ 9 (.ext 1 (.t 5))),
 (oQ 3 (.mv (.t 8))),
 (oQ 4 (.mv (.t 9)))])
 (.seq (.reg [(oQ 10 (.mv (.t 4))),
 (oQ 2 (.mv (.t 10)))])
 .ret)))⟩
def A_ground_dataErr:Nat→Ty := tyAt [.un]
abbrev P_ground_dataErr:List PSh := [.one (.sl (.pr tQ pQ))]
abbrev R_ground_dataErr:List PSh := [.one tQ]
theorem e_ground_dataErr:cFn Try.prog 101 = some F_ground_dataErr.erase := by kernel_rfl
theorem k_ground_dataErr:callable Try.prog 101 = true := by kernel_rfl
def F_ground_below:TFn := ⟨15,2,[.tmp 4],
 (.seq (.reg [(oQ 2 (.box 0 (.t 0))),
 (oQ 3 (.box 1 (.t 1))),
 (oQ 4 (.mv (.c (.p (.bool false)))))])
 (.seq (.reg [(oQ 5 (.fa 0 (.t 2))),
 (oQ 6 (.ld1 (.t 5))),
 (oQ 7 (.bin .mul (iQ 1000) (.t 6))),
 (oQ 8 (.fa 1 (.t 3))),
 (oQ 9 (.fa 0 (.t 8))),
 (oQ 10 (.ld1 (.t 9))),
 (oQ 11 (.fa 1 (.t 2))),
 (oQ 12 (.ld1 (.t 11))),
 (oQ 13 (.bin .mul (.t 10) (.t 12))),
 (oQ 14 (.bin .lss (.t 7) (.t 13))),
 (oQ 4 (.mv (.t 14)))])
 .ret))⟩
def A_ground_below:Nat→Ty := tyAt [.un,.un]
abbrev P_ground_below:List PSh := [.agg pQ,.agg (.pr tQ pQ)]
abbrev R_ground_below:List PSh := [.one .bool]
theorem e_ground_below:cFn Try.prog 102 = some F_ground_below.erase := by kernel_rfl
theorem k_ground_below:callable Try.prog 102 = true := by kernel_rfl
def F_ground_beyond:TFn := ⟨15,2,[.tmp 4],
 (.seq (.reg [(oQ 2 (.box 0 (.t 0))),
 (oQ 3 (.box 1 (.t 1))),
 (oQ 4 (.mv (.c (.p (.bool false)))))])
 (.seq (.reg [(oQ 5 (.fa 0 (.t 2))),
 (oQ 6 (.ld1 (.t 5))),
 (oQ 7 (.bin .mul (iQ 1000) (.t 6))),
 (oQ 8 (.fa 1 (.t 3))),
 (oQ 9 (.fa 1 (.t 8))),
 (oQ 10 (.ld1 (.t 9))),
 (oQ 11 (.fa 1 (.t 2))),
 (oQ 12 (.ld1 (.t 11))),
 (oQ 13 (.bin .mul (.t 10) (.t 12))),
 (oQ 14 (.bin .gtr (.t 7) (.t 13))),
 (oQ 4 (.mv (.t 14)))])
 .ret))⟩
def A_ground_beyond:Nat→Ty := tyAt [.un,.un]
abbrev P_ground_beyond:List PSh := [.agg pQ,.agg (.pr tQ pQ)]
abbrev R_ground_beyond:List PSh := [.one .bool]
theorem e_ground_beyond:cFn Try.prog 103 = some F_ground_beyond.erase := by kernel_rfl
theorem k_ground_beyond:callable Try.prog 103 = true := by kernel_rfl
def F_ref04_thousand:TFn := ⟨6,4,[.celln 2 4],
 (.seq (.reg [(oQ 1 (.box 0 (.t 0))),
 (oQ 2 (.newz 1 [zQ,(.p (.sl 0 [] true)),zQ,(.p (.sl 0 [] true))]))])
 (.seq (.regd [(oQ 3 (.ldn 4 (.t 1))),
 (kQ 4 2 84 [(iQ 1000)]),
 (kQ 5 3 86 [(.t 3),(.t 4)]),
 (uQ (.st 4 (.t 2) (.t 5)))] [(0,1)] [])
 .ret))⟩
def A_ref04_thousand:Nat→Ty := tyAt [.un,.un,.un,.un]
abbrev P_ref04_thousand:List PSh := [.agg (.pr (.pr tQ (.sl tQ)) (.pr tQ (.sl tQ)))]
abbrev R_ref04_thousand:List PSh := [.agg (.pr (.pr tQ (.sl tQ)) (.pr tQ (.sl tQ)))]
theorem e_ref04_thousand:cFn Try.prog 104 = some F_ref04_thousand.erase := by kernel_rfl
theorem k_ref04_thousand:callable Try.prog 104 = true := by kernel_rfl
def F_base_RatioCmp:TFn := ⟨16,5,[.tmp 4],
 (.seq (.reg [(oQ 2 (.box 0 (.t 0))),
 (oQ 3 (.box 1 (.t 1))),
 (oQ 4 (.mv (iQ 0)))])
 (.seq (.regd [(oQ 5 (.fa 0 (.t 2))),
 (oQ 6 (.ldn 2 (.t 5))),
 (oQ 7 (.fa 2 (.t 3))),
 (oQ 8 (.ldn 2 (.t 7))),
 (kQ 9 2 129 [(.t 6),(.t 8)]),
 (oQ 10 (.fa 0 (.t 3))),
 (oQ 11 (.ldn 2 (.t 10))),
 (oQ 12 (.fa 2 (.t 2))),
 (oQ 13 (.ldn 2 (.t 12))),
 (kQ 14 3 129 [(.t 11),(.t 13)]),
 (kQ 15 4 134 [(.t 9),(.t 14)]),
 (oQ 4 (.mv (.t 15)))] [(1,3),(1,6),(3,6),(4,6),(1,8),(3,8),(4,8),(6,8)] [])
 .ret))⟩
def A_base_RatioCmp:Nat→Ty := tyAt [.un,.un,.un,.un,.un]
abbrev P_base_RatioCmp:List PSh := [.agg (.pr (.pr tQ (.sl tQ)) (.pr tQ (.sl tQ))),.agg (.pr (.pr tQ (.sl tQ)) (.pr tQ (.sl tQ)))]
abbrev R_base_RatioCmp:List PSh := [.one tQ]
theorem e_base_RatioCmp:cFn Try.prog 105 = some F_base_RatioCmp.erase := by kernel_rfl
theorem k_base_RatioCmp:callable Try.prog 105 = true := by kernel_rfl
def F_ground_explainsAll:TFn := ⟨9,2,[.tmp 4],
 (.seq (.reg [(oQ 2 (.box 0 (.t 0))),
 (oQ 4 (.mv (.c (.p (.bool false)))))])
 (.seq (.reg [(oQ 5 (.mv (.t 1))),
 (oQ 6 (.clo 136 [(.t 2)])),
 (kQ 7 1 135 [(.t 5),(.t 6)]),
 (oQ 8 (.unot (.t 7))),
 (oQ 4 (.mv (.t 8)))])
 .ret))⟩
def A_ground_explainsAll:Nat→Ty := tyAt [.un,.un]
abbrev P_ground_explainsAll:List PSh := [.agg (.sl pQ),.one (.sl (.pr tQ pQ))]
abbrev R_ground_explainsAll:List PSh := [.one .bool]
theorem e_ground_explainsAll:cFn Try.prog 106 = some F_ground_explainsAll.erase := by kernel_rfl
theorem k_ground_explainsAll:callable Try.prog 106 = true := by kernel_rfl
def F_ground_openData:TFn := ⟨19,7,[.celln 4 1,.tmp 5],
 (.seq (.reg [(oQ 2 (.box 0 (.t 0))),
 (oQ 4 (.newz 1 [(.p (.sl 0 [] true))])),
 (oQ 5 (.mv (iQ 0)))])
 (.seq (.reg [(oQ 9 (.ldn 1 (.t 2))),
 (kQ 10 2 93 [(.t 9)]),
 (oQ 8 (.mv (.t 10))),
 (oQ 11 (.ext 0 (.t 8))),
 (oQ 12 (.ext 1 (.t 8))),
 (oQ 6 (.newz 3 [(.p (.sl 0 [] true))])),
 (uQ (.st 1 (.t 6) (.t 11))),
 (oQ 7 (.mv (.t 12)))])
 (.seq (.regd [(oQ 13 (.ldn 1 (.t 6))),
 (oQ 14 (.mv (.t 7))),
 (oQ 15 (.mv (.t 1))),
 (kQ 16 4 101 [(.t 15)]),
 (oQ 17 (.bsl false 5 1 2 [zQ,zQ] [(0,1,(.t 14)),(1,1,(.t 16))])),
 (kQ 18 6 73 [(.t 17)]),
 (uQ (.st 1 (.t 4) (.t 13))),
 (oQ 5 (.mv (.t 18)))] [(0,3),(0,5)] [])
 .ret)))⟩
theorem e_ground_openData:cFn Try.prog 107 = some F_ground_openData.erase := by kernel_rfl
def F_ground_class_explained:TFn := ⟨20,7,[.tmp 4],
 (.seq (.reg [(oQ 2 (.box 0 (.t 0))),
 (oQ 3 (.box 1 (.t 1))),
 (oQ 4 (.mv (.c (.p (.sl 0 [] true)))))])
 (.seq (.reg [(oQ 5 (.newz 2 [(.p (.sl 0 [] true))]))])
 (.seq (.seq (.reg [(oQ 8 (.ldn 1 (.t 2))),
 (oQ 9 (.bnd 1000000097 (.t 8)))])
 (.block 0 (.rng (.t 9) [10,11] [10,11,6,7,12,13,14,15,16,17,18] [.q 2 6 tQ] [2,3,6] [3,6] (.seq (.reg [(oQ 6 (.mv (.t 10)))])
 (.reg [(oQ 7 (.newz 3 [(.p (.sl 0 [] true))])),
 (uQ (.st 1 (.t 7) (.t 11)))]))
 (.block 1 (.seq (.reg [(oQ 12 (.ldn 1 (.t 7))),
 (oQ 13 (.ld1 (.t 3))),
 (kQ 14 4 106 [(.t 12),(.t 13)])])
 (.cond (.t 14) (.reg [(oQ 15 (.ld1 (.t 5))),
 (oQ 16 (.mv (.t 6))),
 (oQ 17 (.bsl false 5 1 1 [zQ] [(0,1,(.t 16))])),
 (oQ 18 (.app 6 1 8 (.t 15) (.t 17))),
 (uQ (.st 1 (.t 5) (.t 18)))]) .skip))))))
 (.seq (.reg [(oQ 19 (.ld1 (.t 5))),
 (oQ 4 (.mv (.t 19)))])
 .ret))))⟩
theorem e_ground_class_explained:cFn Try.prog 108 = some F_ground_class_explained.erase := by kernel_rfl
def F_ground_CheckData_1:TFn := ⟨5,1,[.tmp 2],
 (.seq (.reg [(oQ 2 (.mv (.c (.p (.bool false)))))])
 (.seq (.reg [(oQ 3 (.mv (.t 0))),
 (kQ 4 0 95 [(.t 3),(iQ 0),(iQ 100000)]),
 (oQ 2 (.mv (.t 4)))])
 .ret))⟩
def A_ground_CheckData_1:Nat→Ty := tyAt [.un]
abbrev P_ground_CheckData_1:List PSh := [.one tQ]
abbrev R_ground_CheckData_1:List PSh := [.one .bool]
theorem e_ground_CheckData_1:cFn Try.prog 110 = some F_ground_CheckData_1.erase := by kernel_rfl
theorem k_ground_CheckData_1:callable Try.prog 110 = true := by kernel_rfl
def F_ground_misfit:TFn := ⟨54,9,[.celln 4 2],
 (.seq (.reg [(oQ 2 (.box 0 (.t 0))),
 (oQ 4 (.newz 1 [zQ,zQ]))])
 (.seq (.reg [(oQ 11 (.build [zQ,zQ] [(0,1,(iQ 0)),(1,1,(iQ 1))])),
 (oQ 5 (.newz 2 [zQ,zQ])),
 (uQ (.st 2 (.t 5) (.t 11)))])
 (.seq (.seq (.reg [(oQ 12 (.mv (.t 1))),
 (oQ 13 (.len false (.t 12))),
 (oQ 14 (.mv (iQ 0)))])
 (.block 0 (.loop [.v 14 tQ,.c 2 pQ] [2,3,5,7] [3,5,7] (.seq (.reg [(oQ 15 (.bin .lss (.t 14) (.t 13)))])
 (.seq (.cond (.t 15) .skip (.exit 0))
 (.seq (.block 1 (.seq (.reg [(oQ 16 (.ia 3 (.t 12) (.t 14))),
 (oQ 17 (.ldn 3 (.t 16))),
 (oQ 7 (.newz 3 [zQ,zQ,zQ])),
 (uQ (.st 3 (.t 7) (.t 17)))])
 (.seq (.reg [(oQ 18 (.fa 0 (.t 2))),
 (oQ 19 (.ld1 (.t 18))),
 (oQ 20 (.fa 0 (.t 7))),
 (oQ 21 (.ld1 (.t 20))),
 (kQ 22 4 79 [(.t 19),(.t 21)]),
 (oQ 8 (.newz 5 [zQ,zQ])),
 (uQ (.st 2 (.t 8) (.t 22)))])
 (.seq (.reg [(oQ 23 (.fa 1 (.t 7))),
 (oQ 24 (.fa 0 (.t 23))),
 (oQ 25 (.ld1 (.t 24))),
 (oQ 26 (.fa 1 (.t 8))),
 (oQ 27 (.ld1 (.t 26))),
 (oQ 28 (.bin .mul (.t 25) (.t 27))),
 (oQ 29 (.fa 0 (.t 8))),
 (oQ 30 (.ld1 (.t 29))),
 (oQ 31 (.bin .mul (iQ 1000) (.t 30))),
 (oQ 32 (.bin .sub (.t 28) (.t 31))),
 (oQ 33 (.fa 0 (.t 8))),
 (oQ 34 (.ld1 (.t 33))),
 (oQ 35 (.bin .mul (iQ 1000) (.t 34))),
 (oQ 36 (.fa 1 (.t 7))),
 (oQ 37 (.fa 1 (.t 36))),
 (oQ 38 (.ld1 (.t 37))),
 (oQ 39 (.fa 1 (.t 8))),
 (oQ 40 (.ld1 (.t 39))),
 (oQ 41 (.bin .mul (.t 38) (.t 40))),
 (oQ 42 (.bin .sub (.t 35) (.t 41))),
 (oQ 43 (.mm3 true (iQ 0) (.t 32) (.t 42))),
 (oQ 9 (.mv (.t 43)))])
 (.seq (.reg [(oQ 44 (.mv (.t 9))),
 (oQ 45 (.fa 1 (.t 8))),
 (oQ 46 (.ld1 (.t 45))),
 (kQ 47 6 126 [(.t 44),(.t 46)]),
 (oQ 10 (.newz 7 [zQ,zQ])),
 (uQ (.st 2 (.t 10) (.t 47)))])
 (.seq (.reg [(oQ 48 (.ldn 2 (.t 10))),
 (oQ 49 (.ldn 2 (.t 5))),
 (kQ 50 8 138 [(.t 48),(.t 49)])])
 (.cond (.t 50) (.reg [(oQ 51 (.ldn 2 (.t 10))),
 (uQ (.st 2 (.t 5) (.t 51)))]) .skip)))))))
 (.reg [(oQ 52 (.bin .add (.t 14) (iQ 1))),
 (oQ 14 (.mv (.t 52)))])))))))
 (.seq (.reg [(oQ 53 (.ldn 2 (.t 5))),
 (uQ (.st 2 (.t 4) (.t 53)))])
 .ret))))⟩
def A_ground_misfit:Nat→Ty := tyAt [.un,.un,.un,.un,.un,.un,.un,.un,.un]
abbrev P_ground_misfit:List PSh := [.agg (.sl pQ),.one (.sl (.pr tQ pQ))]
abbrev R_ground_misfit:List PSh := [.agg pQ]
theorem e_ground_misfit:cFn Try.prog 111 = some F_ground_misfit.erase := by kernel_rfl
theorem k_ground_misfit:callable Try.prog 111 = true := by kernel_rfl
def F_ref04_Distance:TFn := ⟨33,14,[.celln 4 4],
 (.seq (.reg [(oQ 2 (.box 0 (.t 0))),
 (oQ 3 (.box 1 (.t 1))),
 (oQ 4 (.newz 2 [zQ,(.p (.sl 0 [] true)),zQ,(.p (.sl 0 [] true))]))])
 (.seq (.reg [(oQ 8 (.ldn 4 (.t 2))),
 (kQ 9 3 104 [(.t 8)]),
 (oQ 5 (.newz 4 [zQ,(.p (.sl 0 [] true)),zQ,(.p (.sl 0 [] true))])),
 (uQ (.st 4 (.t 5) (.t 9)))])
 (.seq (.seq (.reg [(oQ 10 (.fa 1 (.t 3))),
 (oQ 11 (.fa 0 (.t 10))),
 (oQ 12 (.ld1 (.t 11))),
 (kQ 13 5 84 [(.t 12)]),
 (oQ 6 (.newz 6 [zQ,(.p (.sl 0 [] true)),zQ,(.p (.sl 0 [] true))])),
 (uQ (.st 4 (.t 6) (.t 13)))])
 (.seq (.reg [(oQ 14 (.ldn 4 (.t 5))),
 (oQ 15 (.ldn 4 (.t 6))),
 (kQ 16 7 105 [(.t 14),(.t 15)]),
 (oQ 17 (.bin .lss (.t 16) (iQ 0)))])
 (.cond (.t 17) (.seq (.reg [(oQ 18 (.ldn 4 (.t 6))),
 (oQ 19 (.ldn 4 (.t 5))),
 (kQ 20 8 117 [(.t 18),(.t 19)]),
 (uQ (.st 4 (.t 4) (.t 20)))])
 .ret) .skip)))
 (.seq (.seq (.reg [(oQ 21 (.fa 1 (.t 3))),
 (oQ 22 (.fa 1 (.t 21))),
 (oQ 23 (.ld1 (.t 22))),
 (kQ 24 9 84 [(.t 23)]),
 (oQ 7 (.newz 10 [zQ,(.p (.sl 0 [] true)),zQ,(.p (.sl 0 [] true))])),
 (uQ (.st 4 (.t 7) (.t 24)))])
 (.seq (.reg [(oQ 25 (.ldn 4 (.t 5))),
 (oQ 26 (.ldn 4 (.t 7))),
 (kQ 27 11 105 [(.t 25),(.t 26)]),
 (oQ 28 (.bin .gtr (.t 27) (iQ 0)))])
 (.cond (.t 28) (.seq (.reg [(oQ 29 (.ldn 4 (.t 5))),
 (oQ 30 (.ldn 4 (.t 7))),
 (kQ 31 12 117 [(.t 29),(.t 30)]),
 (uQ (.st 4 (.t 4) (.t 31)))])
 .ret) .skip)))
 (.seq (.reg [(kQ 32 13 84 [(iQ 0)]),
 (uQ (.st 4 (.t 4) (.t 32)))])
 .ret)))))⟩
def A_ref04_Distance:Nat→Ty := tyAt [.un,.un,.un,.un,.un,.un,.un,.un,.un,.un,.un,.un,.un,.un]
abbrev P_ref04_Distance:List PSh := [.agg (.pr (.pr tQ (.sl tQ)) (.pr tQ (.sl tQ))),.agg (.pr tQ pQ)]
abbrev R_ref04_Distance:List PSh := [.agg (.pr (.pr tQ (.sl tQ)) (.pr tQ (.sl tQ)))]
theorem e_ref04_Distance:cFn Try.prog 112 = some F_ref04_Distance.erase := by kernel_rfl
theorem k_ref04_Distance:callable Try.prog 112 = true := by kernel_rfl
def F_base_RatioSign:TFn := ⟨6,2,[.tmp 2],
 (.seq (.reg [(oQ 1 (.box 0 (.t 0))),
 (oQ 2 (.mv (iQ 0)))])
 (.seq (.reg [(oQ 3 (.fa 0 (.t 1))),
 (oQ 4 (.ldn 2 (.t 3))),
 (kQ 5 1 139 [(.t 4)]),
 (oQ 2 (.mv (.t 5)))])
 .ret))⟩
def A_base_RatioSign:Nat→Ty := tyAt [.un,.un]
abbrev P_base_RatioSign:List PSh := [.agg (.pr (.pr tQ (.sl tQ)) (.pr tQ (.sl tQ)))]
abbrev R_base_RatioSign:List PSh := [.one tQ]
theorem e_base_RatioSign:cFn Try.prog 113 = some F_base_RatioSign.erase := by kernel_rfl
theorem k_base_RatioSign:callable Try.prog 113 = true := by kernel_rfl
def F_ground_compare:TFn := ⟨52,2,[.tmp 8],
 (.seq (.reg [(oQ 8 (.mv (iQ 0)))])
 (.seq (.reg [(oQ 14 (.mv (.t 0))),
 (oQ 15 (.conv .u64 (.t 14))),
 (oQ 16 (.mv (.t 1))),
 (oQ 17 (.conv .u64 (.t 16))),
 (kQ 18 0 140 [(.t 15),(.t 17)]),
 (oQ 13 (.mv (.t 18))),
 (oQ 19 (.ext 0 (.t 13))),
 (oQ 20 (.ext 1 (.t 13))),
 (oQ 9 (.mv (.t 19))),
 (oQ 10 (.mv (.t 20)))])
 (.seq (.reg [(oQ 22 (.mv (.t 2))),
 (oQ 23 (.conv .u64 (.t 22))),
 (oQ 24 (.mv (.t 3))),
 (oQ 25 (.conv .u64 (.t 24))),
 (kQ 26 1 140 [(.t 23),(.t 25)]),
 (oQ 21 (.mv (.t 26))),
 (oQ 27 (.ext 0 (.t 21))),
 (oQ 28 (.ext 1 (.t 21))),
 (oQ 11 (.mv (.t 27))),
 (oQ 12 (.mv (.t 28)))])
 (.seq (.block 0 (.seq (.reg [(oQ 30 (.mv (.t 9))),
 (oQ 31 (.mv (.t 11))),
 (oQ 32 (.bin .eql (.t 30) (.t 31))),
 (oQ 33 (.mv (.t 32))),
 (gQ 34 33 true (.mv (.t 10))),
 (gQ 35 33 true (.mv (.t 12))),
 (gQ 36 33 true (.bin .eql (.t 34) (.t 35))),
 (oQ 37 (.pick (.t 33) (.t 36) (.c (.p (.bool false))))),
 (oQ 29 (.mv (.t 37)))])
 (.cond (.t 29) (.seq (.reg [(oQ 8 (.mv (iQ 0)))])
 .ret) (.seq (.reg [(oQ 39 (.mv (.t 9))),
 (oQ 40 (.mv (.t 11))),
 (oQ 41 (.bin .gtr (.t 39) (.t 40))),
 (oQ 42 (.mv (.t 41))),
 (gQ 43 42 false (.mv (.t 9))),
 (gQ 44 42 false (.mv (.t 11))),
 (gQ 45 42 false (.bin .eql (.t 43) (.t 44))),
 (gQ 46 42 false (.mv (.t 45))),
 (gQ 47 46 true (.mv (.t 10))),
 (gQ 48 46 true (.mv (.t 12))),
 (gQ 49 46 true (.bin .gtr (.t 47) (.t 48))),
 (gQ 50 42 false (.pick (.t 46) (.t 49) (.c (.p (.bool false))))),
 (oQ 51 (.pick (.t 42) (.c (.p (.bool true))) (.t 50))),
 (oQ 38 (.mv (.t 51)))])
 (.cond (.t 38) (.seq (.reg [(oQ 8 (.mv (iQ 1)))])
 .ret) .skip)))))
 (.seq (.reg [(oQ 8 (.mv (iQ (-1))))])
 .ret)))))⟩
def A_ground_compare:Nat→Ty := tyAt [.un,.un]
abbrev P_ground_compare:List PSh := [.one tQ,.one tQ,.one tQ,.one tQ]
abbrev R_ground_compare:List PSh := [.one tQ]
theorem e_ground_compare:cFn Try.prog 116 = some F_ground_compare.erase := by kernel_rfl
theorem k_ground_compare:callable Try.prog 116 = true := by kernel_rfl
def F_base_RatioSub:TFn := ⟨9,5,[.celln 4 4],
 (.seq (.reg [(oQ 2 (.box 0 (.t 0))),
 (oQ 3 (.box 1 (.t 1))),
 (oQ 4 (.newz 2 [zQ,(.p (.sl 0 [] true)),zQ,(.p (.sl 0 [] true))]))])
 (.seq (.regd [(oQ 5 (.ldn 4 (.t 2))),
 (oQ 6 (.ldn 4 (.t 3))),
 (kQ 7 3 118 [(.t 6)]),
 (kQ 8 4 87 [(.t 5),(.t 7)]),
 (uQ (.st 4 (.t 4) (.t 8)))] [(0,1),(0,2)] [])
 .ret))⟩
def A_base_RatioSub:Nat→Ty := tyAt [.un,.un,.un,.un,.un]
abbrev P_base_RatioSub:List PSh := [.agg (.pr (.pr tQ (.sl tQ)) (.pr tQ (.sl tQ))),.agg (.pr (.pr tQ (.sl tQ)) (.pr tQ (.sl tQ)))]
abbrev R_base_RatioSub:List PSh := [.agg (.pr (.pr tQ (.sl tQ)) (.pr tQ (.sl tQ)))]
theorem e_base_RatioSub:cFn Try.prog 117 = some F_base_RatioSub.erase := by kernel_rfl
theorem k_base_RatioSub:callable Try.prog 117 = true := by kernel_rfl
def F_base_RatioNeg:TFn := ⟨9,3,[.celln 2 4],
 (.seq (.reg [(oQ 1 (.box 0 (.t 0))),
 (oQ 2 (.newz 1 [zQ,(.p (.sl 0 [] true)),zQ,(.p (.sl 0 [] true))]))])
 (.seq (.regd [(oQ 3 (.fa 0 (.t 1))),
 (oQ 4 (.ldn 2 (.t 3))),
 (kQ 5 2 141 [(.t 4)]),
 (oQ 6 (.fa 2 (.t 1))),
 (oQ 7 (.ldn 2 (.t 6))),
 (oQ 8 (.build [zQ,(.p (.sl 0 [] true)),zQ,(.p (.sl 0 [] true))] [(0,2,(.t 5)),(2,2,(.t 7))])),
 (uQ (.st 4 (.t 2) (.t 8)))] [(1,4),(2,4)] [])
 .ret))⟩
def A_base_RatioNeg:Nat→Ty := tyAt [.un,.un,.un]
abbrev P_base_RatioNeg:List PSh := [.agg (.pr (.pr tQ (.sl tQ)) (.pr tQ (.sl tQ)))]
abbrev R_base_RatioNeg:List PSh := [.agg (.pr (.pr tQ (.sl tQ)) (.pr tQ (.sl tQ)))]
theorem e_base_RatioNeg:cFn Try.prog 118 = some F_base_RatioNeg.erase := by kernel_rfl
theorem k_base_RatioNeg:callable Try.prog 118 = true := by kernel_rfl
def F_ground_disagree:TFn := ⟨37,4,[.tmp 6],
 (.seq (.reg [(oQ 3 (.box 0 (.t 0))),
 (oQ 4 (.box 1 (.t 1))),
 (oQ 6 (.mv (.c (.p (.bool false)))))])
 (.seq (.seq (.reg [(oQ 10 (.fa 0 (.t 3))),
 (oQ 11 (.ld1 (.t 10))),
 (oQ 12 (.len false (.t 11))),
 (oQ 13 (.mv (iQ 0)))])
 (.block 0 (.loop [.v 13 tQ] [2,3] [2,3] (.seq (.reg [(oQ 14 (.bin .lss (.t 13) (.t 12)))])
 (.seq (.cond (.t 14) .skip (.exit 0))
 (.seq (.block 1 (.seq (.reg [(oQ 15 (.mv (.t 13))),
 (oQ 16 (.ia 2 (.t 11) (.t 13))),
 (oQ 17 (.ldn 2 (.t 16))),
 (oQ 8 (.newz 2 [zQ,zQ])),
 (oQ 7 (.mv (.t 15))),
 (uQ (.st 2 (.t 8) (.t 17)))])
 (.seq (.reg [(oQ 18 (.fa 0 (.t 4))),
 (oQ 19 (.ld1 (.t 18))),
 (oQ 20 (.mv (.t 7))),
 (oQ 21 (.ia 2 (.t 19) (.t 20))),
 (oQ 22 (.ldn 2 (.t 21))),
 (oQ 9 (.newz 3 [zQ,zQ])),
 (uQ (.st 2 (.t 9) (.t 22)))])
 (.seq (.reg [(oQ 23 (.fa 0 (.t 8))),
 (oQ 24 (.ld1 (.t 23))),
 (oQ 25 (.fa 0 (.t 9))),
 (oQ 26 (.ld1 (.t 25))),
 (oQ 27 (.mm true (.t 24) (.t 26))),
 (oQ 28 (.fa 0 (.t 8))),
 (oQ 29 (.ld1 (.t 28))),
 (oQ 30 (.fa 0 (.t 9))),
 (oQ 31 (.ld1 (.t 30))),
 (oQ 32 (.mm false (.t 29) (.t 31))),
 (oQ 33 (.bin .sub (.t 27) (.t 32))),
 (oQ 34 (.mv (.t 2))),
 (oQ 35 (.bin .geq (.t 33) (.t 34)))])
 (.cond (.t 35) (.seq (.reg [(oQ 6 (.mv (.c (.p (.bool true)))))])
 .ret) .skip)))))
 (.reg [(oQ 36 (.bin .add (.t 13) (iQ 1))),
 (oQ 13 (.mv (.t 36)))])))))))
 (.seq (.reg [(oQ 6 (.mv (.c (.p (.bool false)))))])
 .ret)))⟩
theorem e_ground_disagree:cFn Try.prog 124 = some F_ground_disagree.erase := by kernel_rfl
def F_slices_Backwardapi_GroundLayer_api_GroundLayer:TFn := ⟨4,1,[.tmp 2],
 (.seq (.reg [(oQ 1 (.box 0 (.t 0))),
 (oQ 2 (.mv (.c .und)))])
 (.seq (.reg [(oQ 3 (.clo 144 [(.t 1)])),
 (oQ 2 (.mv (.t 3)))])
 .ret))⟩
def A_slices_Backwardapi_GroundLayer_api_GroundLayer:Nat→Ty := tyAt [.un]
abbrev P_slices_Backwardapi_GroundLayer_api_GroundLayer:List PSh := [.one (.sl pQ)]
abbrev R_slices_Backwardapi_GroundLayer_api_GroundLayer:List PSh := [.fn 144 [(.sl pQ)]]
theorem e_slices_Backwardapi_GroundLayer_api_GroundLayer:cFn Try.prog 125 = some F_slices_Backwardapi_GroundLayer_api_GroundLayer.erase := by kernel_rfl
theorem k_slices_Backwardapi_GroundLayer_api_GroundLayer:callable Try.prog 125 = true := by kernel_rfl
def F_slices_Backwardapi_GroundLayer_api_GroundLayer_1:TFn := ⟨19,1,[],
 (.seq (.reg [(oQ 4 (.ld1 (.t 1))),
 (oQ 5 (.len false (.t 4))),
 (oQ 6 (.bin .sub (.t 5) (iQ 1))),
 (oQ 3 (.mv (.t 6)))])
 (.block 0 (.loop [] [] [] (.seq (.seq (.reg [(oQ 7 (.mv (.t 3))),
 (oQ 8 (.bin .geq (.t 7) (iQ 0)))])
 (.cond (.t 8) .skip (.exit 0)))
 (.seq (.block 1 (.seq (.reg [(oQ 11 (.mv (.t 0))),
 (oQ 12 (.mv (.t 3))),
 (oQ 13 (.ld1 (.t 1))),
 (oQ 14 (.mv (.t 3))),
 (oQ 15 (.ia 2 (.t 13) (.t 14))),
 (oQ 16 (.ldn 2 (.t 15))),
 ⟨some 17,none,(.callv 0 (.t 11) [(.t 12),(.t 16)])⟩,
 (oQ 18 (.unot (.t 17)))])
 (.cond (.t 18) .ret .skip)))
 (.reg [(oQ 9 (.mv (.t 3))),
 (oQ 10 (.bin .sub (.t 9) (iQ 1))),
 (oQ 3 (.mv (.t 10)))]))))))⟩
theorem e_slices_Backwardapi_GroundLayer_api_GroundLayer_1:cFn Try.prog 144 = some F_slices_Backwardapi_GroundLayer_api_GroundLayer_1.erase := by kernel_rfl
theorem k_slices_Backwardapi_GroundLayer_api_GroundLayer_1:callI Try.prog 144 = true := by kernel_rfl
def F_ground_reduced:TFn := ⟨16,2,[.celln 4 2],
 (.seq (.reg [(oQ 4 (.newz 0 [zQ,zQ]))])
 (.seq (.reg [(oQ 6 (.mv (.t 0))),
 (oQ 7 (.mv (.t 1))),
 (kQ 8 1 145 [(.t 6),(.t 7)]),
 (oQ 5 (.mv (.t 8)))])
 (.seq (.regd [(oQ 9 (.mv (.t 0))),
 (oQ 10 (.mv (.t 5))),
 (oQ 11 (.bin .quo (.t 9) (.t 10))),
 (oQ 12 (.mv (.t 1))),
 (oQ 13 (.mv (.t 5))),
 (oQ 14 (.bin .quo (.t 12) (.t 13))),
 (oQ 15 (.build [zQ,zQ] [(0,1,(.t 11)),(1,1,(.t 14))])),
 (uQ (.st 2 (.t 4) (.t 15)))] [] [])
 .ret)))⟩
def A_ground_reduced:Nat→Ty := tyAt [.un,.un]
abbrev P_ground_reduced:List PSh := [.one tQ,.one tQ]
abbrev R_ground_reduced:List PSh := [.agg pQ]
theorem e_ground_reduced:cFn Try.prog 126 = some F_ground_reduced.erase := by kernel_rfl
theorem k_ground_reduced:callable Try.prog 126 = true := by kernel_rfl
def F_base_WideOf:TFn := ⟨20,5,[.celln 2 2],
 (.seq (.reg [(oQ 2 (.newz 0 [zQ,(.p (.sl 0 [] true))]))])
 (.seq (.reg [(oQ 3 (.mv (iQ 1)))])
 (.seq (.seq (.reg [(oQ 5 (.mv (.t 0))),
 (oQ 6 (.bin .lss (.t 5) (iQ 0)))])
 (.cond (.t 6) (.reg [(oQ 3 (.mv (iQ (-1))))]) .skip))
 (.seq (.reg [(oQ 4 (.mv (.c (.p (.sl 0 [] true)))))])
 (.seq (.block 0 (.loop [.v 0 tQ,.o 4 3 tQ] [3] [3] (.seq (.seq (.reg [(oQ 7 (.mv (.t 0))),
 (oQ 8 (.bin .neq (.t 7) (iQ 0)))])
 (.cond (.t 8) .skip (.exit 0)))
 (.block 1 (.seq (.reg [(oQ 9 (.mv (.t 4))),
 (oQ 10 (.mv (.t 0))),
 (oQ 11 (.bin .rem (.t 10) (iQ 1000000000))),
 (kQ 12 1 131 [(.t 11)]),
 (oQ 13 (.bsl false 2 1 1 [zQ] [(0,1,(.t 12))])),
 (oQ 14 (.app 3 1 8 (.t 9) (.t 13))),
 (oQ 4 (.mv (.t 14)))])
 (.reg [(oQ 15 (.mv (.t 0))),
 (oQ 16 (.bin .quo (.t 15) (iQ 1000000000))),
 (oQ 0 (.mv (.t 16)))]))))))
 (.seq (.reg [(oQ 17 (.mv (.t 3))),
 (oQ 18 (.mv (.t 4))),
 (kQ 19 4 146 [(.t 17),(.t 18)]),
 (uQ (.st 2 (.t 2) (.t 19)))])
 .ret))))))⟩
def A_base_WideOf:Nat→Ty := tyAt [.un,.un,tQ,tQ,.un]
abbrev P_base_WideOf:List PSh := [.one tQ]
abbrev R_base_WideOf:List PSh := [.agg (.pr tQ (.sl tQ))]
theorem e_base_WideOf:cFn Try.prog 127 = some F_base_WideOf.erase := by kernel_rfl
theorem k_base_WideOf:callable Try.prog 127 = true := by kernel_rfl
def F_base_RatioMake:TFn := ⟨30,12,[.celln 4 4],
 (.seq (.reg [(oQ 2 (.box 0 (.t 0))),
 (oQ 3 (.box 1 (.t 1))),
 (oQ 4 (.newz 2 [zQ,(.p (.sl 0 [] true)),zQ,(.p (.sl 0 [] true))]))])
 (.seq (.seq (.reg [(oQ 6 (.ldn 2 (.t 3))),
 (kQ 7 3 139 [(.t 6)]),
 (oQ 8 (.bin .lss (.t 7) (iQ 0)))])
 (.cond (.t 8) (.regd [(oQ 9 (.ldn 2 (.t 2))),
 (kQ 10 4 141 [(.t 9)]),
 (oQ 11 (.ldn 2 (.t 3))),
 (kQ 12 5 141 [(.t 11)]),
 (uQ (.st 2 (.t 2) (.t 10))),
 (uQ (.st 2 (.t 3) (.t 12)))] [(0,2),(1,2)] []) .skip))
 (.seq (.reg [(oQ 13 (.ldn 2 (.t 2))),
 (oQ 14 (.ldn 2 (.t 3))),
 (kQ 15 6 147 [(.t 13),(.t 14)]),
 (oQ 5 (.newz 7 [zQ,(.p (.sl 0 [] true))])),
 (uQ (.st 2 (.t 5) (.t 15)))])
 (.seq (.seq (.regd [(oQ 16 (.ldn 2 (.t 5))),
 (kQ 17 8 127 [(iQ 1)]),
 (kQ 18 9 134 [(.t 16),(.t 17)]),
 (oQ 19 (.bin .eql (.t 18) (iQ 0)))] [(0,1)] [])
 (.cond (.t 19) (.seq (.reg [(oQ 20 (.ldn 2 (.t 2))),
 (oQ 21 (.ldn 2 (.t 3))),
 (oQ 22 (.build [zQ,(.p (.sl 0 [] true)),zQ,(.p (.sl 0 [] true))] [(0,2,(.t 20)),(2,2,(.t 21))])),
 (uQ (.st 4 (.t 4) (.t 22)))])
 .ret) .skip))
 (.seq (.regd [(oQ 23 (.ldn 2 (.t 2))),
 (oQ 24 (.ldn 2 (.t 5))),
 (kQ 25 10 148 [(.t 23),(.t 24)]),
 (oQ 26 (.ldn 2 (.t 3))),
 (oQ 27 (.ldn 2 (.t 5))),
 (kQ 28 11 148 [(.t 26),(.t 27)]),
 (oQ 29 (.build [zQ,(.p (.sl 0 [] true)),zQ,(.p (.sl 0 [] true))] [(0,2,(.t 25)),(2,2,(.t 28))])),
 (uQ (.st 4 (.t 4) (.t 29)))] [(0,1),(0,3),(1,3),(2,3),(0,4),(1,4),(2,4),(3,4)] [])
 .ret)))))⟩
def A_base_RatioMake:Nat→Ty := tyAt [.un,.un,.un,.un,.un,.un,.un,.un,.un,.un,.un,.un]
abbrev P_base_RatioMake:List PSh := [.agg (.pr tQ (.sl tQ)),.agg (.pr tQ (.sl tQ))]
abbrev R_base_RatioMake:List PSh := [.agg (.pr (.pr tQ (.sl tQ)) (.pr tQ (.sl tQ)))]
theorem e_base_RatioMake:cFn Try.prog 128 = some F_base_RatioMake.erase := by kernel_rfl
theorem k_base_RatioMake:callable Try.prog 128 = true := by kernel_rfl
def F_base_WideMul:TFn := ⟨86,5,[.celln 4 2],
 (.seq (.reg [(oQ 2 (.box 0 (.t 0))),
 (oQ 3 (.box 1 (.t 1))),
 (oQ 4 (.newz 2 [zQ,(.p (.sl 0 [] true))]))])
 (.seq (.reg [(oQ 10 (.fa 1 (.t 2))),
 (oQ 11 (.ld1 (.t 10))),
 (oQ 12 (.len false (.t 11))),
 (oQ 13 (.fa 1 (.t 3))),
 (oQ 14 (.ld1 (.t 13))),
 (oQ 15 (.len false (.t 14))),
 (oQ 16 (.bin .add (.t 12) (.t 15))),
 (oQ 17 (.bin .add (.t 16) (iQ 1))),
 (oQ 18 (.mk 3 1 8 [zQ] (.t 17))),
 (oQ 5 (.mv (.t 18)))])
 (.seq (.seq (.reg [(oQ 6 (.mv (iQ 0)))])
 (.block 0 (.loop [.v 6 tQ,.d 3 tQ] [3] [] (.seq (.seq (.reg [(oQ 19 (.mv (.t 6))),
 (oQ 20 (.fa 1 (.t 2))),
 (oQ 21 (.ld1 (.t 20))),
 (oQ 22 (.len false (.t 21))),
 (oQ 23 (.bin .lss (.t 19) (.t 22)))])
 (.cond (.t 23) .skip (.exit 0)))
 (.seq (.block 1 (.seq (.reg [(oQ 7 (.mv (iQ 0)))])
 (.seq (.seq (.reg [(oQ 8 (.mv (iQ 0)))])
 (.block 2 (.loop [.v 8 tQ,.v 7 tQ,.d 3 tQ] [3] [] (.seq (.seq (.reg [(oQ 26 (.mv (.t 8))),
 (oQ 27 (.fa 1 (.t 3))),
 (oQ 28 (.ld1 (.t 27))),
 (oQ 29 (.len false (.t 28))),
 (oQ 30 (.bin .lss (.t 26) (.t 29)))])
 (.cond (.t 30) .skip (.exit 2)))
 (.seq (.block 3 (.seq (.regd [(oQ 33 (.mv (.t 5))),
 (oQ 34 (.mv (.t 6))),
 (oQ 35 (.mv (.t 8))),
 (oQ 36 (.bin .add (.t 34) (.t 35))),
 (oQ 37 (.ia 1 (.t 33) (.t 36))),
 (oQ 38 (.ld1 (.t 37))),
 (oQ 39 (.fa 1 (.t 2))),
 (oQ 40 (.ld1 (.t 39))),
 (oQ 41 (.mv (.t 6))),
 (oQ 42 (.ia 1 (.t 40) (.t 41))),
 (oQ 43 (.ld1 (.t 42))),
 (oQ 44 (.fa 1 (.t 3))),
 (oQ 45 (.ld1 (.t 44))),
 (oQ 46 (.mv (.t 8))),
 (oQ 47 (.ia 1 (.t 45) (.t 46))),
 (oQ 48 (.ld1 (.t 47))),
 (oQ 49 (.bin .mul (.t 43) (.t 48))),
 (oQ 50 (.bin .add (.t 38) (.t 49))),
 (oQ 51 (.mv (.t 7))),
 (oQ 52 (.bin .add (.t 50) (.t 51))),
 (oQ 9 (.mv (.t 52)))] [(5,7),(5,10),(5,12),(7,12),(10,12),(5,15),(7,15),(10,15)] [])
 (.reg [(oQ 53 (.mv (.t 5))),
 (oQ 54 (.mv (.t 6))),
 (oQ 55 (.mv (.t 8))),
 (oQ 56 (.bin .add (.t 54) (.t 55))),
 (oQ 57 (.mv (.t 9))),
 (oQ 58 (.bin .rem (.t 57) (iQ 1000000000))),
 (oQ 59 (.mv (.t 9))),
 (oQ 60 (.bin .quo (.t 59) (iQ 1000000000))),
 (oQ 61 (.ia 1 (.t 53) (.t 56))),
 (uQ (.st 1 (.t 61) (.t 58))),
 (oQ 7 (.mv (.t 60)))])))
 (.reg [(oQ 31 (.mv (.t 8))),
 (oQ 32 (.bin .add (.t 31) (iQ 1))),
 (oQ 8 (.mv (.t 32)))]))))))
 (.regd [(oQ 62 (.mv (.t 5))),
 (oQ 63 (.mv (.t 6))),
 (oQ 64 (.fa 1 (.t 3))),
 (oQ 65 (.ld1 (.t 64))),
 (oQ 66 (.len false (.t 65))),
 (oQ 67 (.bin .add (.t 63) (.t 66))),
 (oQ 68 (.mv (.t 5))),
 (oQ 69 (.mv (.t 6))),
 (oQ 70 (.fa 1 (.t 3))),
 (oQ 71 (.ld1 (.t 70))),
 (oQ 72 (.len false (.t 71))),
 (oQ 73 (.bin .add (.t 69) (.t 72))),
 (oQ 74 (.ia 1 (.t 68) (.t 73))),
 (oQ 75 (.ld1 (.t 74))),
 (oQ 76 (.mv (.t 7))),
 (oQ 77 (.bin .add (.t 75) (.t 76))),
 (oQ 78 (.ia 1 (.t 62) (.t 67))),
 (uQ (.st 1 (.t 78) (.t 77)))] [(3,9),(3,13)] []))))
 (.reg [(oQ 24 (.mv (.t 6))),
 (oQ 25 (.bin .add (.t 24) (iQ 1))),
 (oQ 6 (.mv (.t 25)))]))))))
 (.seq (.reg [(oQ 79 (.fa 0 (.t 2))),
 (oQ 80 (.ld1 (.t 79))),
 (oQ 81 (.fa 0 (.t 3))),
 (oQ 82 (.ld1 (.t 81))),
 (oQ 83 (.bin .mul (.t 80) (.t 82))),
 (oQ 84 (.mv (.t 5))),
 (kQ 85 4 146 [(.t 83),(.t 84)]),
 (uQ (.st 2 (.t 4) (.t 85)))])
 .ret))))⟩
def A_base_WideMul:Nat→Ty := tyAt [.un,.un,.un,tQ,.un]
abbrev P_base_WideMul:List PSh := [.agg (.pr tQ (.sl tQ)),.agg (.pr tQ (.sl tQ))]
abbrev R_base_WideMul:List PSh := [.agg (.pr tQ (.sl tQ))]
theorem e_base_WideMul:cFn Try.prog 129 = some F_base_WideMul.erase := by kernel_rfl
theorem k_base_WideMul:callable Try.prog 129 = true := by kernel_rfl
def F_base_WideAdd:TFn := ⟨53,10,[.celln 4 2],
 (.seq (.reg [(oQ 2 (.box 0 (.t 0))),
 (oQ 3 (.box 1 (.t 1))),
 (oQ 4 (.newz 2 [zQ,(.p (.sl 0 [] true))]))])
 (.seq (.seq (.reg [(oQ 6 (.fa 0 (.t 2))),
 (oQ 7 (.ld1 (.t 6))),
 (oQ 8 (.bin .eql (.t 7) (iQ 0)))])
 (.cond (.t 8) (.seq (.reg [(oQ 9 (.ldn 2 (.t 3))),
 (uQ (.st 2 (.t 4) (.t 9)))])
 .ret) .skip))
 (.seq (.seq (.reg [(oQ 10 (.fa 0 (.t 3))),
 (oQ 11 (.ld1 (.t 10))),
 (oQ 12 (.bin .eql (.t 11) (iQ 0)))])
 (.cond (.t 12) (.seq (.reg [(oQ 13 (.ldn 2 (.t 2))),
 (uQ (.st 2 (.t 4) (.t 13)))])
 .ret) .skip))
 (.seq (.seq (.reg [(oQ 14 (.fa 0 (.t 2))),
 (oQ 15 (.ld1 (.t 14))),
 (oQ 16 (.fa 0 (.t 3))),
 (oQ 17 (.ld1 (.t 16))),
 (oQ 18 (.bin .eql (.t 15) (.t 17)))])
 (.cond (.t 18) (.seq (.regd [(oQ 19 (.fa 0 (.t 2))),
 (oQ 20 (.ld1 (.t 19))),
 (oQ 21 (.fa 1 (.t 2))),
 (oQ 22 (.ld1 (.t 21))),
 (oQ 23 (.fa 1 (.t 3))),
 (oQ 24 (.ld1 (.t 23))),
 (kQ 25 3 149 [(.t 22),(.t 24)]),
 (kQ 26 4 146 [(.t 20),(.t 25)]),
 (uQ (.st 2 (.t 4) (.t 26)))] [(1,3),(1,5),(3,5),(1,6)] [])
 .ret) .skip))
 (.seq (.reg [(oQ 27 (.fa 1 (.t 2))),
 (oQ 28 (.ld1 (.t 27))),
 (oQ 29 (.fa 1 (.t 3))),
 (oQ 30 (.ld1 (.t 29))),
 (kQ 31 5 150 [(.t 28),(.t 30)]),
 (oQ 5 (.mv (.t 31)))])
 (.seq (.seq (.reg [(oQ 32 (.mv (.t 5))),
 (oQ 33 (.bin .eql (.t 32) (iQ 0)))])
 (.cond (.t 33) (.seq (.reg [(oQ 34 (.build [zQ,(.p (.sl 0 [] true))] [])),
 (uQ (.st 2 (.t 4) (.t 34)))])
 .ret) .skip))
 (.seq (.seq (.reg [(oQ 35 (.mv (.t 5))),
 (oQ 36 (.bin .gtr (.t 35) (iQ 0)))])
 (.cond (.t 36) (.seq (.regd [(oQ 37 (.fa 0 (.t 2))),
 (oQ 38 (.ld1 (.t 37))),
 (oQ 39 (.fa 1 (.t 2))),
 (oQ 40 (.ld1 (.t 39))),
 (oQ 41 (.fa 1 (.t 3))),
 (oQ 42 (.ld1 (.t 41))),
 (kQ 43 6 151 [(.t 40),(.t 42)]),
 (kQ 44 7 146 [(.t 38),(.t 43)]),
 (uQ (.st 2 (.t 4) (.t 44)))] [(1,3),(1,5),(3,5),(1,6)] [])
 .ret) .skip))
 (.seq (.regd [(oQ 45 (.fa 0 (.t 3))),
 (oQ 46 (.ld1 (.t 45))),
 (oQ 47 (.fa 1 (.t 3))),
 (oQ 48 (.ld1 (.t 47))),
 (oQ 49 (.fa 1 (.t 2))),
 (oQ 50 (.ld1 (.t 49))),
 (kQ 51 8 151 [(.t 48),(.t 50)]),
 (kQ 52 9 146 [(.t 46),(.t 51)]),
 (uQ (.st 2 (.t 4) (.t 52)))] [(1,3),(1,5),(3,5),(1,6)] [])
 .ret))))))))⟩
def A_base_WideAdd:Nat→Ty := tyAt [.un,.un,.un,.un,.un,.un,.un,.un,.un,.un]
abbrev P_base_WideAdd:List PSh := [.agg (.pr tQ (.sl tQ)),.agg (.pr tQ (.sl tQ))]
abbrev R_base_WideAdd:List PSh := [.agg (.pr tQ (.sl tQ))]
theorem e_base_WideAdd:cFn Try.prog 130 = some F_base_WideAdd.erase := by kernel_rfl
theorem k_base_WideAdd:callable Try.prog 130 = true := by kernel_rfl
def F_base_Size:TFn := ⟨7,0,[.tmp 2],
 (.seq (.reg [(oQ 2 (.mv (iQ 0)))])
 (.seq (.reg [(oQ 3 (.mv (.t 0))),
 (oQ 4 (.mv (.t 0))),
 (oQ 5 (.uneg (.t 4))),
 (oQ 6 (.mm true (.t 3) (.t 5))),
 (oQ 2 (.mv (.t 6)))])
 .ret))⟩
def A_base_Size:Nat→Ty := tyAt []
abbrev P_base_Size:List PSh := [.one tQ]
abbrev R_base_Size:List PSh := [.one tQ]
theorem e_base_Size:cFn Try.prog 131 = some F_base_Size.erase := by kernel_rfl
theorem k_base_Size:callable Try.prog 131 = true := by kernel_rfl
def F_slices_Backwardapi_GroundChoice_api_GroundChoice:TFn := ⟨4,1,[.tmp 2],
 (.seq (.reg [(oQ 1 (.box 0 (.t 0))),
 (oQ 2 (.mv (.c .und)))])
 (.seq (.reg [(oQ 3 (.clo 152 [(.t 1)])),
 (oQ 2 (.mv (.t 3)))])
 .ret))⟩
theorem e_slices_Backwardapi_GroundChoice_api_GroundChoice:cFn Try.prog 133 = some F_slices_Backwardapi_GroundChoice_api_GroundChoice.erase := by kernel_rfl
def F_slices_Backwardapi_GroundChoice_api_GroundChoice_1:TFn := ⟨19,1,[],
 (.seq (.reg [(oQ 4 (.ld1 (.t 1))),
 (oQ 5 (.len false (.t 4))),
 (oQ 6 (.bin .sub (.t 5) (iQ 1))),
 (oQ 3 (.mv (.t 6)))])
 (.block 0 (.loop [] [] [] (.seq (.seq (.reg [(oQ 7 (.mv (.t 3))),
 (oQ 8 (.bin .geq (.t 7) (iQ 0)))])
 (.cond (.t 8) .skip (.exit 0)))
 (.seq (.block 1 (.seq (.reg [(oQ 11 (.mv (.t 0))),
 (oQ 12 (.mv (.t 3))),
 (oQ 13 (.ld1 (.t 1))),
 (oQ 14 (.mv (.t 3))),
 (oQ 15 (.ia 2 (.t 13) (.t 14))),
 (oQ 16 (.ldn 2 (.t 15))),
 ⟨some 17,none,(.callv 0 (.t 11) [(.t 12),(.t 16)])⟩,
 (oQ 18 (.unot (.t 17)))])
 (.cond (.t 18) .ret .skip)))
 (.reg [(oQ 9 (.mv (.t 3))),
 (oQ 10 (.bin .sub (.t 9) (iQ 1))),
 (oQ 3 (.mv (.t 10)))]))))))⟩
theorem e_slices_Backwardapi_GroundChoice_api_GroundChoice_1:cFn Try.prog 152 = some F_slices_Backwardapi_GroundChoice_api_GroundChoice_1.erase := by kernel_rfl
def F_ground_class_model_1:TFn := ⟨17,0,[.tmp 3],
 (.seq (.reg [(oQ 3 (.mv (iQ 0)))])
 (.seq (.reg [(oQ 5 (.mv (.t 0))),
 (oQ 6 (.ld1 (.t 1))),
 (oQ 7 (.mv (.t 0))),
 (oQ 8 (.len false (.t 7))),
 (oQ 9 (.bin .rem (.t 6) (.t 8))),
 (oQ 10 (.ia 1 (.t 5) (.t 9))),
 (oQ 11 (.ld1 (.t 10))),
 (oQ 4 (.mv (.t 11)))])
 (.seq (.reg [(oQ 12 (.ld1 (.t 1))),
 (oQ 13 (.mv (.t 0))),
 (oQ 14 (.len false (.t 13))),
 (oQ 15 (.bin .quo (.t 12) (.t 14))),
 (uQ (.st 1 (.t 1) (.t 15)))])
 (.seq (.reg [(oQ 16 (.mv (.t 4))),
 (oQ 3 (.mv (.t 16)))])
 .ret))))⟩
theorem e_ground_class_model_1:cFnM Try.prog 132 = some F_ground_class_model_1.erase := by kernel_rfl
def F_base_WideCmp:TFn := ⟨9,3,[.tmp 4],
 (.seq (.reg [(oQ 2 (.box 0 (.t 0))),
 (oQ 3 (.box 1 (.t 1))),
 (oQ 4 (.mv (iQ 0)))])
 (.seq (.reg [(oQ 5 (.ldn 2 (.t 2))),
 (oQ 6 (.ldn 2 (.t 3))),
 (kQ 7 2 153 [(.t 5),(.t 6)]),
 (oQ 8 (.prt 0 none (.t 7))),
 (oQ 4 (.mv (.t 8)))])
 .ret))⟩
def A_base_WideCmp:Nat→Ty := tyAt [.un,.un,.un]
abbrev P_base_WideCmp:List PSh := [.agg (.pr tQ (.sl tQ)),.agg (.pr tQ (.sl tQ))]
abbrev R_base_WideCmp:List PSh := [.one tQ]
theorem e_base_WideCmp:cFn Try.prog 134 = some F_base_WideCmp.erase := by kernel_rfl
theorem k_base_WideCmp:callable Try.prog 134 = true := by kernel_rfl
def F_slices_ContainsFuncapi_GroundDatum_api_GroundDatum__ground_explainsAll_1:TFn := ⟨9,1,[.tmp 4],
 (.seq (.reg [(oQ 4 (.mv (.c (.p (.bool false)))))])
 (.seq (.reg [(oQ 5 (.mv (.t 0))),
 (oQ 6 (.mv (.t 1))),
 (kQ 7 0 154 [(.t 5),(.t 6)]),
 (oQ 8 (.bin .geq (.t 7) (iQ 0))),
 (oQ 4 (.mv (.t 8)))])
 .ret))⟩
def A_slices_ContainsFuncapi_GroundDatum_api_GroundDatum__ground_explainsAll_1:Nat→Ty := tyAt [.un]
abbrev P_slices_ContainsFuncapi_GroundDatum_api_GroundDatum__ground_explainsAll_1:List PSh := [.one (.sl (.pr tQ pQ)),.fn 136 [(.sl pQ)]]
abbrev R_slices_ContainsFuncapi_GroundDatum_api_GroundDatum__ground_explainsAll_1:List PSh := [.one .bool]
theorem e_slices_ContainsFuncapi_GroundDatum_api_GroundDatum__ground_explainsAll_1:cFn Try.prog 135 = some F_slices_ContainsFuncapi_GroundDatum_api_GroundDatum__ground_explainsAll_1.erase := by kernel_rfl
theorem k_slices_ContainsFuncapi_GroundDatum_api_GroundDatum__ground_explainsAll_1:callable Try.prog 135 = true := by kernel_rfl
def F_ground_quotient_above:TFn := ⟨15,3,[.tmp 4],
 (.seq (.reg [(oQ 2 (.box 0 (.t 0))),
 (oQ 3 (.box 1 (.t 1))),
 (oQ 4 (.mv (.c (.p (.bool false)))))])
 (.seq (.reg [(oQ 5 (.fa 0 (.t 2))),
 (oQ 6 (.ld1 (.t 5))),
 (oQ 7 (.fa 1 (.t 3))),
 (oQ 8 (.ld1 (.t 7))),
 (oQ 9 (.fa 0 (.t 3))),
 (oQ 10 (.ld1 (.t 9))),
 (oQ 11 (.fa 1 (.t 2))),
 (oQ 12 (.ld1 (.t 11))),
 (kQ 13 2 116 [(.t 6),(.t 8),(.t 10),(.t 12)]),
 (oQ 14 (.bin .gtr (.t 13) (iQ 0))),
 (oQ 4 (.mv (.t 14)))])
 .ret))⟩
def A_ground_quotient_above:Nat→Ty := tyAt [.un,.un,.un]
abbrev P_ground_quotient_above:List PSh := [.agg pQ,.agg pQ]
abbrev R_ground_quotient_above:List PSh := [.one .bool]
theorem e_ground_quotient_above:cFn Try.prog 138 = some F_ground_quotient_above.erase := by kernel_rfl
theorem k_ground_quotient_above:callable Try.prog 138 = true := by kernel_rfl
def F_base_WideSign:TFn := ⟨5,1,[.tmp 2],
 (.seq (.reg [(oQ 1 (.box 0 (.t 0))),
 (oQ 2 (.mv (iQ 0)))])
 (.seq (.reg [(oQ 3 (.fa 0 (.t 1))),
 (oQ 4 (.ld1 (.t 3))),
 (oQ 2 (.mv (.t 4)))])
 .ret))⟩
def A_base_WideSign:Nat→Ty := tyAt [.un]
abbrev P_base_WideSign:List PSh := [.agg (.pr tQ (.sl tQ))]
abbrev R_base_WideSign:List PSh := [.one tQ]
theorem e_base_WideSign:cFn Try.prog 139 = some F_base_WideSign.erase := by kernel_rfl
theorem k_base_WideSign:callable Try.prog 139 = true := by kernel_rfl
def F_mathbits_Mul64:TFn := ⟨51,0,[.tmp 4,.tmp 5],
 (.seq (.reg [(oQ 4 (.mv (.c (.p (.int .u64 0))))),
 (oQ 5 (.mv (.c (.p (.int .u64 0)))))])
 (.seq (.reg [(oQ 14 (.mv (.t 0))),
 (oQ 15 (.bin .and (.t 14) (.c (.p (.int .u64 4294967295))))),
 (oQ 6 (.mv (.t 15)))])
 (.seq (.reg [(oQ 16 (.mv (.t 0))),
 (oQ 17 (.sh false (.t 16) (.c (.p (.int .u64 32))))),
 (oQ 7 (.mv (.t 17)))])
 (.seq (.reg [(oQ 18 (.mv (.t 1))),
 (oQ 19 (.bin .and (.t 18) (.c (.p (.int .u64 4294967295))))),
 (oQ 8 (.mv (.t 19)))])
 (.seq (.reg [(oQ 20 (.mv (.t 1))),
 (oQ 21 (.sh false (.t 20) (.c (.p (.int .u64 32))))),
 (oQ 9 (.mv (.t 21)))])
 (.seq (.reg [(oQ 22 (.mv (.t 6))),
 (oQ 23 (.mv (.t 8))),
 (oQ 24 (.bin .mul (.t 22) (.t 23))),
 (oQ 10 (.mv (.t 24)))])
 (.seq (.reg [(oQ 25 (.mv (.t 7))),
 (oQ 26 (.mv (.t 8))),
 (oQ 27 (.bin .mul (.t 25) (.t 26))),
 (oQ 28 (.mv (.t 10))),
 (oQ 29 (.sh false (.t 28) (.c (.p (.int .u64 32))))),
 (oQ 30 (.bin .add (.t 27) (.t 29))),
 (oQ 11 (.mv (.t 30)))])
 (.seq (.reg [(oQ 31 (.mv (.t 11))),
 (oQ 32 (.bin .and (.t 31) (.c (.p (.int .u64 4294967295))))),
 (oQ 12 (.mv (.t 32)))])
 (.seq (.reg [(oQ 33 (.mv (.t 11))),
 (oQ 34 (.sh false (.t 33) (.c (.p (.int .u64 32))))),
 (oQ 13 (.mv (.t 34)))])
 (.seq (.reg [(oQ 35 (.mv (.t 12))),
 (oQ 36 (.mv (.t 6))),
 (oQ 37 (.mv (.t 9))),
 (oQ 38 (.bin .mul (.t 36) (.t 37))),
 (oQ 39 (.bin .add (.t 35) (.t 38))),
 (oQ 12 (.mv (.t 39)))])
 (.seq (.reg [(oQ 40 (.mv (.t 7))),
 (oQ 41 (.mv (.t 9))),
 (oQ 42 (.bin .mul (.t 40) (.t 41))),
 (oQ 43 (.mv (.t 13))),
 (oQ 44 (.bin .add (.t 42) (.t 43))),
 (oQ 45 (.mv (.t 12))),
 (oQ 46 (.sh false (.t 45) (.c (.p (.int .u64 32))))),
 (oQ 47 (.bin .add (.t 44) (.t 46))),
 (oQ 4 (.mv (.t 47)))])
 (.seq (.reg [(oQ 48 (.mv (.t 0))),
 (oQ 49 (.mv (.t 1))),
 (oQ 50 (.bin .mul (.t 48) (.t 49))),
 (oQ 5 (.mv (.t 50)))])
 .ret))))))))))))⟩
def A_mathbits_Mul64:Nat→Ty := tyAt []
abbrev P_mathbits_Mul64:List PSh := [.one (.int .u64),.one (.int .u64)]
abbrev R_mathbits_Mul64:List PSh := [.one (.int .u64),.one (.int .u64)]
theorem e_mathbits_Mul64:cFn Try.prog 140 = some F_mathbits_Mul64.erase := by kernel_rfl
theorem k_mathbits_Mul64:callable Try.prog 140 = true := by kernel_rfl
def F_base_WideNeg:TFn := ⟨9,2,[.celln 2 2],
 (.seq (.reg [(oQ 1 (.box 0 (.t 0))),
 (oQ 2 (.newz 1 [zQ,(.p (.sl 0 [] true))]))])
 (.seq (.reg [(oQ 3 (.fa 0 (.t 1))),
 (oQ 4 (.ld1 (.t 3))),
 (oQ 5 (.uneg (.t 4))),
 (oQ 6 (.fa 1 (.t 1))),
 (oQ 7 (.ld1 (.t 6))),
 (oQ 8 (.build [zQ,(.p (.sl 0 [] true))] [(0,1,(.t 5)),(1,1,(.t 7))])),
 (uQ (.st 2 (.t 2) (.t 8)))])
 .ret))⟩
def A_base_WideNeg:Nat→Ty := tyAt [.un,.un]
abbrev P_base_WideNeg:List PSh := [.agg (.pr tQ (.sl tQ))]
abbrev R_base_WideNeg:List PSh := [.agg (.pr tQ (.sl tQ))]
theorem e_base_WideNeg:cFn Try.prog 141 = some F_base_WideNeg.erase := by kernel_rfl
theorem k_base_WideNeg:callable Try.prog 141 = true := by kernel_rfl
def F_ground_divisor:TFn := ⟨13,0,[.tmp 4],
 (.seq (.reg [(oQ 4 (.mv (iQ 0)))])
 (.seq (.block 0 (.loop [.v 1 tQ,.v 0 tQ] [] [] (.seq (.seq (.reg [(oQ 5 (.mv (.t 1))),
 (oQ 6 (.bin .neq (.t 5) (iQ 0)))])
 (.cond (.t 6) .skip (.exit 0)))
 (.block 1 (.regd [(oQ 7 (.mv (.t 1))),
 (oQ 8 (.mv (.t 0))),
 (oQ 9 (.mv (.t 1))),
 (oQ 10 (.bin .rem (.t 8) (.t 9))),
 (oQ 0 (.mv (.t 7))),
 (oQ 1 (.mv (.t 10)))] [] [])))))
 (.seq (.reg [(oQ 11 (.mv (.t 0))),
 (oQ 12 (.mm true (.t 11) (iQ 1))),
 (oQ 4 (.mv (.t 12)))])
 .ret)))⟩
def A_ground_divisor:Nat→Ty := tyAt []
abbrev P_ground_divisor:List PSh := [.one tQ,.one tQ]
abbrev R_ground_divisor:List PSh := [.one tQ]
theorem e_ground_divisor:cFn Try.prog 145 = some F_ground_divisor.erase := by kernel_rfl
theorem k_ground_divisor:callable Try.prog 145 = true := by kernel_rfl
def F_base_wideOf:TFn := ⟨13,2,[.celln 4 2],
 (.seq (.reg [(oQ 4 (.newz 0 [zQ,(.p (.sl 0 [] true))]))])
 (.seq (.reg [(oQ 5 (.mv (.t 1))),
 (kQ 6 1 156 [(.t 5)]),
 (oQ 1 (.mv (.t 6)))])
 (.seq (.seq (.reg [(oQ 7 (.mv (.t 1))),
 (oQ 8 (.len false (.t 7))),
 (oQ 9 (.bin .eql (.t 8) (iQ 0)))])
 (.cond (.t 9) (.reg [(oQ 0 (.mv (iQ 0)))]) .skip))
 (.seq (.reg [(oQ 10 (.mv (.t 0))),
 (oQ 11 (.mv (.t 1))),
 (oQ 12 (.build [zQ,(.p (.sl 0 [] true))] [(0,1,(.t 10)),(1,1,(.t 11))])),
 (uQ (.st 2 (.t 4) (.t 12)))])
 .ret))))⟩
def A_base_wideOf:Nat→Ty := tyAt [.un,.un]
abbrev P_base_wideOf:List PSh := [.one tQ,.one (.sl tQ)]
abbrev R_base_wideOf:List PSh := [.agg (.pr tQ (.sl tQ))]
theorem e_base_wideOf:cFn Try.prog 146 = some F_base_wideOf.erase := by kernel_rfl
theorem k_base_wideOf:callable Try.prog 146 = true := by kernel_rfl
def F_base_wideGcd:TFn := ⟨23,10,[.celln 4 2],
 (.seq (.reg [(oQ 2 (.box 0 (.t 0))),
 (oQ 3 (.box 1 (.t 1))),
 (oQ 4 (.newz 2 [zQ,(.p (.sl 0 [] true))]))])
 (.seq (.regd [(oQ 6 (.ldn 2 (.t 2))),
 (kQ 7 3 157 [(.t 6)]),
 (oQ 8 (.ldn 2 (.t 3))),
 (kQ 9 4 157 [(.t 8)]),
 (uQ (.st 2 (.t 2) (.t 7))),
 (uQ (.st 2 (.t 3) (.t 9)))] [(0,2),(1,2)] [])
 (.seq (.block 0 (.loop [.c 0 (.pr tQ (.sl tQ)),.c 1 (.pr tQ (.sl tQ))] [0,1,9] [9] (.seq (.seq (.reg [(oQ 10 (.ldn 2 (.t 3))),
 (kQ 11 5 139 [(.t 10)]),
 (oQ 12 (.bin .neq (.t 11) (iQ 0)))])
 (.cond (.t 12) .skip (.exit 0)))
 (.block 1 (.seq (.regd [(oQ 13 (.ldn 2 (.t 2))),
 (oQ 14 (.ldn 2 (.t 2))),
 (oQ 15 (.ldn 2 (.t 3))),
 (kQ 16 6 148 [(.t 14),(.t 15)]),
 (oQ 17 (.ldn 2 (.t 3))),
 (kQ 18 7 129 [(.t 16),(.t 17)]),
 (kQ 19 8 153 [(.t 13),(.t 18)]),
 (oQ 5 (.newz 9 [zQ,(.p (.sl 0 [] true))])),
 (uQ (.st 2 (.t 5) (.t 19)))] [(0,1),(0,2),(1,2),(0,3),(0,4),(1,4),(2,4),(3,4),(0,5),(0,7),(1,7),(2,7),(3,7),(4,7),(5,7),(6,7)] [])
 (.regd [(oQ 20 (.ldn 2 (.t 3))),
 (oQ 21 (.ldn 2 (.t 5))),
 (uQ (.st 2 (.t 2) (.t 20))),
 (uQ (.st 2 (.t 3) (.t 21)))] [(0,1),(1,2)] []))))))
 (.seq (.reg [(oQ 22 (.ldn 2 (.t 2))),
 (uQ (.st 2 (.t 4) (.t 22)))])
 .ret))))⟩
def A_base_wideGcd:Nat→Ty := tyAt [.un,.un,.un,.un,.un,.un,.un,.un,.un,.un]
abbrev P_base_wideGcd:List PSh := [.agg (.pr tQ (.sl tQ)),.agg (.pr tQ (.sl tQ))]
abbrev R_base_wideGcd:List PSh := [.agg (.pr tQ (.sl tQ))]
theorem e_base_wideGcd:cFn Try.prog 147 = some F_base_wideGcd.erase := by kernel_rfl
theorem k_base_wideGcd:callable Try.prog 147 = true := by kernel_rfl
def F_base_WideFloor:TFn := ⟨88,20,[.celln 4 2],
 (.seq (.reg [(oQ 2 (.box 0 (.t 0))),
 (oQ 3 (.box 1 (.t 1))),
 (oQ 4 (.newz 2 [zQ,(.p (.sl 0 [] true))]))])
 (.seq (.seq (.reg [(oQ 12 (.fa 0 (.t 2))),
 (oQ 13 (.ld1 (.t 12))),
 (oQ 14 (.bin .eql (.t 13) (iQ 0)))])
 (.cond (.t 14) (.seq (.reg [(oQ 15 (.build [zQ,(.p (.sl 0 [] true))] [])),
 (uQ (.st 2 (.t 4) (.t 15)))])
 .ret) .skip))
 (.seq (.reg [(oQ 16 (.fa 1 (.t 2))),
 (oQ 17 (.ld1 (.t 16))),
 (oQ 18 (.len false (.t 17))),
 (oQ 19 (.mk 3 1 8 [zQ] (.t 18))),
 (oQ 20 (.bsl false 4 1 0 [] [])),
 (oQ 5 (.mv (.t 19))),
 (oQ 6 (.mv (.t 20)))])
 (.seq (.seq (.reg [(oQ 21 (.fa 1 (.t 2))),
 (oQ 22 (.ld1 (.t 21))),
 (oQ 23 (.len false (.t 22))),
 (oQ 24 (.bin .sub (.t 23) (iQ 1))),
 (oQ 7 (.mv (.t 24)))])
 (.block 0 (.loop [.v 7 tQ,.v 6 (.sl tQ),.d 3 tQ] [3,5] [5] (.seq (.seq (.reg [(oQ 25 (.mv (.t 7))),
 (oQ 26 (.bin .geq (.t 25) (iQ 0)))])
 (.cond (.t 26) .skip (.exit 0)))
 (.seq (.block 1 (.seq (.reg [(oQ 29 (.fa 1 (.t 2))),
 (oQ 30 (.ld1 (.t 29))),
 (oQ 31 (.mv (.t 7))),
 (oQ 32 (.ia 1 (.t 30) (.t 31))),
 (oQ 33 (.ld1 (.t 32))),
 (oQ 34 (.bsl true 5 1 1 [zQ] [(0,1,(.t 33))])),
 (oQ 35 (.mv (.t 6))),
 (oQ 36 (.app 6 1 8 (.t 34) (.t 35))),
 (kQ 37 7 156 [(.t 36)]),
 (oQ 6 (.mv (.t 37)))])
 (.seq (.reg [(oQ 8 (.mv (iQ 0))),
 (oQ 9 (.mv (iQ 999999999)))])
 (.seq (.block 2 (.loop [.v 9 tQ,.v 8 tQ] [] [] (.seq (.seq (.reg [(oQ 38 (.mv (.t 8))),
 (oQ 39 (.mv (.t 9))),
 (oQ 40 (.bin .lss (.t 38) (.t 39)))])
 (.cond (.t 40) .skip (.exit 2)))
 (.block 3 (.seq (.reg [(oQ 41 (.mv (.t 8))),
 (oQ 42 (.mv (.t 9))),
 (oQ 43 (.bin .add (.t 41) (.t 42))),
 (oQ 44 (.bin .add (.t 43) (iQ 1))),
 (oQ 45 (.bin .quo (.t 44) (iQ 2))),
 (oQ 10 (.mv (.t 45)))])
 (.seq (.reg [(oQ 46 (.fa 1 (.t 3))),
 (oQ 47 (.ld1 (.t 46))),
 (kQ 48 8 146 [(iQ 1),(.t 47)]),
 (oQ 49 (.mv (.t 10))),
 (kQ 50 9 127 [(.t 49)]),
 (kQ 51 10 129 [(.t 48),(.t 50)]),
 (oQ 52 (.prt 1 none (.t 51))),
 (oQ 53 (.mv (.t 6))),
 (kQ 54 11 150 [(.t 52),(.t 53)]),
 (oQ 55 (.bin .leq (.t 54) (iQ 0)))])
 (.cond (.t 55) (.reg [(oQ 56 (.mv (.t 10))),
 (oQ 8 (.mv (.t 56)))]) (.reg [(oQ 57 (.mv (.t 10))),
 (oQ 58 (.bin .sub (.t 57) (iQ 1))),
 (oQ 9 (.mv (.t 58)))]))))))))
 (.seq (.reg [(oQ 59 (.mv (.t 5))),
 (oQ 60 (.mv (.t 7))),
 (oQ 61 (.mv (.t 8))),
 (oQ 62 (.ia 1 (.t 59) (.t 60))),
 (uQ (.st 1 (.t 62) (.t 61)))])
 (.reg [(oQ 63 (.mv (.t 6))),
 (oQ 64 (.fa 1 (.t 3))),
 (oQ 65 (.ld1 (.t 64))),
 (kQ 66 12 146 [(iQ 1),(.t 65)]),
 (oQ 67 (.mv (.t 8))),
 (kQ 68 13 127 [(.t 67)]),
 (kQ 69 14 129 [(.t 66),(.t 68)]),
 (oQ 70 (.prt 1 none (.t 69))),
 (kQ 71 15 151 [(.t 63),(.t 70)]),
 (oQ 6 (.mv (.t 71)))]))))))
 (.reg [(oQ 27 (.mv (.t 7))),
 (oQ 28 (.bin .sub (.t 27) (iQ 1))),
 (oQ 7 (.mv (.t 28)))]))))))
 (.seq (.reg [(oQ 72 (.fa 0 (.t 2))),
 (oQ 73 (.ld1 (.t 72))),
 (oQ 74 (.mv (.t 5))),
 (kQ 75 16 146 [(.t 73),(.t 74)]),
 (oQ 11 (.newz 17 [zQ,(.p (.sl 0 [] true))])),
 (uQ (.st 2 (.t 11) (.t 75)))])
 (.seq (.seq (.reg [(oQ 76 (.fa 0 (.t 2))),
 (oQ 77 (.ld1 (.t 76))),
 (oQ 78 (.bin .lss (.t 77) (iQ 0))),
 (oQ 79 (.mv (.t 78))),
 (gQ 80 79 true (.mv (.t 6))),
 (gQ 81 79 true (.len false (.t 80))),
 (gQ 82 79 true (.bin .gtr (.t 81) (iQ 0))),
 (oQ 83 (.pick (.t 79) (.t 82) (.c (.p (.bool false)))))])
 (.cond (.t 83) (.regd [(oQ 84 (.ldn 2 (.t 11))),
 (kQ 85 18 127 [(iQ 1)]),
 (kQ 86 19 153 [(.t 84),(.t 85)]),
 (uQ (.st 2 (.t 11) (.t 86)))] [(0,1)] []) .skip))
 (.seq (.reg [(oQ 87 (.ldn 2 (.t 11))),
 (uQ (.st 2 (.t 4) (.t 87)))])
 .ret)))))))⟩
def A_base_WideFloor:Nat→Ty := tyAt [.un,.un,.un,tQ,tQ,tQ,tQ,.un,.un,.un,.un,.un,.un,.un,.un,.un,.un,.un,.un,.un]
abbrev P_base_WideFloor:List PSh := [.agg (.pr tQ (.sl tQ)),.agg (.pr tQ (.sl tQ))]
abbrev R_base_WideFloor:List PSh := [.agg (.pr tQ (.sl tQ))]
theorem e_base_WideFloor:cFn Try.prog 148 = some F_base_WideFloor.erase := by kernel_rfl
theorem k_base_WideFloor:callable Try.prog 148 = true := by kernel_rfl
def F_base_addDigits:TFn := ⟨42,4,[.tmp 4],
 (.seq (.reg [(oQ 4 (.mv (.c (.p (.sl 0 [] true)))))])
 (.seq (.reg [(oQ 5 (.mv (.c (.p (.sl 0 [] true)))))])
 (.seq (.reg [(oQ 6 (.mv (iQ 0)))])
 (.seq (.seq (.reg [(oQ 7 (.mv (iQ 0)))])
 (.block 0 (.loop [.v 7 tQ,.o 5 3 tQ,.v 6 tQ] [3] [3] (.seq (.seq (.reg [(oQ 9 (.mv (.t 7))),
 (oQ 10 (.mv (.t 0))),
 (oQ 11 (.len false (.t 10))),
 (oQ 12 (.bin .lss (.t 9) (.t 11))),
 (oQ 13 (.mv (.t 12))),
 (gQ 14 13 false (.mv (.t 7))),
 (gQ 15 13 false (.mv (.t 1))),
 (gQ 16 13 false (.len false (.t 15))),
 (gQ 17 13 false (.bin .lss (.t 14) (.t 16))),
 (oQ 18 (.pick (.t 13) (.c (.p (.bool true))) (.t 17))),
 (oQ 19 (.mv (.t 18))),
 (gQ 20 19 false (.mv (.t 6))),
 (gQ 21 19 false (.bin .gtr (.t 20) (iQ 0))),
 (oQ 22 (.pick (.t 19) (.c (.p (.bool true))) (.t 21)))])
 (.cond (.t 22) .skip (.exit 0)))
 (.seq (.block 1 (.seq (.reg [(oQ 25 (.mv (.t 0))),
 (oQ 26 (.mv (.t 7))),
 (kQ 27 0 158 [(.t 25),(.t 26)]),
 (oQ 28 (.mv (.t 1))),
 (oQ 29 (.mv (.t 7))),
 (kQ 30 1 158 [(.t 28),(.t 29)]),
 (oQ 31 (.bin .add (.t 27) (.t 30))),
 (oQ 32 (.mv (.t 6))),
 (oQ 33 (.bin .add (.t 31) (.t 32))),
 (oQ 8 (.mv (.t 33)))])
 (.reg [(oQ 34 (.mv (.t 5))),
 (oQ 35 (.mv (.t 8))),
 (oQ 36 (.bin .rem (.t 35) (iQ 1000000000))),
 (oQ 37 (.bsl false 2 1 1 [zQ] [(0,1,(.t 36))])),
 (oQ 38 (.app 3 1 8 (.t 34) (.t 37))),
 (oQ 39 (.mv (.t 8))),
 (oQ 40 (.bin .quo (.t 39) (iQ 1000000000))),
 (oQ 5 (.mv (.t 38))),
 (oQ 6 (.mv (.t 40)))])))
 (.reg [(oQ 23 (.mv (.t 7))),
 (oQ 24 (.bin .add (.t 23) (iQ 1))),
 (oQ 7 (.mv (.t 24)))]))))))
 (.seq (.reg [(oQ 41 (.mv (.t 5))),
 (oQ 4 (.mv (.t 41)))])
 .ret)))))⟩
def A_base_addDigits:Nat→Ty := tyAt [.un,.un,tQ,tQ]
abbrev P_base_addDigits:List PSh := [.one (.sl tQ),.one (.sl tQ)]
abbrev R_base_addDigits:List PSh := [.one (.sl tQ)]
theorem e_base_addDigits:cFn Try.prog 149 = some F_base_addDigits.erase := by kernel_rfl
theorem k_base_addDigits:callable Try.prog 149 = true := by kernel_rfl
def F_base_cmpDigits:TFn := ⟨41,0,[.tmp 4],
 (.seq (.reg [(oQ 4 (.mv (iQ 0)))])
 (.seq (.seq (.reg [(oQ 6 (.mv (.t 0))),
 (oQ 7 (.len false (.t 6))),
 (oQ 8 (.mv (.t 1))),
 (oQ 9 (.len false (.t 8))),
 (oQ 10 (.bin .neq (.t 7) (.t 9)))])
 (.cond (.t 10) (.seq (.seq (.reg [(oQ 11 (.mv (.t 0))),
 (oQ 12 (.len false (.t 11))),
 (oQ 13 (.mv (.t 1))),
 (oQ 14 (.len false (.t 13))),
 (oQ 15 (.bin .lss (.t 12) (.t 14)))])
 (.cond (.t 15) (.seq (.reg [(oQ 4 (.mv (iQ (-1))))])
 .ret) .skip))
 (.seq (.reg [(oQ 4 (.mv (iQ 1)))])
 .ret)) .skip))
 (.seq (.seq (.reg [(oQ 16 (.mv (.t 0))),
 (oQ 17 (.len false (.t 16))),
 (oQ 18 (.bin .sub (.t 17) (iQ 1))),
 (oQ 5 (.mv (.t 18)))])
 (.block 0 (.loop [.v 5 tQ] [] [] (.seq (.seq (.reg [(oQ 19 (.mv (.t 5))),
 (oQ 20 (.bin .geq (.t 19) (iQ 0)))])
 (.cond (.t 20) .skip (.exit 0)))
 (.seq (.block 1 (.seq (.seq (.regd [(oQ 23 (.mv (.t 0))),
 (oQ 24 (.mv (.t 5))),
 (oQ 25 (.ia 1 (.t 23) (.t 24))),
 (oQ 26 (.ld1 (.t 25))),
 (oQ 27 (.mv (.t 1))),
 (oQ 28 (.mv (.t 5))),
 (oQ 29 (.ia 1 (.t 27) (.t 28))),
 (oQ 30 (.ld1 (.t 29))),
 (oQ 31 (.bin .lss (.t 26) (.t 30)))] [(3,7)] [])
 (.cond (.t 31) (.seq (.reg [(oQ 4 (.mv (iQ (-1))))])
 .ret) .skip))
 (.seq (.regd [(oQ 32 (.mv (.t 0))),
 (oQ 33 (.mv (.t 5))),
 (oQ 34 (.ia 1 (.t 32) (.t 33))),
 (oQ 35 (.ld1 (.t 34))),
 (oQ 36 (.mv (.t 1))),
 (oQ 37 (.mv (.t 5))),
 (oQ 38 (.ia 1 (.t 36) (.t 37))),
 (oQ 39 (.ld1 (.t 38))),
 (oQ 40 (.bin .gtr (.t 35) (.t 39)))] [(3,7)] [])
 (.cond (.t 40) (.seq (.reg [(oQ 4 (.mv (iQ 1)))])
 .ret) .skip))))
 (.reg [(oQ 21 (.mv (.t 5))),
 (oQ 22 (.bin .sub (.t 21) (iQ 1))),
 (oQ 5 (.mv (.t 22)))]))))))
 (.seq (.reg [(oQ 4 (.mv (iQ 0)))])
 .ret))))⟩
def A_base_cmpDigits:Nat→Ty := tyAt []
abbrev P_base_cmpDigits:List PSh := [.one (.sl tQ),.one (.sl tQ)]
abbrev R_base_cmpDigits:List PSh := [.one tQ]
theorem e_base_cmpDigits:cFn Try.prog 150 = some F_base_cmpDigits.erase := by kernel_rfl
theorem k_base_cmpDigits:callable Try.prog 150 = true := by kernel_rfl
def F_base_subDigits:TFn := ⟨35,4,[.tmp 4],
 (.seq (.reg [(oQ 4 (.mv (.c (.p (.sl 0 [] true)))))])
 (.seq (.reg [(oQ 5 (.mv (.c (.p (.sl 0 [] true)))))])
 (.seq (.reg [(oQ 6 (.mv (iQ 0)))])
 (.seq (.seq (.reg [(oQ 7 (.mv (iQ 0)))])
 (.block 0 (.loop [.v 7 tQ,.o 5 2 tQ,.v 6 tQ] [2] [2] (.seq (.seq (.reg [(oQ 9 (.mv (.t 7))),
 (oQ 10 (.mv (.t 0))),
 (oQ 11 (.len false (.t 10))),
 (oQ 12 (.bin .lss (.t 9) (.t 11)))])
 (.cond (.t 12) .skip (.exit 0)))
 (.seq (.block 1 (.seq (.regd [(oQ 15 (.mv (.t 0))),
 (oQ 16 (.mv (.t 7))),
 (oQ 17 (.ia 1 (.t 15) (.t 16))),
 (oQ 18 (.ld1 (.t 17))),
 (oQ 19 (.mv (.t 1))),
 (oQ 20 (.mv (.t 7))),
 (kQ 21 0 158 [(.t 19),(.t 20)]),
 (oQ 22 (.bin .sub (.t 18) (.t 21))),
 (oQ 23 (.mv (.t 6))),
 (oQ 24 (.bin .sub (.t 22) (.t 23))),
 (oQ 8 (.mv (.t 24)))] [(3,6)] [])
 (.seq (.reg [(oQ 6 (.mv (iQ 0)))])
 (.seq (.seq (.reg [(oQ 25 (.mv (.t 8))),
 (oQ 26 (.bin .lss (.t 25) (iQ 0)))])
 (.cond (.t 26) (.reg [(oQ 27 (.mv (.t 8))),
 (oQ 28 (.bin .add (.t 27) (iQ 1000000000))),
 (oQ 8 (.mv (.t 28))),
 (oQ 6 (.mv (iQ 1)))]) .skip))
 (.reg [(oQ 29 (.mv (.t 5))),
 (oQ 30 (.mv (.t 8))),
 (oQ 31 (.bsl false 1 1 1 [zQ] [(0,1,(.t 30))])),
 (oQ 32 (.app 2 1 8 (.t 29) (.t 31))),
 (oQ 5 (.mv (.t 32)))])))))
 (.reg [(oQ 13 (.mv (.t 7))),
 (oQ 14 (.bin .add (.t 13) (iQ 1))),
 (oQ 7 (.mv (.t 14)))]))))))
 (.seq (.reg [(oQ 33 (.mv (.t 5))),
 (kQ 34 3 156 [(.t 33)]),
 (oQ 4 (.mv (.t 34)))])
 .ret)))))⟩
def A_base_subDigits:Nat→Ty := tyAt [.un,tQ,tQ,.un]
abbrev P_base_subDigits:List PSh := [.one (.sl tQ),.one (.sl tQ)]
abbrev R_base_subDigits:List PSh := [.one (.sl tQ)]
theorem e_base_subDigits:cFn Try.prog 151 = some F_base_subDigits.erase := by kernel_rfl
theorem k_base_subDigits:callable Try.prog 151 = true := by kernel_rfl
def F_base_WideSub:TFn := ⟨9,5,[.celln 4 2],
 (.seq (.reg [(oQ 2 (.box 0 (.t 0))),
 (oQ 3 (.box 1 (.t 1))),
 (oQ 4 (.newz 2 [zQ,(.p (.sl 0 [] true))]))])
 (.seq (.regd [(oQ 5 (.ldn 2 (.t 2))),
 (oQ 6 (.ldn 2 (.t 3))),
 (kQ 7 3 141 [(.t 6)]),
 (kQ 8 4 130 [(.t 5),(.t 7)]),
 (uQ (.st 2 (.t 4) (.t 8)))] [(0,1),(0,2)] [])
 .ret))⟩
def A_base_WideSub:Nat→Ty := tyAt [.un,.un,.un,.un,.un]
abbrev P_base_WideSub:List PSh := [.agg (.pr tQ (.sl tQ)),.agg (.pr tQ (.sl tQ))]
abbrev R_base_WideSub:List PSh := [.agg (.pr tQ (.sl tQ))]
theorem e_base_WideSub:cFn Try.prog 153 = some F_base_WideSub.erase := by kernel_rfl
theorem k_base_WideSub:callable Try.prog 153 = true := by kernel_rfl
def F_slices_IndexFuncapi_GroundDatum_api_GroundDatum__ground_explainsAll_1:TFn := ⟨19,1,[.tmp 4],
 (.seq (.reg [(oQ 4 (.mv (iQ 0)))])
 (.seq (.seq (.reg [(oQ 6 (.mv (.t 0))),
 (oQ 7 (.len false (.t 6))),
 (oQ 8 (.mv (iQ 0)))])
 (.block 0 (.loop [.v 8 tQ] [] [] (.seq (.reg [(oQ 9 (.bin .lss (.t 8) (.t 7)))])
 (.seq (.cond (.t 9) .skip (.exit 0))
 (.seq (.block 1 (.seq (.reg [(oQ 10 (.mv (.t 8))),
 (oQ 5 (.mv (.t 10)))])
 (.seq (.reg [(oQ 11 (.mv (.t 1))),
 (oQ 12 (.mv (.t 0))),
 (oQ 13 (.mv (.t 5))),
 (oQ 14 (.ia 3 (.t 12) (.t 13))),
 (oQ 15 (.ldn 3 (.t 14))),
 ⟨some 16,none,(.callv 0 (.t 11) [(.t 15)])⟩])
 (.cond (.t 16) (.seq (.reg [(oQ 17 (.mv (.t 5))),
 (oQ 4 (.mv (.t 17)))])
 .ret) .skip))))
 (.reg [(oQ 18 (.bin .add (.t 8) (iQ 1))),
 (oQ 8 (.mv (.t 18)))])))))))
 (.seq (.reg [(oQ 4 (.mv (iQ (-1))))])
 .ret)))⟩
def A_slices_IndexFuncapi_GroundDatum_api_GroundDatum__ground_explainsAll_1:Nat→Ty := tyAt [.un]
abbrev P_slices_IndexFuncapi_GroundDatum_api_GroundDatum__ground_explainsAll_1:List PSh := [.one (.sl (.pr tQ pQ)),.fn 136 [(.sl pQ)]]
abbrev R_slices_IndexFuncapi_GroundDatum_api_GroundDatum__ground_explainsAll_1:List PSh := [.one tQ]
theorem e_slices_IndexFuncapi_GroundDatum_api_GroundDatum__ground_explainsAll_1:cFn Try.prog 154 = some F_slices_IndexFuncapi_GroundDatum_api_GroundDatum__ground_explainsAll_1.erase := by kernel_rfl
theorem k_slices_IndexFuncapi_GroundDatum_api_GroundDatum__ground_explainsAll_1:callable Try.prog 154 = true := by kernel_rfl
def F_base_trimmed:TFn := ⟨21,0,[.tmp 2],
 (.seq (.reg [(oQ 2 (.mv (.c (.p (.sl 0 [] true)))))])
 (.seq (.reg [(oQ 4 (.mv (.t 0))),
 (oQ 5 (.len false (.t 4))),
 (oQ 3 (.mv (.t 5)))])
 (.seq (.block 0 (.loop [.v 3 tQ] [] [] (.seq (.seq (.reg [(oQ 6 (.mv (.t 3))),
 (oQ 7 (.bin .gtr (.t 6) (iQ 0))),
 (oQ 8 (.mv (.t 7))),
 (gQ 9 8 true (.mv (.t 0))),
 (gQ 10 8 true (.mv (.t 3))),
 (gQ 11 8 true (.bin .sub (.t 10) (iQ 1))),
 (gQ 12 8 true (.ia 1 (.t 9) (.t 11))),
 (gQ 13 8 true (.ld1 (.t 12))),
 (gQ 14 8 true (.bin .eql (.t 13) (iQ 0))),
 (oQ 15 (.pick (.t 8) (.t 14) (.c (.p (.bool false)))))])
 (.cond (.t 15) .skip (.exit 0)))
 (.block 1 (.reg [(oQ 16 (.mv (.t 3))),
 (oQ 17 (.bin .sub (.t 16) (iQ 1))),
 (oQ 3 (.mv (.t 17)))])))))
 (.seq (.reg [(oQ 18 (.mv (.t 0))),
 (oQ 19 (.mv (.t 3))),
 (oQ 20 (.sl 1 (.t 18) none (some (.t 19)))),
 (oQ 2 (.mv (.t 20)))])
 .ret))))⟩
def A_base_trimmed:Nat→Ty := tyAt []
abbrev P_base_trimmed:List PSh := [.one (.sl tQ)]
abbrev R_base_trimmed:List PSh := [.one (.sl tQ)]
theorem e_base_trimmed:cFn Try.prog 156 = some F_base_trimmed.erase := by kernel_rfl
theorem k_base_trimmed:callable Try.prog 156 = true := by kernel_rfl
def F_base_wideSize:TFn := ⟨9,3,[.celln 2 2],
 (.seq (.reg [(oQ 1 (.box 0 (.t 0))),
 (oQ 2 (.newz 1 [zQ,(.p (.sl 0 [] true))]))])
 (.seq (.seq (.reg [(oQ 3 (.fa 0 (.t 1))),
 (oQ 4 (.ld1 (.t 3))),
 (oQ 5 (.bin .lss (.t 4) (iQ 0)))])
 (.cond (.t 5) (.seq (.reg [(oQ 6 (.ldn 2 (.t 1))),
 (kQ 7 2 141 [(.t 6)]),
 (uQ (.st 2 (.t 2) (.t 7)))])
 .ret) .skip))
 (.seq (.reg [(oQ 8 (.ldn 2 (.t 1))),
 (uQ (.st 2 (.t 2) (.t 8)))])
 .ret)))⟩
def A_base_wideSize:Nat→Ty := tyAt [.un,.un,.un]
abbrev P_base_wideSize:List PSh := [.agg (.pr tQ (.sl tQ))]
abbrev R_base_wideSize:List PSh := [.agg (.pr tQ (.sl tQ))]
theorem e_base_wideSize:cFn Try.prog 157 = some F_base_wideSize.erase := by kernel_rfl
theorem k_base_wideSize:callable Try.prog 157 = true := by kernel_rfl
def F_base_digit:TFn := ⟨13,0,[.tmp 4],
 (.seq (.reg [(oQ 4 (.mv (iQ 0)))])
 (.seq (.seq (.reg [(oQ 5 (.mv (.t 1))),
 (oQ 6 (.mv (.t 0))),
 (oQ 7 (.len false (.t 6))),
 (oQ 8 (.bin .lss (.t 5) (.t 7)))])
 (.cond (.t 8) (.seq (.reg [(oQ 9 (.mv (.t 0))),
 (oQ 10 (.mv (.t 1))),
 (oQ 11 (.ia 1 (.t 9) (.t 10))),
 (oQ 12 (.ld1 (.t 11))),
 (oQ 4 (.mv (.t 12)))])
 .ret) .skip))
 (.seq (.reg [(oQ 4 (.mv (iQ 0)))])
 .ret)))⟩
def A_base_digit:Nat→Ty := tyAt []
abbrev P_base_digit:List PSh := [.one (.sl tQ),.one tQ]
abbrev R_base_digit:List PSh := [.one tQ]
theorem e_base_digit:cFn Try.prog 158 = some F_base_digit.erase := by kernel_rfl
theorem k_base_digit:callable Try.prog 158 = true := by kernel_rfl
def F_ground_explainsAll_1:TFn := ⟨8,2,[.tmp 3],
 (.seq (.reg [(oQ 2 (.box 0 (.t 0))),
 (oQ 3 (.mv (.c (.p (.bool false)))))])
 (.seq (.reg [(oQ 4 (.ldn 1 (.t 1))),
 (oQ 5 (.ldn 3 (.t 2))),
 (kQ 6 1 137 [(.t 4),(.t 5)]),
 (oQ 7 (.unot (.t 6))),
 (oQ 3 (.mv (.t 7)))])
 .ret))⟩
def A_ground_explainsAll_1:Nat→Ty := tyAt [.un,.un]
abbrev P_ground_explainsAll_1:List PSh := [.agg (.pr tQ pQ),.ptr (.sl pQ)]
abbrev R_ground_explainsAll_1:List PSh := [.one .bool]
theorem e_ground_explainsAll_1:cFn Try.prog 136 = some F_ground_explainsAll_1.erase := by kernel_rfl
theorem k_ground_explainsAll_1:callable Try.prog 136 = true := by kernel_rfl
def F_ground_explains:TFn := ⟨21,6,[.tmp 4],
 (.seq (.reg [(oQ 2 (.box 0 (.t 0))),
 (oQ 3 (.box 1 (.t 1))),
 (oQ 4 (.mv (.c (.p (.bool false)))))])
 (.seq (.reg [(oQ 6 (.fa 0 (.t 2))),
 (oQ 7 (.ld1 (.t 6))),
 (oQ 8 (.fa 0 (.t 3))),
 (oQ 9 (.ld1 (.t 8))),
 (kQ 10 2 79 [(.t 7),(.t 9)]),
 (oQ 5 (.newz 3 [zQ,zQ])),
 (uQ (.st 2 (.t 5) (.t 10)))])
 (.seq (.reg [(oQ 11 (.ldn 2 (.t 5))),
 (oQ 12 (.ldn 3 (.t 3))),
 (kQ 13 4 102 [(.t 11),(.t 12)]),
 (oQ 14 (.unot (.t 13))),
 (oQ 15 (.mv (.t 14))),
 (gQ 16 15 true (.ldn 2 (.t 5))),
 (gQ 17 15 true (.ldn 3 (.t 3))),
 ⟨some 18,some (some 15,true),(.call 5 103 [(.t 16),(.t 17)])⟩,
 (gQ 19 15 true (.unot (.t 18))),
 (oQ 20 (.pick (.t 15) (.t 19) (.c (.p (.bool false))))),
 (oQ 4 (.mv (.t 20)))])
 .ret)))⟩
def A_ground_explains:Nat→Ty := tyAt [.un,.un,.un,.un,.un,.un]
abbrev P_ground_explains:List PSh := [.agg (.sl pQ),.agg (.pr tQ pQ)]
abbrev R_ground_explains:List PSh := [.one .bool]
theorem e_ground_explains:cFn Try.prog 137 = some F_ground_explains.erase := by kernel_rfl
theorem k_ground_explains:callable Try.prog 137 = true := by kernel_rfl
end Go.Proofs.Ytehblgccaiiikaa
