/- The code of the functions that GroundClasses reaches, as it is walked: each equals what the given program's text gives. -/
import Derived.Test.YtehblgccaiiikaaGg1GroundClasses
import Derived.Test.YtehblgccaiiikaaProg
import Derived.KernelRfl
namespace Go.Proofs.Ytehblgccaiiikaa
open Go Go.Mx
set_option maxRecDepth 100000
abbrev oQ (d:Nat) (o:AOp):AIns := ⟨some d,none,.op o⟩
abbrev uQ (o:AOp):AIns := ⟨none,none,.op o⟩
abbrev gQ (d g:Nat) (b:Bool) (o:AOp):AIns := ⟨some d,some (some g,b),.op o⟩
abbrev kQ (d s f:Nat) (a:List Opd):AIns := ⟨some d,none,.call s f a⟩
abbrev iQ (n:Int):Opd := .c (.p (.int .i64 n))
abbrev zQ:V := .p (.int .i64 0)
abbrev tQ:Ty := .int .i64
abbrev pQ:Ty := .pr tQ tQ
def F_law04_GroundClasses:TFn := ⟨184,25,[.tmp 6],
 (.seq (.reg [(oQ 3 (.box 0 (.t 0))),
 (oQ 5 (.box 1 (.t 2))),
 (oQ 6 (.mv (.c (.p (.bool false)))))])
 (.seq (.seq (.reg [(kQ 20 2 12 []),
 (oQ 21 (.unot (.t 20)))])
 (.cond (.t 21) (.seq (.reg [(oQ 6 (.mv (.c (.p (.bool false)))))])
 .ret) .skip))
 (.seq (.seq (.reg [(oQ 22 (.ldn 1 (.t 3))),
 (kQ 23 3 27 [(.t 22)]),
 (oQ 24 (.unot (.t 23))),
 (oQ 25 (.mv (.t 24))),
 (gQ 26 25 false (.ldn 1 (.t 5))),
 ⟨some 27,some (some 25,false),(.call 4 13 [(.t 26)])⟩,
 (gQ 28 25 false (.unot (.t 27))),
 (oQ 29 (.pick (.t 25) (.c (.p (.bool true))) (.t 28)))])
 (.cond (.t 29) (.seq (.reg [(oQ 6 (.mv (.c (.p (.bool true)))))])
 .ret) .skip))
 (.seq (.reg [(oQ 31 (.ldn 1 (.t 3))),
 (kQ 32 5 29 [(.t 31)]),
 (kQ 33 6 28 [(.t 32)]),
 (oQ 30 (.mv (.t 33))),
 (oQ 34 (.ext 0 (.t 30))),
 (oQ 35 (.ext 1 (.t 30))),
 (oQ 7 (.mv (.t 34))),
 (oQ 8 (.mv (.t 35)))])
 (.seq (.reg [(oQ 37 (.ldn 1 (.t 3))),
 (kQ 38 7 29 [(.t 37)]),
 (kQ 39 8 30 [(.t 38)]),
 (oQ 36 (.mv (.t 39))),
 (oQ 40 (.ext 0 (.t 36))),
 (oQ 41 (.ext 1 (.t 36))),
 (oQ 9 (.mv (.t 40))),
 (oQ 10 (.mv (.t 41)))])
 (.seq (.reg [(oQ 43 (.ldn 1 (.t 3))),
 (kQ 44 9 29 [(.t 43)]),
 (oQ 45 (.mv (.t 1))),
 (kQ 46 10 31 [(.t 44),(.t 45)]),
 (oQ 42 (.mv (.t 46))),
 (oQ 47 (.ext 0 (.t 42))),
 (oQ 48 (.ext 1 (.t 42))),
 (oQ 11 (.newz 11 [(.p (.sl 0 [] true))])),
 (uQ (.st 1 (.t 11) (.t 47))),
 (oQ 12 (.mv (.t 48)))])
 (.seq (.regd [(oQ 50 (.ldn 1 (.t 3))),
 (kQ 51 12 29 [(.t 50)]),
 (oQ 52 (.ldn 1 (.t 5))),
 (kQ 53 13 15 [(.t 52)]),
 (kQ 54 14 32 [(.t 51),(.t 53)]),
 (oQ 49 (.mv (.t 54))),
 (oQ 55 (.ext 0 (.t 49))),
 (oQ 56 (.ext 1 (.t 49))),
 (oQ 13 (.mv (.t 55))),
 (oQ 14 (.mv (.t 56)))] [(0,2),(1,2)] [])
 (.seq (.reg [(oQ 58 (.ldn 1 (.t 3))),
 (kQ 59 15 33 [(.t 58)]),
 (oQ 57 (.mv (.t 59))),
 (oQ 60 (.ext 0 (.t 57))),
 (oQ 61 (.ext 1 (.t 57))),
 (oQ 15 (.mv (.t 60))),
 (oQ 16 (.mv (.t 61)))])
 (.seq (.seq (.reg [(oQ 62 (.mv (.t 8))),
 (oQ 63 (.mv (.t 16))),
 (oQ 64 (.bin .neq (.t 62) (.t 63))),
 (oQ 65 (.mv (.t 64))),
 (gQ 66 65 false (.mv (.t 7))),
 (gQ 67 65 false (.mv (.t 15))),
 (gQ 68 65 false (.bin .neq (.t 66) (.t 67))),
 (oQ 69 (.pick (.t 65) (.c (.p (.bool true))) (.t 68)))])
 (.cond (.t 69) (.seq (.reg [(oQ 6 (.mv (.c (.p (.bool false)))))])
 .ret) .skip))
 (.seq (.seq (.reg [(oQ 70 (.mv (.t 16))),
 (oQ 71 (.bin .neq (.t 70) (iQ 0)))])
 (.cond (.t 71) (.seq (.reg [(oQ 72 (.mv (.t 10))),
 (oQ 73 (.mv (.t 16))),
 (oQ 74 (.bin .eql (.t 72) (.t 73))),
 (oQ 75 (.mv (.t 74))),
 (gQ 76 75 true (.mv (.t 9))),
 (gQ 77 75 true (.bin .eql (.t 76) (iQ 0))),
 (oQ 78 (.pick (.t 75) (.t 77) (.c (.p (.bool false))))),
 (oQ 79 (.mv (.t 78))),
 (gQ 80 79 true (.mv (.t 12))),
 (gQ 81 79 true (.mv (.t 16))),
 (gQ 82 79 true (.bin .eql (.t 80) (.t 81))),
 (oQ 83 (.pick (.t 79) (.t 82) (.c (.p (.bool false))))),
 (oQ 84 (.mv (.t 83))),
 (gQ 85 84 true (.fa 0 (.t 11))),
 (gQ 86 84 true (.ld1 (.t 85))),
 (gQ 87 84 true (.len false (.t 86))),
 (gQ 88 84 true (.bin .eql (.t 87) (iQ 0))),
 (oQ 89 (.pick (.t 84) (.t 88) (.c (.p (.bool false))))),
 (oQ 90 (.mv (.t 89))),
 (gQ 91 90 true (.mv (.t 14))),
 (gQ 92 90 true (.mv (.t 16))),
 (gQ 93 90 true (.bin .eql (.t 91) (.t 92))),
 (oQ 94 (.pick (.t 90) (.t 93) (.c (.p (.bool false))))),
 (oQ 95 (.mv (.t 94))),
 (gQ 96 95 true (.mv (.t 13))),
 (gQ 97 95 true (.bin .eql (.t 96) (iQ 0))),
 (oQ 98 (.pick (.t 95) (.t 97) (.c (.p (.bool false))))),
 (oQ 6 (.mv (.t 98)))])
 .ret) .skip))
 (.seq (.seq (.reg [(oQ 99 (.mv (.t 10))),
 (oQ 100 (.bin .neq (.t 99) (iQ 0))),
 (oQ 101 (.mv (.t 100))),
 (gQ 102 101 false (.mv (.t 9))),
 (gQ 103 101 false (.ldn 1 (.t 3))),
 ⟨some 104,some (some 101,false),(.call 16 34 [(.t 103)])⟩,
 (gQ 105 101 false (.bin .neq (.t 102) (.t 104))),
 (oQ 106 (.pick (.t 101) (.c (.p (.bool true))) (.t 105)))])
 (.cond (.t 106) (.seq (.reg [(oQ 6 (.mv (.c (.p (.bool false)))))])
 .ret) .skip))
 (.seq (.seq (.reg [(oQ 107 (.mv (.t 1))),
 (oQ 108 (.mv (.t 9))),
 (oQ 109 (.bin .sub (.t 108) (iQ 1))),
 (kQ 110 17 35 [(.t 107),(iQ 0),(.t 109)]),
 (oQ 111 (.unot (.t 110)))])
 (.cond (.t 111) (.seq (.reg [(oQ 112 (.mv (.t 12))),
 (oQ 113 (.bin .neq (.t 112) (iQ 6))),
 (oQ 114 (.mv (.t 113))),
 (gQ 115 114 false (.fa 0 (.t 11))),
 (gQ 116 114 false (.ld1 (.t 115))),
 (gQ 117 114 false (.len false (.t 116))),
 (gQ 118 114 false (.bin .neq (.t 117) (iQ 0))),
 (oQ 119 (.pick (.t 114) (.c (.p (.bool true))) (.t 118)))])
 (.cond (.t 119) (.seq (.reg [(oQ 6 (.mv (.c (.p (.bool false)))))])
 .ret) .skip)) (.seq (.regd [(oQ 121 (.ldn 1 (.t 3))),
 (kQ 122 18 29 [(.t 121)]),
 (oQ 123 (.ldn 1 (.t 11))),
 (kQ 124 19 15 [(.t 123)]),
 (kQ 125 20 32 [(.t 122),(.t 124)]),
 (oQ 120 (.mv (.t 125))),
 (oQ 126 (.ext 0 (.t 120))),
 (oQ 127 (.ext 1 (.t 120))),
 (oQ 17 (.mv (.t 126))),
 (oQ 18 (.mv (.t 127)))] [(0,2),(1,2)] [])
 (.seq (.regd [(oQ 128 (.mv (.t 12))),
 (oQ 129 (.bin .neq (.t 128) (iQ 0))),
 (oQ 130 (.mv (.t 129))),
 (gQ 131 130 false (.ldn 1 (.t 11))),
 (gQ 132 130 false (.ldn 1 (.t 3))),
 (gQ 133 130 false (.mv (.t 1))),
 ⟨some 134,some (some 130,false),(.call 21 37 [(.t 132),(.t 133)])⟩,
 ⟨some 135,some (some 130,false),(.call 22 36 [(.t 131),(.t 134)])⟩,
 (gQ 136 130 false (.unot (.t 135))),
 (oQ 137 (.pick (.t 130) (.c (.p (.bool true))) (.t 136))),
 (oQ 138 (.mv (.t 137))),
 (gQ 139 138 false (.mv (.t 18))),
 (gQ 140 138 false (.bin .neq (.t 139) (iQ 0))),
 (oQ 141 (.pick (.t 138) (.c (.p (.bool true))) (.t 140))),
 (oQ 142 (.mv (.t 141))),
 (gQ 143 142 false (.mv (.t 17))),
 (gQ 144 142 false (.mv (.t 1))),
 (gQ 145 142 false (.bin .neq (.t 143) (.t 144))),
 (oQ 146 (.pick (.t 142) (.c (.p (.bool true))) (.t 145)))] [(3,4),(3,6)] [])
 (.cond (.t 146) (.seq (.reg [(oQ 6 (.mv (.c (.p (.bool false)))))])
 .ret) .skip)))))
 (.seq (.seq (.reg [(oQ 147 (.ldn 1 (.t 5))),
 (kQ 148 23 21 [(.t 147)]),
 (oQ 16 (.mv (.t 148)))])
 (.seq (.reg [(oQ 149 (.mv (.t 16))),
 (oQ 150 (.bin .neq (.t 149) (iQ 0)))])
 (.cond (.t 150) (.seq (.reg [(oQ 151 (.mv (.t 14))),
 (oQ 152 (.mv (.t 16))),
 (oQ 153 (.bin .eql (.t 151) (.t 152))),
 (oQ 154 (.mv (.t 153))),
 (gQ 155 154 true (.mv (.t 13))),
 (gQ 156 154 true (.bin .eql (.t 155) (iQ 0))),
 (oQ 157 (.pick (.t 154) (.t 156) (.c (.p (.bool false))))),
 (oQ 6 (.mv (.t 157)))])
 .ret) .skip)))
 (.seq (.reg [(oQ 158 (.ldn 1 (.t 3))),
 (oQ 159 (.ldn 1 (.t 5))),
 (kQ 160 24 38 [(.t 158),(.t 159)]),
 (oQ 19 (.mv (.t 160)))])
 (.seq (.reg [(oQ 161 (.mv (.t 19))),
 (oQ 162 (.bin .lss (.t 161) (iQ 0))),
 (oQ 163 (.mv (.t 162))),
 (gQ 164 163 true (.mv (.t 14))),
 (gQ 165 163 true (.bin .eql (.t 164) (iQ 6))),
 (oQ 166 (.pick (.t 163) (.t 165) (.c (.p (.bool false))))),
 (oQ 167 (.mv (.t 166))),
 (gQ 168 167 true (.mv (.t 13))),
 (gQ 169 167 true (.bin .eql (.t 168) (iQ 0))),
 (oQ 170 (.pick (.t 167) (.t 169) (.c (.p (.bool false))))),
 (oQ 171 (.mv (.t 170))),
 (gQ 172 171 false (.mv (.t 19))),
 (gQ 173 171 false (.bin .geq (.t 172) (iQ 0))),
 (gQ 174 171 false (.mv (.t 173))),
 (gQ 175 174 true (.mv (.t 14))),
 (gQ 176 174 true (.bin .eql (.t 175) (iQ 0))),
 (gQ 177 171 false (.pick (.t 174) (.t 176) (.c (.p (.bool false))))),
 (gQ 178 171 false (.mv (.t 177))),
 (gQ 179 178 true (.mv (.t 13))),
 (gQ 180 178 true (.mv (.t 19))),
 (gQ 181 178 true (.bin .eql (.t 179) (.t 180))),
 (gQ 182 171 false (.pick (.t 178) (.t 181) (.c (.p (.bool false))))),
 (oQ 183 (.pick (.t 171) (.c (.p (.bool true))) (.t 182))),
 (oQ 6 (.mv (.t 183)))])
 .ret)))))))))))))))⟩
def A_law04_GroundClasses:Nat→Ty := tyAt [.un,.un,.un,.un,.un,.un,.un,.un,.un,.un,.un,.un,.un,.un,.un,.un,.un,.un,.un,.un,.un,.un,.un,.un,.un]
abbrev P_law04_GroundClasses:List PSh := [.agg (.sl (.pr (.sl tQ) (.sl tQ))),.one tQ,.agg (.sl pQ)]
abbrev R_law04_GroundClasses:List PSh := [.one .bool]
theorem e_law04_GroundClasses:cFn Try.prog 5 = some F_law04_GroundClasses.erase := by kernel_rfl
theorem k_law04_GroundClasses:callable Try.prog 5 = true := by kernel_rfl
def F_law04_awake:TFn := ⟨65,15,[.tmp 0],
 (.seq (.reg [(oQ 0 (.mv (.c (.p (.bool false)))))])
 (.seq (.reg [(kQ 10 0 69 []),
 (kQ 11 1 16 [(.t 10),(iQ 2)]),
 (oQ 9 (.mv (.t 11))),
 (oQ 12 (.ext 0 (.t 9))),
 (oQ 13 (.ext 1 (.t 9))),
 (oQ 1 (.newz 2 [zQ,zQ])),
 (uQ (.st 2 (.t 1) (.t 12))),
 (oQ 2 (.mv (.t 13)))])
 (.seq (.reg [(kQ 15 3 70 []),
 (kQ 16 4 71 []),
 (kQ 17 5 48 [(.t 15),(.t 16)]),
 (oQ 14 (.mv (.t 17))),
 (oQ 18 (.ext 0 (.t 14))),
 (oQ 19 (.ext 1 (.t 14))),
 (oQ 3 (.mv (.t 18))),
 (oQ 4 (.mv (.t 19)))])
 (.seq (.reg [(kQ 21 6 70 []),
 (kQ 22 7 71 []),
 (kQ 23 8 72 [(.t 21),(.t 22),(iQ 2)]),
 (oQ 20 (.mv (.t 23))),
 (oQ 24 (.ext 0 (.t 20))),
 (oQ 25 (.ext 1 (.t 20))),
 (oQ 5 (.newz 9 [zQ,zQ])),
 (uQ (.st 2 (.t 5) (.t 24))),
 (oQ 6 (.mv (.t 25)))])
 (.seq (.reg [(kQ 27 10 70 []),
 (kQ 28 11 69 []),
 (kQ 29 12 32 [(.t 27),(.t 28)]),
 (oQ 26 (.mv (.t 29))),
 (oQ 30 (.ext 0 (.t 26))),
 (oQ 31 (.ext 1 (.t 26))),
 (oQ 7 (.mv (.t 30))),
 (oQ 8 (.mv (.t 31)))])
 (.seq (.reg [(oQ 32 (.mv (.t 2))),
 (oQ 33 (.bin .eql (.t 32) (iQ 0))),
 (oQ 34 (.mv (.t 33))),
 (gQ 35 34 true (.ldn 2 (.t 1))),
 (gQ 36 34 true (.build [zQ,zQ] [(0,1,(iQ 8)),(1,1,(iQ 3))])),
 (gQ 37 34 true (.eqa false 2 [(true,0),(true,1)] (.t 35) (.t 36))),
 (oQ 38 (.pick (.t 34) (.t 37) (.c (.p (.bool false))))),
 (oQ 39 (.mv (.t 38))),
 (gQ 40 39 true (.mv (.t 4))),
 (gQ 41 39 true (.bin .eql (.t 40) (iQ 0))),
 (oQ 42 (.pick (.t 39) (.t 41) (.c (.p (.bool false))))),
 (oQ 43 (.mv (.t 42))),
 (gQ 44 43 true (.mv (.t 3))),
 (gQ 45 43 true (.bsl false 13 1 3 [zQ,zQ,zQ] [(0,1,(iQ 1)),(1,1,(iQ 3)),(2,1,(iQ 4))])),
 ⟨some 46,some (some 43,true),(.call 14 58 [(.t 44),(.t 45)])⟩,
 (oQ 47 (.pick (.t 43) (.t 46) (.c (.p (.bool false))))),
 (oQ 48 (.mv (.t 47))),
 (gQ 49 48 true (.mv (.t 6))),
 (gQ 50 48 true (.bin .eql (.t 49) (iQ 0))),
 (oQ 51 (.pick (.t 48) (.t 50) (.c (.p (.bool false))))),
 (oQ 52 (.mv (.t 51))),
 (gQ 53 52 true (.ldn 2 (.t 5))),
 (gQ 54 52 true (.build [zQ,zQ] [(0,1,(iQ 1)),(1,1,(iQ 4))])),
 (gQ 55 52 true (.eqa false 2 [(true,0),(true,1)] (.t 53) (.t 54))),
 (oQ 56 (.pick (.t 52) (.t 55) (.c (.p (.bool false))))),
 (oQ 57 (.mv (.t 56))),
 (gQ 58 57 true (.mv (.t 8))),
 (gQ 59 57 true (.bin .eql (.t 58) (iQ 0))),
 (oQ 60 (.pick (.t 57) (.t 59) (.c (.p (.bool false))))),
 (oQ 61 (.mv (.t 60))),
 (gQ 62 61 true (.mv (.t 7))),
 (gQ 63 61 true (.bin .eql (.t 62) (iQ 4))),
 (oQ 64 (.pick (.t 61) (.t 63) (.c (.p (.bool false))))),
 (oQ 0 (.mv (.t 64)))])
 .ret))))))⟩
abbrev P_law04_awake:List PSh := []
abbrev R_law04_awake:List PSh := [.one .bool]
theorem e_law04_awake:cFn Try.prog 12 = some F_law04_awake.erase := by kernel_rfl
theorem k_law04_awake:callable Try.prog 12 = true := by kernel_rfl
def F_law04_few:TFn := ⟨7,1,[.tmp 2],
 (.seq (.reg [(oQ 1 (.box 0 (.t 0))),
 (oQ 2 (.mv (.c (.p (.bool false)))))])
 (.seq (.reg [(oQ 3 (.fa 0 (.t 1))),
 (oQ 4 (.ld1 (.t 3))),
 (oQ 5 (.len false (.t 4))),
 (oQ 6 (.bin .leq (.t 5) (iQ 6))),
 (oQ 2 (.mv (.t 6)))])
 .ret))⟩
def A_law04_few:Nat→Ty := tyAt [.un]
abbrev P_law04_few:List PSh := [.agg (.sl pQ)]
abbrev R_law04_few:List PSh := [.one .bool]
theorem e_law04_few:cFn Try.prog 13 = some F_law04_few.erase := by kernel_rfl
theorem k_law04_few:callable Try.prog 13 = true := by kernel_rfl
def F_ref04_CopyModel:TFn := ⟨8,4,[.celln 2 1],
 (.seq (.reg [(oQ 1 (.box 0 (.t 0))),
 (oQ 2 (.newz 1 [(.p (.sl 0 [] true))]))])
 (.seq (.reg [(oQ 3 (.bsl true 2 2 0 [] [])),
 (oQ 4 (.fa 0 (.t 1))),
 (oQ 5 (.ld1 (.t 4))),
 (oQ 6 (.app 3 2 16 (.t 3) (.t 5))),
 (oQ 7 (.build [(.p (.sl 0 [] true))] [(0,1,(.t 6))])),
 (uQ (.st 1 (.t 2) (.t 7)))])
 .ret))⟩
def A_ref04_CopyModel:Nat→Ty := tyAt [.un,.un,pQ,pQ]
abbrev P_ref04_CopyModel:List PSh := [.agg (.sl pQ)]
abbrev E_ref04_CopyModel:Ty := pQ
theorem e_ref04_CopyModel:cFn Try.prog 15 = some F_ref04_CopyModel.erase := by kernel_rfl
theorem k_ref04_CopyModel:callable Try.prog 15 = true := by kernel_rfl
def F_ground_CheckModel:TFn := ⟨62,12,[.tmp 2,.tmp 3],
 (.seq (.reg [(oQ 1 (.box 0 (.t 0))),
 (oQ 2 (.mv (iQ 0))),
 (oQ 3 (.mv (iQ 0)))])
 (.seq (.seq (.regd [(oQ 9 (.fa 0 (.t 1))),
 (oQ 10 (.ld1 (.t 9))),
 (oQ 11 (.len false (.t 10))),
 (oQ 12 (.bin .gtr (.t 11) (iQ 0))),
 (kQ 13 1 74 [(.t 12),(iQ 10)]),
 (oQ 14 (.fa 0 (.t 1))),
 (oQ 15 (.ld1 (.t 14))),
 (oQ 16 (.len false (.t 15))),
 (oQ 17 (.bin .leq (.t 16) (iQ 4))),
 (kQ 18 2 74 [(.t 17),(iQ 8)]),
 (oQ 19 (.bsl false 3 1 2 [zQ,zQ] [(0,1,(.t 13)),(1,1,(.t 18))])),
 (kQ 20 4 73 [(.t 19)]),
 (oQ 4 (.mv (.t 20)))] [(1,6),(4,6)] [])
 (.seq (.reg [(oQ 21 (.mv (.t 4))),
 (oQ 22 (.bin .neq (.t 21) (iQ 0)))])
 (.cond (.t 22) (.seq (.reg [(oQ 23 (.mv (.t 4))),
 (oQ 2 (.mv (iQ 0))),
 (oQ 3 (.mv (.t 23)))])
 .ret) .skip)))
 (.seq (.seq (.reg [(oQ 24 (.fa 0 (.t 1))),
 (oQ 25 (.ld1 (.t 24))),
 (oQ 26 (.len false (.t 25))),
 (oQ 27 (.mv (iQ 0)))])
 (.block 0 (.loop [.v 27 tQ] [5] [5] (.seq (.reg [(oQ 28 (.bin .lss (.t 27) (.t 26)))])
 (.seq (.cond (.t 28) .skip (.exit 0))
 (.seq (.block 1 (.seq (.reg [(oQ 29 (.mv (.t 27))),
 (oQ 30 (.ia 2 (.t 25) (.t 27))),
 (oQ 31 (.ldn 2 (.t 30))),
 (oQ 6 (.newz 5 [zQ,zQ])),
 (oQ 5 (.mv (.t 29))),
 (uQ (.st 2 (.t 6) (.t 31)))])
 (.seq (.reg [(oQ 32 (.mv (.t 5))),
 (oQ 33 (.fa 0 (.t 1))),
 (oQ 34 (.ld1 (.t 33))),
 (oQ 35 (.len false (.t 34))),
 (oQ 36 (.bin .sub (.t 35) (iQ 1))),
 (oQ 37 (.bin .eql (.t 32) (.t 36))),
 (oQ 7 (.mv (.t 37)))])
 (.seq (.reg [(oQ 38 (.fa 0 (.t 6))),
 (oQ 39 (.ld1 (.t 38))),
 (kQ 40 6 75 [(.t 39)]),
 (oQ 41 (.mv (.t 40))),
 (gQ 42 41 true (.fa 1 (.t 6))),
 (gQ 43 41 true (.ld1 (.t 42))),
 ⟨some 44,some (some 41,true),(.call 7 76 [(.t 43)])⟩,
 (oQ 45 (.pick (.t 41) (.t 44) (.c (.p (.bool false))))),
 (kQ 46 8 74 [(.t 45),(iQ 2)]),
 (oQ 47 (.mv (.t 7))),
 (oQ 48 (.unot (.t 47))),
 (oQ 49 (.mv (.t 48))),
 (gQ 50 49 false (.fa 1 (.t 6))),
 (gQ 51 49 false (.ld1 (.t 50))),
 (gQ 52 49 false (.bin .eql (.t 51) (iQ 0))),
 (oQ 53 (.pick (.t 49) (.c (.p (.bool true))) (.t 52))),
 (kQ 54 9 74 [(.t 53),(iQ 3)]),
 (oQ 55 (.bsl false 10 1 2 [zQ,zQ] [(0,1,(.t 46)),(1,1,(.t 54))])),
 (kQ 56 11 73 [(.t 55)]),
 (oQ 8 (.mv (.t 56)))])
 (.seq (.reg [(oQ 57 (.mv (.t 8))),
 (oQ 58 (.bin .neq (.t 57) (iQ 0)))])
 (.cond (.t 58) (.seq (.reg [(oQ 59 (.mv (.t 5))),
 (oQ 60 (.mv (.t 8))),
 (oQ 2 (.mv (.t 59))),
 (oQ 3 (.mv (.t 60)))])
 .ret) .skip))))))
 (.reg [(oQ 61 (.bin .add (.t 27) (iQ 1))),
 (oQ 27 (.mv (.t 61)))])))))))
 (.seq (.reg [(oQ 2 (.mv (iQ 0))),
 (oQ 3 (.mv (iQ 0)))])
 .ret))))⟩
def A_ground_CheckModel:Nat→Ty := tyAt [.un,.un,.un,tQ,.un,.un,.un,.un,.un,.un,tQ,.un]
abbrev P_ground_CheckModel:List PSh := [.agg (.sl pQ)]
abbrev R_ground_CheckModel:List PSh := [.one tQ,.one tQ]
theorem e_ground_CheckModel:cFn Try.prog 14 = some F_ground_CheckModel.erase := by kernel_rfl
theorem k_ground_CheckModel:callable Try.prog 14 = true := by kernel_rfl
def F_ground_ResponseAt:TFn := ⟨24,8,[.celln 4 2,.tmp 5],
 (.seq (.reg [(oQ 2 (.box 0 (.t 0))),
 (oQ 4 (.newz 1 [zQ,zQ])),
 (oQ 5 (.mv (iQ 0)))])
 (.seq (.seq (.reg [(oQ 7 (.ldn 1 (.t 2))),
 (kQ 8 2 77 [(.t 7)]),
 (oQ 9 (.mv (.t 1))),
 (kQ 10 3 78 [(.t 9)]),
 (oQ 11 (.bsl false 4 1 2 [zQ,zQ] [(0,1,(.t 8)),(1,1,(.t 10))])),
 (kQ 12 5 73 [(.t 11)]),
 (oQ 6 (.mv (.t 12)))])
 (.seq (.reg [(oQ 13 (.mv (.t 6))),
 (oQ 14 (.bin .neq (.t 13) (iQ 0)))])
 (.cond (.t 14) (.seq (.reg [(oQ 15 (.build [zQ,zQ] [])),
 (oQ 16 (.mv (.t 6))),
 (uQ (.st 2 (.t 4) (.t 15))),
 (oQ 5 (.mv (.t 16)))])
 .ret) .skip)))
 (.seq (.reg [(oQ 17 (.fa 0 (.t 2))),
 (oQ 18 (.ld1 (.t 17))),
 (oQ 19 (.mv (.t 1))),
 (kQ 20 6 79 [(.t 18),(.t 19)]),
 (kQ 21 7 80 [(.t 20)]),
 (oQ 22 (.ext 0 (.t 21))),
 (oQ 23 (.ext 1 (.t 21))),
 (uQ (.st 2 (.t 4) (.t 22))),
 (oQ 5 (.mv (.t 23)))])
 .ret)))⟩
theorem e_ground_ResponseAt:cFn Try.prog 16 = some F_ground_ResponseAt.erase := by kernel_rfl
def F_ref04_CheckModel:TFn := ⟨55,3,[.tmp 2,.tmp 3],
 (.seq (.reg [(oQ 1 (.box 0 (.t 0))),
 (oQ 2 (.mv (iQ 0))),
 (oQ 3 (.mv (iQ 0)))])
 (.seq (.seq (.reg [(oQ 5 (.fa 0 (.t 1))),
 (oQ 6 (.ld1 (.t 5))),
 (oQ 7 (.len false (.t 6))),
 (oQ 8 (.bin .eql (.t 7) (iQ 0)))])
 (.cond (.t 8) (.seq (.reg [(oQ 2 (.mv (iQ 0))),
 (oQ 3 (.mv (iQ 10)))])
 .ret) .skip))
 (.seq (.seq (.reg [(oQ 9 (.fa 0 (.t 1))),
 (oQ 10 (.ld1 (.t 9))),
 (oQ 11 (.len false (.t 10))),
 (oQ 12 (.bin .gtr (.t 11) (iQ 4)))])
 (.cond (.t 12) (.seq (.reg [(oQ 2 (.mv (iQ 0))),
 (oQ 3 (.mv (iQ 8)))])
 .ret) .skip))
 (.seq (.seq (.reg [(oQ 4 (.mv (iQ 0)))])
 (.block 0 (.loop [.v 4 tQ] [] [] (.seq (.seq (.reg [(oQ 13 (.mv (.t 4))),
 (oQ 14 (.fa 0 (.t 1))),
 (oQ 15 (.ld1 (.t 14))),
 (oQ 16 (.len false (.t 15))),
 (oQ 17 (.bin .lss (.t 13) (.t 16)))])
 (.cond (.t 17) .skip (.exit 0)))
 (.seq (.block 1 (.seq (.seq (.reg [(oQ 20 (.fa 0 (.t 1))),
 (oQ 21 (.ld1 (.t 20))),
 (oQ 22 (.mv (.t 4))),
 (oQ 23 (.ia 2 (.t 21) (.t 22))),
 (oQ 24 (.fa 0 (.t 23))),
 (oQ 25 (.ld1 (.t 24))),
 (kQ 26 1 81 [(.t 25)]),
 (oQ 27 (.unot (.t 26))),
 (oQ 28 (.mv (.t 27))),
 (gQ 29 28 false (.fa 0 (.t 1))),
 (gQ 30 28 false (.ld1 (.t 29))),
 (gQ 31 28 false (.mv (.t 4))),
 (gQ 32 28 false (.ia 2 (.t 30) (.t 31))),
 (gQ 33 28 false (.fa 1 (.t 32))),
 (gQ 34 28 false (.ld1 (.t 33))),
 ⟨some 35,some (some 28,false),(.call 2 82 [(.t 34)])⟩,
 (gQ 36 28 false (.unot (.t 35))),
 (oQ 37 (.pick (.t 28) (.c (.p (.bool true))) (.t 36)))])
 (.cond (.t 37) (.seq (.reg [(oQ 38 (.mv (.t 4))),
 (oQ 2 (.mv (.t 38))),
 (oQ 3 (.mv (iQ 2)))])
 .ret) .skip))
 (.seq (.reg [(oQ 39 (.mv (.t 4))),
 (oQ 40 (.fa 0 (.t 1))),
 (oQ 41 (.ld1 (.t 40))),
 (oQ 42 (.len false (.t 41))),
 (oQ 43 (.bin .sub (.t 42) (iQ 1))),
 (oQ 44 (.bin .eql (.t 39) (.t 43))),
 (oQ 45 (.mv (.t 44))),
 (gQ 46 45 true (.fa 0 (.t 1))),
 (gQ 47 45 true (.ld1 (.t 46))),
 (gQ 48 45 true (.mv (.t 4))),
 (gQ 49 45 true (.ia 2 (.t 47) (.t 48))),
 (gQ 50 45 true (.fa 1 (.t 49))),
 (gQ 51 45 true (.ld1 (.t 50))),
 (gQ 52 45 true (.bin .neq (.t 51) (iQ 0))),
 (oQ 53 (.pick (.t 45) (.t 52) (.c (.p (.bool false)))))])
 (.cond (.t 53) (.seq (.reg [(oQ 54 (.mv (.t 4))),
 (oQ 2 (.mv (.t 54))),
 (oQ 3 (.mv (iQ 3)))])
 .ret) .skip))))
 (.reg [(oQ 18 (.mv (.t 4))),
 (oQ 19 (.bin .add (.t 18) (iQ 1))),
 (oQ 4 (.mv (.t 19)))]))))))
 (.seq (.reg [(oQ 2 (.mv (iQ 0))),
 (oQ 3 (.mv (iQ 0)))])
 .ret)))))⟩
def A_ref04_CheckModel:Nat→Ty := tyAt [.un,.un,.un]
abbrev P_ref04_CheckModel:List PSh := [.agg (.sl pQ)]
abbrev R_ref04_CheckModel:List PSh := [.one tQ,.one tQ]
theorem e_ref04_CheckModel:cFn Try.prog 17 = some F_ref04_CheckModel.erase := by kernel_rfl
theorem k_ref04_CheckModel:callable Try.prog 17 = true := by kernel_rfl
def F_ref04_ModelErr:TFn := ⟨11,2,[.tmp 2],
 (.seq (.reg [(oQ 1 (.box 0 (.t 0))),
 (oQ 2 (.mv (iQ 0)))])
 (.seq (.reg [(oQ 6 (.ldn 1 (.t 1))),
 (kQ 7 1 17 [(.t 6)]),
 (oQ 5 (.mv (.t 7))),
 (oQ 8 (.ext 0 (.t 5))),
 (oQ 9 (.ext 1 (.t 5))),
 (oQ 3 (.mv (.t 8))),
 (oQ 4 (.mv (.t 9)))])
 (.seq (.reg [(oQ 10 (.mv (.t 4))),
 (oQ 2 (.mv (.t 10)))])
 .ret)))⟩
def A_ref04_ModelErr:Nat→Ty := tyAt [.un,.un]
abbrev P_ref04_ModelErr:List PSh := [.agg (.sl pQ)]
abbrev R_ref04_ModelErr:List PSh := [.one tQ]
theorem e_ref04_ModelErr:cFn Try.prog 21 = some F_ref04_ModelErr.erase := by kernel_rfl
theorem k_ref04_ModelErr:callable Try.prog 21 = true := by kernel_rfl
def F_law04_Few:TFn := ⟨33,1,[.tmp 2],
 (.seq (.reg [(oQ 1 (.box 0 (.t 0))),
 (oQ 2 (.mv (.c (.p (.bool false)))))])
 (.seq (.seq (.reg [(oQ 4 (.fa 0 (.t 1))),
 (oQ 5 (.ld1 (.t 4))),
 (oQ 6 (.len false (.t 5))),
 (oQ 7 (.bin .gtr (.t 6) (iQ 6)))])
 (.cond (.t 7) (.seq (.reg [(oQ 2 (.mv (.c (.p (.bool false)))))])
 .ret) .skip))
 (.seq (.seq (.reg [(oQ 3 (.mv (iQ 0)))])
 (.block 0 (.loop [.v 3 tQ] [] [] (.seq (.seq (.reg [(oQ 8 (.mv (.t 3))),
 (oQ 9 (.fa 0 (.t 1))),
 (oQ 10 (.ld1 (.t 9))),
 (oQ 11 (.len false (.t 10))),
 (oQ 12 (.bin .lss (.t 8) (.t 11)))])
 (.cond (.t 12) .skip (.exit 0)))
 (.seq (.block 1 (.seq (.reg [(oQ 15 (.fa 0 (.t 1))),
 (oQ 16 (.ld1 (.t 15))),
 (oQ 17 (.mv (.t 3))),
 (oQ 18 (.ia 2 (.t 16) (.t 17))),
 (oQ 19 (.fa 0 (.t 18))),
 (oQ 20 (.ld1 (.t 19))),
 (oQ 21 (.len false (.t 20))),
 (oQ 22 (.bin .gtr (.t 21) (iQ 22))),
 (oQ 23 (.mv (.t 22))),
 (gQ 24 23 false (.fa 0 (.t 1))),
 (gQ 25 23 false (.ld1 (.t 24))),
 (gQ 26 23 false (.mv (.t 3))),
 (gQ 27 23 false (.ia 2 (.t 25) (.t 26))),
 (gQ 28 23 false (.fa 1 (.t 27))),
 (gQ 29 23 false (.ld1 (.t 28))),
 (gQ 30 23 false (.len false (.t 29))),
 (gQ 31 23 false (.bin .gtr (.t 30) (iQ 22))),
 (oQ 32 (.pick (.t 23) (.c (.p (.bool true))) (.t 31)))])
 (.cond (.t 32) (.seq (.reg [(oQ 2 (.mv (.c (.p (.bool false)))))])
 .ret) .skip)))
 (.reg [(oQ 13 (.mv (.t 3))),
 (oQ 14 (.bin .add (.t 13) (iQ 1))),
 (oQ 3 (.mv (.t 14)))]))))))
 (.seq (.reg [(oQ 2 (.mv (.c (.p (.bool true)))))])
 .ret))))⟩
def A_law04_Few:Nat→Ty := tyAt [.un]
abbrev P_law04_Few:List PSh := [.agg (.sl (.pr (.sl tQ) (.sl tQ)))]
abbrev R_law04_Few:List PSh := [.one .bool]
theorem e_law04_Few:cFn Try.prog 27 = some F_law04_Few.erase := by kernel_rfl
theorem k_law04_Few:callable Try.prog 27 = true := by kernel_rfl
def F_ref04_CopyClass:TFn := ⟨31,8,[.celln 2 1],
 (.seq (.reg [(oQ 1 (.box 0 (.t 0))),
 (oQ 2 (.newz 1 [(.p (.sl 0 [] true))]))])
 (.seq (.reg [(oQ 3 (.newz 2 [(.p (.sl 0 [] true))]))])
 (.seq (.seq (.reg [(oQ 4 (.mv (iQ 0)))])
 (.block 0 (.loop [.v 4 tQ,.q 2 7 (.pr (.sl tQ) (.sl tQ))] [2,3,7] [3,7] (.seq (.seq (.reg [(oQ 6 (.mv (.t 4))),
 (oQ 7 (.fa 0 (.t 1))),
 (oQ 8 (.ld1 (.t 7))),
 (oQ 9 (.len false (.t 8))),
 (oQ 10 (.bin .lss (.t 6) (.t 9)))])
 (.cond (.t 10) .skip (.exit 0)))
 (.seq (.block 1 (.seq (.reg [(oQ 13 (.fa 0 (.t 1))),
 (oQ 14 (.ld1 (.t 13))),
 (oQ 15 (.mv (.t 4))),
 (oQ 16 (.ia 2 (.t 14) (.t 15))),
 (oQ 17 (.ldn 2 (.t 16))),
 (oQ 5 (.newz 3 [(.p (.sl 0 [] true)),(.p (.sl 0 [] true))])),
 (uQ (.st 2 (.t 5) (.t 17)))])
 (.regd [(oQ 18 (.fa 0 (.t 3))),
 (oQ 19 (.ld1 (.t 18))),
 (oQ 20 (.fa 0 (.t 5))),
 (oQ 21 (.ld1 (.t 20))),
 (kQ 22 4 66 [(.t 21)]),
 (oQ 23 (.fa 1 (.t 5))),
 (oQ 24 (.ld1 (.t 23))),
 (kQ 25 5 66 [(.t 24)]),
 (oQ 26 (.build [(.p (.sl 0 [] true)),(.p (.sl 0 [] true))] [(0,1,(.t 22)),(1,1,(.t 25))])),
 (oQ 27 (.bsl false 6 2 1 [(.p (.sl 0 [] true)),(.p (.sl 0 [] true))] [(0,2,(.t 26))])),
 (oQ 28 (.app 7 2 48 (.t 19) (.t 27))),
 (oQ 29 (.fa 0 (.t 3))),
 (uQ (.st 1 (.t 29) (.t 28)))] [(1,3),(1,4),(1,6),(3,6),(4,6),(1,7)] [])))
 (.reg [(oQ 11 (.mv (.t 4))),
 (oQ 12 (.bin .add (.t 11) (iQ 1))),
 (oQ 4 (.mv (.t 12)))]))))))
 (.seq (.reg [(oQ 30 (.ldn 1 (.t 3))),
 (uQ (.st 1 (.t 2) (.t 30)))])
 .ret))))⟩
def A_ref04_CopyClass:Nat→Ty := tyAt [.un,.un,.un,.un,.un,.un,(.pr (.sl tQ) (.sl tQ)),(.pr (.sl tQ) (.sl tQ))]
abbrev P_ref04_CopyClass:List PSh := [.agg (.sl (.pr (.sl tQ) (.sl tQ)))]
abbrev R_ref04_CopyClass:List PSh := [.agg (.sl (.pr (.sl tQ) (.sl tQ)))]
theorem e_ref04_CopyClass:cFn Try.prog 29 = some F_ref04_CopyClass.erase := by kernel_rfl
theorem k_ref04_CopyClass:callable Try.prog 29 = true := by kernel_rfl
def F_ground_CheckClass:TFn := ⟨84,15,[.tmp 2,.tmp 3],
 (.seq (.reg [(oQ 1 (.box 0 (.t 0))),
 (oQ 2 (.mv (iQ 0))),
 (oQ 3 (.mv (iQ 0)))])
 (.seq (.seq (.regd [(oQ 10 (.fa 0 (.t 1))),
 (oQ 11 (.ld1 (.t 10))),
 (oQ 12 (.len false (.t 11))),
 (oQ 13 (.bin .gtr (.t 12) (iQ 0))),
 (kQ 14 1 74 [(.t 13),(iQ 10)]),
 (oQ 15 (.fa 0 (.t 1))),
 (oQ 16 (.ld1 (.t 15))),
 (oQ 17 (.len false (.t 16))),
 (oQ 18 (.bin .leq (.t 17) (iQ 4))),
 (kQ 19 2 74 [(.t 18),(iQ 8)]),
 (oQ 20 (.bsl false 3 1 2 [zQ,zQ] [(0,1,(.t 14)),(1,1,(.t 19))])),
 (kQ 21 4 73 [(.t 20)]),
 (oQ 4 (.mv (.t 21)))] [(1,6),(4,6)] [])
 (.seq (.reg [(oQ 22 (.mv (.t 4))),
 (oQ 23 (.bin .neq (.t 22) (iQ 0)))])
 (.cond (.t 23) (.seq (.reg [(oQ 24 (.mv (.t 4))),
 (oQ 2 (.mv (iQ 0))),
 (oQ 3 (.mv (.t 24)))])
 .ret) .skip)))
 (.seq (.reg [(oQ 5 (.mv (iQ 1)))])
 (.seq (.seq (.reg [(oQ 25 (.fa 0 (.t 1))),
 (oQ 26 (.ld1 (.t 25))),
 (oQ 27 (.len false (.t 26))),
 (oQ 28 (.mv (iQ 0)))])
 (.block 0 (.loop [.v 28 tQ,.v 5 tQ] [5] [5] (.seq (.reg [(oQ 29 (.bin .lss (.t 28) (.t 27)))])
 (.seq (.cond (.t 29) .skip (.exit 0))
 (.seq (.block 1 (.seq (.reg [(oQ 30 (.mv (.t 28))),
 (oQ 31 (.ia 2 (.t 26) (.t 28))),
 (oQ 32 (.ldn 2 (.t 31))),
 (oQ 7 (.newz 5 [(.p (.sl 0 [] true)),(.p (.sl 0 [] true))])),
 (oQ 6 (.mv (.t 30))),
 (uQ (.st 2 (.t 7) (.t 32)))])
 (.seq (.reg [(oQ 33 (.mv (.t 6))),
 (oQ 34 (.fa 0 (.t 1))),
 (oQ 35 (.ld1 (.t 34))),
 (oQ 36 (.len false (.t 35))),
 (oQ 37 (.bin .sub (.t 36) (iQ 1))),
 (oQ 38 (.bin .eql (.t 33) (.t 37))),
 (oQ 8 (.mv (.t 38)))])
 (.seq (.regd [(oQ 39 (.fa 0 (.t 7))),
 (oQ 40 (.ld1 (.t 39))),
 (oQ 41 (.len false (.t 40))),
 (oQ 42 (.bin .gtr (.t 41) (iQ 0))),
 (oQ 43 (.mv (.t 42))),
 (gQ 44 43 true (.fa 1 (.t 7))),
 (gQ 45 43 true (.ld1 (.t 44))),
 (gQ 46 43 true (.len false (.t 45))),
 (gQ 47 43 true (.bin .gtr (.t 46) (iQ 0))),
 (oQ 48 (.pick (.t 43) (.t 47) (.c (.p (.bool false))))),
 (kQ 49 6 74 [(.t 48),(iQ 10)]),
 (oQ 50 (.fa 0 (.t 7))),
 (oQ 51 (.ld1 (.t 50))),
 (kQ 52 7 91 [(.t 51),(.c (.clo 75 []))]),
 (oQ 53 (.fa 1 (.t 7))),
 (oQ 54 (.ld1 (.t 53))),
 (kQ 55 8 91 [(.t 54),(.c (.clo 76 []))]),
 (oQ 56 (.mv (.t 8))),
 (oQ 57 (.unot (.t 56))),
 (oQ 58 (.mv (.t 57))),
 (gQ 59 58 false (.fa 1 (.t 7))),
 (gQ 60 58 false (.ld1 (.t 59))),
 (gQ 61 58 false (.bsl false 9 1 1 [zQ] [(0,1,(iQ 0))])),
 ⟨some 62,some (some 58,false),(.call 10 92 [(.t 60),(.t 61)])⟩,
 (oQ 63 (.pick (.t 58) (.c (.p (.bool true))) (.t 62))),
 (kQ 64 11 74 [(.t 63),(iQ 3)]),
 (oQ 65 (.bsl false 12 1 4 [zQ,zQ,zQ,zQ] [(0,1,(.t 49)),(1,1,(.t 52)),(2,1,(.t 55)),(3,1,(.t 64))])),
 (kQ 66 13 73 [(.t 65)]),
 (oQ 9 (.mv (.t 66)))] [(1,12),(6,12),(10,12),(1,15),(6,15),(10,15),(12,15),(13,15)] [])
 (.seq (.seq (.reg [(oQ 67 (.mv (.t 9))),
 (oQ 68 (.bin .neq (.t 67) (iQ 0)))])
 (.cond (.t 68) (.seq (.reg [(oQ 69 (.mv (.t 6))),
 (oQ 70 (.mv (.t 9))),
 (oQ 2 (.mv (.t 69))),
 (oQ 3 (.mv (.t 70)))])
 .ret) .skip))
 (.reg [(oQ 71 (.mv (.t 5))),
 (oQ 72 (.fa 0 (.t 7))),
 (oQ 73 (.ld1 (.t 72))),
 (oQ 74 (.len false (.t 73))),
 (oQ 75 (.fa 1 (.t 7))),
 (oQ 76 (.ld1 (.t 75))),
 (oQ 77 (.len false (.t 76))),
 (oQ 78 (.bin .mul (.t 74) (.t 77))),
 (oQ 79 (.bin .mul (.t 71) (.t 78))),
 (oQ 5 (.mv (.t 79)))]))))))
 (.reg [(oQ 80 (.bin .add (.t 28) (iQ 1))),
 (oQ 28 (.mv (.t 80)))])))))))
 (.seq (.reg [(oQ 81 (.mv (.t 5))),
 (oQ 82 (.bin .leq (.t 81) (iQ 300))),
 (kQ 83 14 74 [(.t 82),(iQ 16)]),
 (oQ 2 (.mv (iQ 0))),
 (oQ 3 (.mv (.t 83)))])
 .ret)))))⟩
def A_ground_CheckClass:Nat→Ty := tyAt [.un,.un,.un,tQ,.un,.un,.un,.un,.un,tQ,.un,.un,tQ,.un,.un]
abbrev P_ground_CheckClass:List PSh := [.agg (.sl (.pr (.sl tQ) (.sl tQ)))]
abbrev R_ground_CheckClass:List PSh := [.one tQ,.one tQ]
theorem e_ground_CheckClass:cFn Try.prog 28 = some F_ground_CheckClass.erase := by kernel_rfl
theorem k_ground_CheckClass:callable Try.prog 28 = true := by kernel_rfl
def F_ground_CountOf:TFn := ⟨16,4,[.tmp 2,.tmp 3],
 (.seq (.reg [(oQ 1 (.box 0 (.t 0))),
 (oQ 2 (.mv (iQ 0))),
 (oQ 3 (.mv (iQ 0)))])
 (.seq (.reg [(oQ 7 (.ldn 1 (.t 1))),
 (kQ 8 1 93 [(.t 7)]),
 (oQ 6 (.mv (.t 8))),
 (oQ 9 (.ext 0 (.t 6))),
 (oQ 10 (.ext 1 (.t 6))),
 (oQ 4 (.newz 2 [(.p (.sl 0 [] true))])),
 (uQ (.st 1 (.t 4) (.t 9))),
 (oQ 5 (.mv (.t 10)))])
 (.seq (.seq (.reg [(oQ 11 (.mv (.t 5))),
 (oQ 12 (.bin .neq (.t 11) (iQ 0)))])
 (.cond (.t 12) (.seq (.reg [(oQ 13 (.mv (.t 5))),
 (oQ 2 (.mv (iQ 0))),
 (oQ 3 (.mv (.t 13)))])
 .ret) .skip))
 (.seq (.reg [(oQ 14 (.ldn 1 (.t 4))),
 (kQ 15 3 94 [(.t 14)]),
 (oQ 2 (.mv (.t 15))),
 (oQ 3 (.mv (iQ 0)))])
 .ret))))⟩
def A_ground_CountOf:Nat→Ty := tyAt [.un,.un,.un,.un]
abbrev P_ground_CountOf:List PSh := [.agg (.sl (.pr (.sl tQ) (.sl tQ)))]
abbrev R_ground_CountOf:List PSh := [.one tQ,.one tQ]
theorem e_ground_CountOf:cFn Try.prog 30 = some F_ground_CountOf.erase := by kernel_rfl
theorem k_ground_CountOf:callable Try.prog 30 = true := by kernel_rfl
def F_ground_ModelOf:TFn := ⟨28,8,[.celln 4 1,.tmp 5],
 (.seq (.reg [(oQ 2 (.box 0 (.t 0))),
 (oQ 4 (.newz 1 [(.p (.sl 0 [] true))])),
 (oQ 5 (.mv (iQ 0)))])
 (.seq (.reg [(oQ 9 (.ldn 1 (.t 2))),
 (kQ 10 2 93 [(.t 9)]),
 (oQ 8 (.mv (.t 10))),
 (oQ 11 (.ext 0 (.t 8))),
 (oQ 12 (.ext 1 (.t 8))),
 (oQ 6 (.newz 3 [(.p (.sl 0 [] true))])),
 (uQ (.st 1 (.t 6) (.t 11))),
 (oQ 7 (.mv (.t 12)))])
 (.seq (.seq (.reg [(oQ 13 (.mv (.t 7))),
 (oQ 14 (.bin .eql (.t 13) (iQ 0)))])
 (.cond (.t 14) (.reg [(oQ 15 (.mv (.t 1))),
 (oQ 16 (.ldn 1 (.t 6))),
 (kQ 17 4 94 [(.t 16)]),
 (oQ 18 (.bin .sub (.t 17) (iQ 1))),
 (kQ 19 5 95 [(.t 15),(iQ 0),(.t 18)]),
 (kQ 20 6 74 [(.t 19),(iQ 6)]),
 (oQ 7 (.mv (.t 20)))]) .skip))
 (.seq (.seq (.reg [(oQ 21 (.mv (.t 7))),
 (oQ 22 (.bin .neq (.t 21) (iQ 0)))])
 (.cond (.t 22) (.seq (.reg [(oQ 23 (.build [(.p (.sl 0 [] true))] [])),
 (oQ 24 (.mv (.t 7))),
 (uQ (.st 1 (.t 4) (.t 23))),
 (oQ 5 (.mv (.t 24)))])
 .ret) .skip))
 (.seq (.reg [(oQ 25 (.ldn 1 (.t 6))),
 (oQ 26 (.mv (.t 1))),
 (kQ 27 7 96 [(.t 25),(.t 26)]),
 (uQ (.st 1 (.t 4) (.t 27))),
 (oQ 5 (.mv (iQ 0)))])
 .ret)))))⟩
def A_ground_ModelOf:Nat→Ty := tyAt [.un,.un,.un,.un,.un,.un,.un,.un]
abbrev P_ground_ModelOf:List PSh := [.agg (.sl (.pr (.sl tQ) (.sl tQ))),.one tQ]
abbrev R_ground_ModelOf:List PSh := [.agg (.sl pQ),.one tQ]
theorem e_ground_ModelOf:cFn Try.prog 31 = some F_ground_ModelOf.erase := by kernel_rfl
theorem k_ground_ModelOf:callable Try.prog 31 = true := by kernel_rfl
def F_ground_NumberOf:TFn := ⟨33,11,[.cell1 4,.cell1 5],
 (.seq (.reg [(oQ 2 (.box 0 (.t 0))),
 (oQ 3 (.box 1 (.t 1))),
 (oQ 4 (.newz 2 [zQ])),
 (oQ 5 (.newz 3 [zQ]))])
 (.seq (.reg [(oQ 11 (.ldn 1 (.t 2))),
 (kQ 12 4 93 [(.t 11)]),
 (oQ 10 (.mv (.t 12))),
 (oQ 13 (.ext 0 (.t 10))),
 (oQ 14 (.ext 1 (.t 10))),
 (oQ 6 (.newz 5 [(.p (.sl 0 [] true))])),
 (uQ (.st 1 (.t 6) (.t 13))),
 (oQ 7 (.mv (.t 14)))])
 (.seq (.seq (.reg [(oQ 15 (.mv (.t 7))),
 (oQ 16 (.ldn 1 (.t 3))),
 (kQ 17 6 77 [(.t 16)]),
 (oQ 18 (.bsl false 7 1 2 [zQ,zQ] [(0,1,(.t 15)),(1,1,(.t 17))])),
 (kQ 19 8 73 [(.t 18)]),
 (oQ 7 (.mv (.t 19)))])
 (.seq (.reg [(oQ 20 (.mv (.t 7))),
 (oQ 21 (.bin .neq (.t 20) (iQ 0)))])
 (.cond (.t 21) (.seq (.reg [(oQ 22 (.mv (.t 7))),
 (uQ (.st 1 (.t 4) (iQ 0))),
 (uQ (.st 1 (.t 5) (.t 22)))])
 .ret) .skip)))
 (.seq (.seq (.reg [(oQ 23 (.ldn 1 (.t 6))),
 (oQ 24 (.bnd 1000000097 (.t 23)))])
 (.block 0 (.rng (.t 24) [25,26] [25,26,8,9,27,28,29,30,31,32] [] [9] [9] (.seq (.reg [(oQ 8 (.mv (.t 25)))])
 (.reg [(oQ 9 (.newz 9 [(.p (.sl 0 [] true))])),
 (uQ (.st 1 (.t 9) (.t 26)))]))
 (.block 1 (.seq (.reg [(oQ 27 (.fa 0 (.t 9))),
 (oQ 28 (.ld1 (.t 27))),
 (oQ 29 (.fa 0 (.t 3))),
 (oQ 30 (.ld1 (.t 29))),
 (kQ 31 10 98 [(.t 28),(.t 30)])])
 (.cond (.t 31) (.seq (.reg [(oQ 32 (.mv (.t 8))),
 (uQ (.st 1 (.t 4) (.t 32))),
 (uQ (.st 1 (.t 5) (iQ 0)))])
 .ret) .skip))))))
 (.seq (.reg [(uQ (.st 1 (.t 4) (iQ 0))),
 (uQ (.st 1 (.t 5) (iQ 6)))])
 .ret)))))⟩
def A_ground_NumberOf:Nat→Ty := tyAt [.un,.un,.un,.un,.un,.un,.un,tQ,.un,.un,.un]
abbrev P_ground_NumberOf:List PSh := [.agg (.sl (.pr (.sl tQ) (.sl tQ))),.agg (.sl pQ)]
abbrev R_ground_NumberOf:List PSh := [.one tQ,.one tQ]
theorem e_ground_NumberOf:cFn Try.prog 32 = some F_ground_NumberOf.erase := by kernel_rfl
theorem k_ground_NumberOf:callable Try.prog 32 = true := by kernel_rfl
def F_ref04_CheckClass:TFn := ⟨79,6,[.tmp 2,.tmp 3],
 (.seq (.reg [(oQ 1 (.box 0 (.t 0))),
 (oQ 2 (.mv (iQ 0))),
 (oQ 3 (.mv (iQ 0)))])
 (.seq (.seq (.reg [(oQ 9 (.fa 0 (.t 1))),
 (oQ 10 (.ld1 (.t 9))),
 (oQ 11 (.len false (.t 10))),
 (oQ 12 (.bin .eql (.t 11) (iQ 0)))])
 (.cond (.t 12) (.seq (.reg [(oQ 2 (.mv (iQ 0))),
 (oQ 3 (.mv (iQ 10)))])
 .ret) .skip))
 (.seq (.seq (.reg [(oQ 13 (.fa 0 (.t 1))),
 (oQ 14 (.ld1 (.t 13))),
 (oQ 15 (.len false (.t 14))),
 (oQ 16 (.bin .gtr (.t 15) (iQ 4)))])
 (.cond (.t 16) (.seq (.reg [(oQ 2 (.mv (iQ 0))),
 (oQ 3 (.mv (iQ 8)))])
 .ret) .skip))
 (.seq (.reg [(oQ 4 (.mv (iQ 1)))])
 (.seq (.seq (.reg [(oQ 5 (.mv (iQ 0)))])
 (.block 0 (.loop [.v 5 tQ,.v 4 tQ] [1] [1] (.seq (.seq (.reg [(oQ 17 (.mv (.t 5))),
 (oQ 18 (.fa 0 (.t 1))),
 (oQ 19 (.ld1 (.t 18))),
 (oQ 20 (.len false (.t 19))),
 (oQ 21 (.bin .lss (.t 17) (.t 20)))])
 (.cond (.t 21) .skip (.exit 0)))
 (.seq (.block 1 (.seq (.reg [(oQ 24 (.fa 0 (.t 1))),
 (oQ 25 (.ld1 (.t 24))),
 (oQ 26 (.mv (.t 5))),
 (oQ 27 (.ia 2 (.t 25) (.t 26))),
 (oQ 28 (.ldn 2 (.t 27))),
 (oQ 6 (.newz 1 [(.p (.sl 0 [] true)),(.p (.sl 0 [] true))])),
 (uQ (.st 2 (.t 6) (.t 28)))])
 (.seq (.seq (.reg [(oQ 29 (.fa 0 (.t 6))),
 (oQ 30 (.ld1 (.t 29))),
 (oQ 31 (.len false (.t 30))),
 (oQ 32 (.bin .eql (.t 31) (iQ 0))),
 (oQ 33 (.mv (.t 32))),
 (gQ 34 33 false (.fa 1 (.t 6))),
 (gQ 35 33 false (.ld1 (.t 34))),
 (gQ 36 33 false (.len false (.t 35))),
 (gQ 37 33 false (.bin .eql (.t 36) (iQ 0))),
 (oQ 38 (.pick (.t 33) (.c (.p (.bool true))) (.t 37)))])
 (.cond (.t 38) (.seq (.reg [(oQ 39 (.mv (.t 5))),
 (oQ 2 (.mv (.t 39))),
 (oQ 3 (.mv (iQ 10)))])
 .ret) .skip))
 (.seq (.seq (.reg [(oQ 40 (.fa 0 (.t 6))),
 (oQ 41 (.ld1 (.t 40))),
 (kQ 42 2 99 [(.t 41),(.c (.p (.bool true)))]),
 (oQ 7 (.mv (.t 42)))])
 (.seq (.reg [(oQ 43 (.mv (.t 7))),
 (oQ 44 (.bin .neq (.t 43) (iQ 0)))])
 (.cond (.t 44) (.seq (.reg [(oQ 45 (.mv (.t 5))),
 (oQ 46 (.mv (.t 7))),
 (oQ 2 (.mv (.t 45))),
 (oQ 3 (.mv (.t 46)))])
 .ret) .skip)))
 (.seq (.seq (.reg [(oQ 47 (.fa 1 (.t 6))),
 (oQ 48 (.ld1 (.t 47))),
 (kQ 49 3 99 [(.t 48),(.c (.p (.bool false)))]),
 (oQ 8 (.mv (.t 49)))])
 (.seq (.reg [(oQ 50 (.mv (.t 8))),
 (oQ 51 (.bin .neq (.t 50) (iQ 0)))])
 (.cond (.t 51) (.seq (.reg [(oQ 52 (.mv (.t 5))),
 (oQ 53 (.mv (.t 8))),
 (oQ 2 (.mv (.t 52))),
 (oQ 3 (.mv (.t 53)))])
 .ret) .skip)))
 (.seq (.seq (.reg [(oQ 54 (.mv (.t 5))),
 (oQ 55 (.fa 0 (.t 1))),
 (oQ 56 (.ld1 (.t 55))),
 (oQ 57 (.len false (.t 56))),
 (oQ 58 (.bin .sub (.t 57) (iQ 1))),
 (oQ 59 (.bin .eql (.t 54) (.t 58))),
 (oQ 60 (.mv (.t 59))),
 (gQ 61 60 true (.fa 1 (.t 6))),
 (gQ 62 60 true (.ld1 (.t 61))),
 (gQ 63 60 true (.bsl false 4 1 1 [zQ] [(0,1,(iQ 0))])),
 ⟨some 64,some (some 60,true),(.call 5 58 [(.t 62),(.t 63)])⟩,
 (gQ 65 60 true (.unot (.t 64))),
 (oQ 66 (.pick (.t 60) (.t 65) (.c (.p (.bool false)))))])
 (.cond (.t 66) (.seq (.reg [(oQ 67 (.mv (.t 5))),
 (oQ 2 (.mv (.t 67))),
 (oQ 3 (.mv (iQ 3)))])
 .ret) .skip))
 (.reg [(oQ 68 (.mv (.t 4))),
 (oQ 69 (.fa 0 (.t 6))),
 (oQ 70 (.ld1 (.t 69))),
 (oQ 71 (.len false (.t 70))),
 (oQ 72 (.bin .mul (.t 68) (.t 71))),
 (oQ 73 (.fa 1 (.t 6))),
 (oQ 74 (.ld1 (.t 73))),
 (oQ 75 (.len false (.t 74))),
 (oQ 76 (.bin .mul (.t 72) (.t 75))),
 (oQ 4 (.mv (.t 76)))])))))))
 (.reg [(oQ 22 (.mv (.t 5))),
 (oQ 23 (.bin .add (.t 22) (iQ 1))),
 (oQ 5 (.mv (.t 23)))]))))))
 (.seq (.seq (.reg [(oQ 77 (.mv (.t 4))),
 (oQ 78 (.bin .gtr (.t 77) (iQ 300)))])
 (.cond (.t 78) (.seq (.reg [(oQ 2 (.mv (iQ 0))),
 (oQ 3 (.mv (iQ 16)))])
 .ret) .skip))
 (.seq (.reg [(oQ 2 (.mv (iQ 0))),
 (oQ 3 (.mv (iQ 0)))])
 .ret)))))))⟩
def A_ref04_CheckClass:Nat→Ty := tyAt [.un,.un,.un,.un,tQ,.un]
abbrev P_ref04_CheckClass:List PSh := [.agg (.sl (.pr (.sl tQ) (.sl tQ)))]
abbrev R_ref04_CheckClass:List PSh := [.one tQ,.one tQ]
theorem e_ref04_CheckClass:cFn Try.prog 33 = some F_ref04_CheckClass.erase := by kernel_rfl
theorem k_ref04_CheckClass:callable Try.prog 33 = true := by kernel_rfl
def F_ref04_Count:TFn := ⟨30,1,[.tmp 2],
 (.seq (.reg [(oQ 1 (.box 0 (.t 0))),
 (oQ 2 (.mv (iQ 0)))])
 (.seq (.reg [(oQ 3 (.mv (iQ 1)))])
 (.seq (.seq (.reg [(oQ 4 (.mv (iQ 0)))])
 (.block 0 (.loop [.v 4 tQ,.v 3 tQ] [] [] (.seq (.seq (.reg [(oQ 5 (.mv (.t 4))),
 (oQ 6 (.fa 0 (.t 1))),
 (oQ 7 (.ld1 (.t 6))),
 (oQ 8 (.len false (.t 7))),
 (oQ 9 (.bin .lss (.t 5) (.t 8)))])
 (.cond (.t 9) .skip (.exit 0)))
 (.seq (.block 1 (.regd [(oQ 12 (.mv (.t 3))),
 (oQ 13 (.fa 0 (.t 1))),
 (oQ 14 (.ld1 (.t 13))),
 (oQ 15 (.mv (.t 4))),
 (oQ 16 (.ia 2 (.t 14) (.t 15))),
 (oQ 17 (.fa 0 (.t 16))),
 (oQ 18 (.ld1 (.t 17))),
 (oQ 19 (.len false (.t 18))),
 (oQ 20 (.bin .mul (.t 12) (.t 19))),
 (oQ 21 (.fa 0 (.t 1))),
 (oQ 22 (.ld1 (.t 21))),
 (oQ 23 (.mv (.t 4))),
 (oQ 24 (.ia 2 (.t 22) (.t 23))),
 (oQ 25 (.fa 1 (.t 24))),
 (oQ 26 (.ld1 (.t 25))),
 (oQ 27 (.len false (.t 26))),
 (oQ 28 (.bin .mul (.t 20) (.t 27))),
 (oQ 3 (.mv (.t 28)))] [(2,10),(6,10),(2,14),(6,14)] []))
 (.reg [(oQ 10 (.mv (.t 4))),
 (oQ 11 (.bin .add (.t 10) (iQ 1))),
 (oQ 4 (.mv (.t 11)))]))))))
 (.seq (.reg [(oQ 29 (.mv (.t 3))),
 (oQ 2 (.mv (.t 29)))])
 .ret))))⟩
def A_ref04_Count:Nat→Ty := tyAt [.un]
abbrev P_ref04_Count:List PSh := [.agg (.sl (.pr (.sl tQ) (.sl tQ)))]
abbrev R_ref04_Count:List PSh := [.one tQ]
theorem e_ref04_Count:cFn Try.prog 34 = some F_ref04_Count.erase := by kernel_rfl
theorem k_ref04_Count:callable Try.prog 34 = true := by kernel_rfl
def F_base_Within:TFn := ⟨15,0,[.tmp 6],
 (.seq (.reg [(oQ 6 (.mv (.c (.p (.bool false)))))])
 (.seq (.reg [(oQ 7 (.mv (.t 1))),
 (oQ 8 (.mv (.t 0))),
 (oQ 9 (.bin .leq (.t 7) (.t 8))),
 (oQ 10 (.mv (.t 9))),
 (gQ 11 10 true (.mv (.t 0))),
 (gQ 12 10 true (.mv (.t 2))),
 (gQ 13 10 true (.bin .leq (.t 11) (.t 12))),
 (oQ 14 (.pick (.t 10) (.t 13) (.c (.p (.bool false))))),
 (oQ 6 (.mv (.t 14)))])
 .ret))⟩
def A_base_Within:Nat→Ty := tyAt []
abbrev P_base_Within:List PSh := [.one tQ,.one tQ,.one tQ]
abbrev R_base_Within:List PSh := [.one .bool]
theorem e_base_Within:cFn Try.prog 35 = some F_base_Within.erase := by kernel_rfl
theorem k_base_Within:callable Try.prog 35 = true := by kernel_rfl
def F_ref04_Model:TFn := ⟨65,5,[.celln 4 1],
 (.seq (.reg [(oQ 2 (.box 0 (.t 0))),
 (oQ 4 (.newz 1 [(.p (.sl 0 [] true))]))])
 (.seq (.reg [(oQ 8 (.fa 0 (.t 2))),
 (oQ 9 (.ld1 (.t 8))),
 (oQ 10 (.len false (.t 9))),
 (oQ 11 (.mk 2 2 16 [zQ,zQ] (.t 10))),
 (oQ 12 (.build [(.p (.sl 0 [] true))] [(0,1,(.t 11))])),
 (oQ 5 (.newz 3 [(.p (.sl 0 [] true))])),
 (uQ (.st 1 (.t 5) (.t 12)))])
 (.seq (.seq (.reg [(oQ 13 (.fa 0 (.t 2))),
 (oQ 14 (.ld1 (.t 13))),
 (oQ 15 (.len false (.t 14))),
 (oQ 16 (.bin .sub (.t 15) (iQ 1))),
 (oQ 6 (.mv (.t 16)))])
 (.block 0 (.loop [.v 6 tQ,.v 1 tQ,.d 2 pQ] [2,4] [4] (.seq (.seq (.reg [(oQ 17 (.mv (.t 6))),
 (oQ 18 (.bin .geq (.t 17) (iQ 0)))])
 (.cond (.t 18) .skip (.exit 0)))
 (.seq (.block 1 (.seq (.reg [(oQ 21 (.fa 0 (.t 2))),
 (oQ 22 (.ld1 (.t 21))),
 (oQ 23 (.mv (.t 6))),
 (oQ 24 (.ia 2 (.t 22) (.t 23))),
 (oQ 25 (.ldn 2 (.t 24))),
 (oQ 7 (.newz 4 [(.p (.sl 0 [] true)),(.p (.sl 0 [] true))])),
 (uQ (.st 2 (.t 7) (.t 25)))])
 (.seq (.regd [(oQ 26 (.fa 0 (.t 5))),
 (oQ 27 (.ld1 (.t 26))),
 (oQ 28 (.mv (.t 6))),
 (oQ 29 (.fa 1 (.t 7))),
 (oQ 30 (.ld1 (.t 29))),
 (oQ 31 (.mv (.t 1))),
 (oQ 32 (.fa 1 (.t 7))),
 (oQ 33 (.ld1 (.t 32))),
 (oQ 34 (.len false (.t 33))),
 (oQ 35 (.bin .rem (.t 31) (.t 34))),
 (oQ 36 (.ia 1 (.t 30) (.t 35))),
 (oQ 37 (.ld1 (.t 36))),
 (oQ 38 (.ia 2 (.t 27) (.t 28))),
 (oQ 39 (.fa 1 (.t 38))),
 (uQ (.st 1 (.t 39) (.t 37)))] [(1,4),(1,7),(4,7),(1,11)] [])
 (.seq (.reg [(oQ 40 (.mv (.t 1))),
 (oQ 41 (.fa 1 (.t 7))),
 (oQ 42 (.ld1 (.t 41))),
 (oQ 43 (.len false (.t 42))),
 (oQ 44 (.bin .quo (.t 40) (.t 43))),
 (oQ 1 (.mv (.t 44)))])
 (.seq (.regd [(oQ 45 (.fa 0 (.t 5))),
 (oQ 46 (.ld1 (.t 45))),
 (oQ 47 (.mv (.t 6))),
 (oQ 48 (.fa 0 (.t 7))),
 (oQ 49 (.ld1 (.t 48))),
 (oQ 50 (.mv (.t 1))),
 (oQ 51 (.fa 0 (.t 7))),
 (oQ 52 (.ld1 (.t 51))),
 (oQ 53 (.len false (.t 52))),
 (oQ 54 (.bin .rem (.t 50) (.t 53))),
 (oQ 55 (.ia 1 (.t 49) (.t 54))),
 (oQ 56 (.ld1 (.t 55))),
 (oQ 57 (.ia 2 (.t 46) (.t 47))),
 (oQ 58 (.fa 0 (.t 57))),
 (uQ (.st 1 (.t 58) (.t 56)))] [(1,4),(1,7),(4,7),(1,11)] [])
 (.reg [(oQ 59 (.mv (.t 1))),
 (oQ 60 (.fa 0 (.t 7))),
 (oQ 61 (.ld1 (.t 60))),
 (oQ 62 (.len false (.t 61))),
 (oQ 63 (.bin .quo (.t 59) (.t 62))),
 (oQ 1 (.mv (.t 63)))]))))))
 (.reg [(oQ 19 (.mv (.t 6))),
 (oQ 20 (.bin .sub (.t 19) (iQ 1))),
 (oQ 6 (.mv (.t 20)))]))))))
 (.seq (.reg [(oQ 64 (.ldn 1 (.t 5))),
 (uQ (.st 1 (.t 4) (.t 64)))])
 .ret))))⟩
def A_ref04_Model:Nat→Ty := tyAt [.un,.un,pQ,.un,.un]
abbrev P_ref04_Model:List PSh := [.agg (.sl (.pr (.sl tQ) (.sl tQ))),.one tQ]
abbrev R_ref04_Model:List PSh := [.agg (.sl pQ)]
theorem e_ref04_Model:cFn Try.prog 37 = some F_ref04_Model.erase := by kernel_rfl
theorem k_ref04_Model:callable Try.prog 37 = true := by kernel_rfl
def F_ref04_SameModel:TFn := ⟨31,2,[.tmp 4],
 (.seq (.reg [(oQ 2 (.box 0 (.t 0))),
 (oQ 3 (.box 1 (.t 1))),
 (oQ 4 (.mv (.c (.p (.bool false)))))])
 (.seq (.seq (.reg [(oQ 6 (.fa 0 (.t 2))),
 (oQ 7 (.ld1 (.t 6))),
 (oQ 8 (.len false (.t 7))),
 (oQ 9 (.fa 0 (.t 3))),
 (oQ 10 (.ld1 (.t 9))),
 (oQ 11 (.len false (.t 10))),
 (oQ 12 (.bin .neq (.t 8) (.t 11)))])
 (.cond (.t 12) (.seq (.reg [(oQ 4 (.mv (.c (.p (.bool false)))))])
 .ret) .skip))
 (.seq (.seq (.reg [(oQ 5 (.mv (iQ 0)))])
 (.block 0 (.loop [.v 5 tQ] [] [] (.seq (.seq (.reg [(oQ 13 (.mv (.t 5))),
 (oQ 14 (.fa 0 (.t 2))),
 (oQ 15 (.ld1 (.t 14))),
 (oQ 16 (.len false (.t 15))),
 (oQ 17 (.bin .lss (.t 13) (.t 16)))])
 (.cond (.t 17) .skip (.exit 0)))
 (.seq (.block 1 (.seq (.regd [(oQ 20 (.fa 0 (.t 2))),
 (oQ 21 (.ld1 (.t 20))),
 (oQ 22 (.mv (.t 5))),
 (oQ 23 (.ia 2 (.t 21) (.t 22))),
 (oQ 24 (.ldn 2 (.t 23))),
 (oQ 25 (.fa 0 (.t 3))),
 (oQ 26 (.ld1 (.t 25))),
 (oQ 27 (.mv (.t 5))),
 (oQ 28 (.ia 2 (.t 26) (.t 27))),
 (oQ 29 (.ldn 2 (.t 28))),
 (oQ 30 (.eqa true 2 [(true,0),(true,1)] (.t 24) (.t 29)))] [(1,6),(4,6),(1,9),(4,9)] [])
 (.cond (.t 30) (.seq (.reg [(oQ 4 (.mv (.c (.p (.bool false)))))])
 .ret) .skip)))
 (.reg [(oQ 18 (.mv (.t 5))),
 (oQ 19 (.bin .add (.t 18) (iQ 1))),
 (oQ 5 (.mv (.t 19)))]))))))
 (.seq (.reg [(oQ 4 (.mv (.c (.p (.bool true)))))])
 .ret))))⟩
def A_ref04_SameModel:Nat→Ty := tyAt [.un,.un]
abbrev P_ref04_SameModel:List PSh := [.agg (.sl pQ),.agg (.sl pQ)]
abbrev R_ref04_SameModel:List PSh := [.one .bool]
theorem e_ref04_SameModel:cFn Try.prog 36 = some F_ref04_SameModel.erase := by kernel_rfl
theorem k_ref04_SameModel:callable Try.prog 36 = true := by kernel_rfl
def F_ref04_Number:TFn := ⟨18,5,[.tmp 4],
 (.seq (.reg [(oQ 2 (.box 0 (.t 0))),
 (oQ 3 (.box 1 (.t 1))),
 (oQ 4 (.mv (iQ 0)))])
 (.seq (.seq (.reg [(oQ 5 (.mv (iQ 0)))])
 (.block 0 (.loop [.v 5 tQ] [] [] (.seq (.seq (.reg [(oQ 6 (.mv (.t 5))),
 (oQ 7 (.ldn 1 (.t 2))),
 (kQ 8 2 34 [(.t 7)]),
 (oQ 9 (.bin .lss (.t 6) (.t 8)))])
 (.cond (.t 9) .skip (.exit 0)))
 (.seq (.block 1 (.seq (.regd [(oQ 12 (.ldn 1 (.t 2))),
 (oQ 13 (.mv (.t 5))),
 (kQ 14 3 37 [(.t 12),(.t 13)]),
 (oQ 15 (.ldn 1 (.t 3))),
 (kQ 16 4 36 [(.t 14),(.t 15)])] [(0,3),(2,3)] [])
 (.cond (.t 16) (.seq (.reg [(oQ 17 (.mv (.t 5))),
 (oQ 4 (.mv (.t 17)))])
 .ret) .skip)))
 (.reg [(oQ 10 (.mv (.t 5))),
 (oQ 11 (.bin .add (.t 10) (iQ 1))),
 (oQ 5 (.mv (.t 11)))]))))))
 (.seq (.reg [(oQ 4 (.mv (iQ (-1))))])
 .ret)))⟩
def A_ref04_Number:Nat→Ty := tyAt [.un,.un,.un,.un,.un]
abbrev P_ref04_Number:List PSh := [.agg (.sl (.pr (.sl tQ) (.sl tQ))),.agg (.sl pQ)]
abbrev R_ref04_Number:List PSh := [.one tQ]
theorem e_ref04_Number:cFn Try.prog 38 = some F_ref04_Number.erase := by kernel_rfl
theorem k_ref04_Number:callable Try.prog 38 = true := by kernel_rfl
def F_ground_ExplainedIn:TFn := ⟨20,4,[.tmp 4,.tmp 5],
 (.seq (.reg [(oQ 2 (.box 0 (.t 0))),
 (oQ 4 (.mv (.c (.p (.sl 0 [] true))))),
 (oQ 5 (.mv (iQ 0)))])
 (.seq (.reg [(oQ 9 (.ldn 1 (.t 2))),
 (oQ 10 (.mv (.t 1))),
 (kQ 11 1 107 [(.t 9),(.t 10)]),
 (oQ 8 (.mv (.t 11))),
 (oQ 12 (.ext 0 (.t 8))),
 (oQ 13 (.ext 1 (.t 8))),
 (oQ 6 (.newz 2 [(.p (.sl 0 [] true))])),
 (uQ (.st 1 (.t 6) (.t 12))),
 (oQ 7 (.mv (.t 13)))])
 (.seq (.seq (.reg [(oQ 14 (.mv (.t 7))),
 (oQ 15 (.bin .neq (.t 14) (iQ 0)))])
 (.cond (.t 15) (.seq (.reg [(oQ 16 (.mv (.t 7))),
 (oQ 4 (.mv (.c (.p (.sl 0 [] true))))),
 (oQ 5 (.mv (.t 16)))])
 .ret) .skip))
 (.seq (.reg [(oQ 17 (.ldn 1 (.t 6))),
 (oQ 18 (.mv (.t 1))),
 (kQ 19 3 108 [(.t 17),(.t 18)]),
 (oQ 4 (.mv (.t 19))),
 (oQ 5 (.mv (iQ 0)))])
 .ret))))⟩
theorem e_ground_ExplainedIn:cFn Try.prog 48 = some F_ground_ExplainedIn.erase := by kernel_rfl
def F_ground_CheckData:TFn := ⟨77,12,[.tmp 2,.tmp 3],
 (.seq (.reg [(oQ 2 (.mv (iQ 0))),
 (oQ 3 (.mv (iQ 0)))])
 (.seq (.seq (.reg [(oQ 10 (.mv (.t 0))),
 (oQ 11 (.len false (.t 10))),
 (oQ 12 (.bin .gtr (.t 11) (iQ 0))),
 (kQ 13 0 74 [(.t 12),(iQ 10)]),
 (oQ 14 (.mv (.t 0))),
 (oQ 15 (.len false (.t 14))),
 (oQ 16 (.bin .leq (.t 15) (iQ 6))),
 (kQ 17 1 74 [(.t 16),(iQ 8)]),
 (oQ 18 (.bsl false 2 1 2 [zQ,zQ] [(0,1,(.t 13)),(1,1,(.t 17))])),
 (kQ 19 3 73 [(.t 18)]),
 (oQ 4 (.mv (.t 19)))])
 (.seq (.reg [(oQ 20 (.mv (.t 4))),
 (oQ 21 (.bin .neq (.t 20) (iQ 0)))])
 (.cond (.t 21) (.seq (.reg [(oQ 22 (.mv (.t 4))),
 (oQ 2 (.mv (iQ 0))),
 (oQ 3 (.mv (.t 22)))])
 .ret) .skip)))
 (.seq (.reg [(oQ 5 (.mv (.c (.clo 110 []))))])
 (.seq (.seq (.reg [(oQ 23 (.mv (.t 0))),
 (oQ 24 (.len false (.t 23))),
 (oQ 25 (.mv (iQ 0)))])
 (.block 0 (.loop [.v 25 tQ] [4] [4] (.seq (.reg [(oQ 26 (.bin .lss (.t 25) (.t 24)))])
 (.seq (.cond (.t 26) .skip (.exit 0))
 (.seq (.block 1 (.seq (.reg [(oQ 27 (.mv (.t 25))),
 (oQ 28 (.ia 3 (.t 23) (.t 25))),
 (oQ 29 (.ldn 3 (.t 28))),
 (oQ 7 (.newz 4 [zQ,zQ,zQ])),
 (oQ 6 (.mv (.t 27))),
 (uQ (.st 3 (.t 7) (.t 29)))])
 (.seq (.regd [(oQ 30 (.mv (.t 6))),
 (oQ 31 (.bin .eql (.t 30) (iQ 0))),
 (oQ 32 (.mv (.t 31))),
 (gQ 33 32 false (.fa 0 (.t 7))),
 (gQ 34 32 false (.ld1 (.t 33))),
 (gQ 35 32 false (.mv (.t 0))),
 (gQ 36 32 false (.mv (.t 6))),
 (gQ 37 32 false (.bin .sub (.t 36) (iQ 1))),
 (gQ 38 32 false (.ia 3 (.t 35) (.t 37))),
 (gQ 39 32 false (.fa 0 (.t 38))),
 (gQ 40 32 false (.ld1 (.t 39))),
 (gQ 41 32 false (.bin .gtr (.t 34) (.t 40))),
 (oQ 42 (.pick (.t 32) (.c (.p (.bool true))) (.t 41))),
 (oQ 8 (.mv (.t 42)))] [(4,10)] [])
 (.seq (.regd [(oQ 43 (.fa 0 (.t 7))),
 (oQ 44 (.ld1 (.t 43))),
 (kQ 45 5 78 [(.t 44)]),
 (oQ 46 (.mv (.t 5))),
 (oQ 47 (.fa 1 (.t 7))),
 (oQ 48 (.fa 0 (.t 47))),
 (oQ 49 (.ld1 (.t 48))),
 ⟨some 50,none,(.callv 6 (.t 46) [(.t 49)])⟩,
 (oQ 51 (.mv (.t 50))),
 (gQ 52 51 true (.mv (.t 5))),
 (gQ 53 51 true (.fa 1 (.t 7))),
 (gQ 54 51 true (.fa 1 (.t 53))),
 (gQ 55 51 true (.ld1 (.t 54))),
 ⟨some 56,some (some 51,true),(.callv 7 (.t 52) [(.t 55)])⟩,
 (oQ 57 (.pick (.t 51) (.t 56) (.c (.p (.bool false))))),
 (kQ 58 8 74 [(.t 57),(iQ 2)]),
 (oQ 59 (.fa 1 (.t 7))),
 (oQ 60 (.fa 0 (.t 59))),
 (oQ 61 (.ld1 (.t 60))),
 (oQ 62 (.fa 1 (.t 7))),
 (oQ 63 (.fa 1 (.t 62))),
 (oQ 64 (.ld1 (.t 63))),
 (oQ 65 (.bin .leq (.t 61) (.t 64))),
 (oQ 66 (.mv (.t 65))),
 (gQ 67 66 true (.mv (.t 8))),
 (oQ 68 (.pick (.t 66) (.t 67) (.c (.p (.bool false))))),
 (kQ 69 9 74 [(.t 68),(iQ 9)]),
 (oQ 70 (.bsl false 10 1 3 [zQ,zQ,zQ] [(0,1,(.t 45)),(1,1,(.t 58)),(2,1,(.t 69))])),
 (kQ 71 11 73 [(.t 70)]),
 (oQ 9 (.mv (.t 71)))] [(1,6),(2,6),(1,18),(2,18),(6,18),(7,18),(12,18),(13,18),(15,18),(1,21),(2,21),(6,21),(7,21),(12,21),(13,21),(15,21),(18,21)] [])
 (.seq (.reg [(oQ 72 (.mv (.t 9))),
 (oQ 73 (.bin .neq (.t 72) (iQ 0)))])
 (.cond (.t 73) (.seq (.reg [(oQ 74 (.mv (.t 6))),
 (oQ 75 (.mv (.t 9))),
 (oQ 2 (.mv (.t 74))),
 (oQ 3 (.mv (.t 75)))])
 .ret) .skip))))))
 (.reg [(oQ 76 (.bin .add (.t 25) (iQ 1))),
 (oQ 25 (.mv (.t 76)))])))))))
 (.seq (.reg [(oQ 2 (.mv (iQ 0))),
 (oQ 3 (.mv (iQ 0)))])
 .ret)))))⟩
theorem e_ground_CheckData:cFn Try.prog 52 = some F_ground_CheckData.erase := by kernel_rfl
def F_base_Ints:TFn := ⟨26,0,[.tmp 4],
 (.seq (.reg [(oQ 4 (.mv (.c (.p (.bool false)))))])
 (.seq (.seq (.reg [(oQ 6 (.mv (.t 0))),
 (oQ 7 (.len false (.t 6))),
 (oQ 8 (.mv (.t 1))),
 (oQ 9 (.len false (.t 8))),
 (oQ 10 (.bin .neq (.t 7) (.t 9)))])
 (.cond (.t 10) (.seq (.reg [(oQ 4 (.mv (.c (.p (.bool false)))))])
 .ret) .skip))
 (.seq (.seq (.reg [(oQ 5 (.mv (iQ 0)))])
 (.block 0 (.loop [.v 5 tQ] [] [] (.seq (.seq (.reg [(oQ 11 (.mv (.t 5))),
 (oQ 12 (.mv (.t 0))),
 (oQ 13 (.len false (.t 12))),
 (oQ 14 (.bin .lss (.t 11) (.t 13)))])
 (.cond (.t 14) .skip (.exit 0)))
 (.seq (.block 1 (.seq (.regd [(oQ 17 (.mv (.t 0))),
 (oQ 18 (.mv (.t 5))),
 (oQ 19 (.ia 1 (.t 17) (.t 18))),
 (oQ 20 (.ld1 (.t 19))),
 (oQ 21 (.mv (.t 1))),
 (oQ 22 (.mv (.t 5))),
 (oQ 23 (.ia 1 (.t 21) (.t 22))),
 (oQ 24 (.ld1 (.t 23))),
 (oQ 25 (.bin .neq (.t 20) (.t 24)))] [(3,7)] [])
 (.cond (.t 25) (.seq (.reg [(oQ 4 (.mv (.c (.p (.bool false)))))])
 .ret) .skip)))
 (.reg [(oQ 15 (.mv (.t 5))),
 (oQ 16 (.bin .add (.t 15) (iQ 1))),
 (oQ 5 (.mv (.t 16)))]))))))
 (.seq (.reg [(oQ 4 (.mv (.c (.p (.bool true)))))])
 .ret))))⟩
def A_base_Ints:Nat→Ty := tyAt []
abbrev P_base_Ints:List PSh := [.one (.sl tQ),.one (.sl tQ)]
abbrev R_base_Ints:List PSh := [.one .bool]
theorem e_base_Ints:cFn Try.prog 58 = some F_base_Ints.erase := by kernel_rfl
theorem k_base_Ints:callable Try.prog 58 = true := by kernel_rfl
def F_law04_Model:TFn := ⟨5,2,[.celln 0 1],
 (.seq (.reg [(oQ 0 (.newz 0 [(.p (.sl 0 [] true))]))])
 (.seq (.reg [(oQ 1 (.build [zQ,zQ] [(0,1,(iQ 4)),(1,1,(iQ 2))])),
 (oQ 2 (.build [zQ,zQ] [(0,1,(iQ 1))])),
 (oQ 3 (.bsl false 1 2 2 [zQ,zQ,zQ,zQ] [(0,2,(.t 1)),(2,2,(.t 2))])),
 (oQ 4 (.build [(.p (.sl 0 [] true))] [(0,1,(.t 3))])),
 (uQ (.st 1 (.t 0) (.t 4)))])
 .ret))⟩
theorem e_law04_Model:cFn Try.prog 69 = some F_law04_Model.erase := by kernel_rfl
def F_law04_Class:TFn := ⟨9,6,[.celln 0 1],
 (.seq (.reg [(oQ 0 (.newz 0 [(.p (.sl 0 [] true))]))])
 (.seq (.reg [(oQ 1 (.bsl false 1 1 2 [zQ,zQ] [(0,1,(iQ 2)),(1,1,(iQ 4))])),
 (oQ 2 (.bsl false 2 1 2 [zQ,zQ] [(0,1,(iQ 2)),(1,1,(iQ 4))])),
 (oQ 3 (.build [(.p (.sl 0 [] true)),(.p (.sl 0 [] true))] [(0,1,(.t 1)),(1,1,(.t 2))])),
 (oQ 4 (.bsl false 3 1 2 [zQ,zQ] [(0,1,(iQ 1)),(1,1,(iQ 8))])),
 (oQ 5 (.bsl false 4 1 1 [zQ] [(0,1,(iQ 0))])),
 (oQ 6 (.build [(.p (.sl 0 [] true)),(.p (.sl 0 [] true))] [(0,1,(.t 4)),(1,1,(.t 5))])),
 (oQ 7 (.bsl false 5 2 2 [(.p (.sl 0 [] true)),(.p (.sl 0 [] true)),(.p (.sl 0 [] true)),(.p (.sl 0 [] true))] [(0,2,(.t 3)),(2,2,(.t 6))])),
 (oQ 8 (.build [(.p (.sl 0 [] true))] [(0,1,(.t 7))])),
 (uQ (.st 1 (.t 0) (.t 8)))])
 .ret))⟩
theorem e_law04_Class:cFn Try.prog 70 = some F_law04_Class.erase := by kernel_rfl
def F_law04_Data:TFn := ⟨4,1,[.tmp 0],
 (.seq (.reg [(oQ 0 (.mv (.c (.p (.sl 0 [] true)))))])
 (.seq (.reg [(oQ 1 (.build [zQ,zQ] [(0,1,(iQ 2500)),(1,1,(iQ 3100))])),
 (oQ 2 (.build [zQ,zQ,zQ] [(0,1,(iQ 2)),(1,2,(.t 1))])),
 (oQ 3 (.bsl false 0 3 1 [zQ,zQ,zQ] [(0,3,(.t 2))])),
 (oQ 0 (.mv (.t 3)))])
 .ret))⟩
theorem e_law04_Data:cFn Try.prog 71 = some F_law04_Data.erase := by kernel_rfl
def F_ground_TwoOf:TFn := ⟨64,12,[.celln 6 2,.tmp 7],
 (.seq (.reg [(oQ 3 (.box 0 (.t 0))),
 (oQ 6 (.newz 1 [zQ,zQ])),
 (oQ 7 (.mv (iQ 0)))])
 (.seq (.reg [(oQ 16 (.ldn 1 (.t 3))),
 (oQ 17 (.mv (.t 1))),
 (kQ 18 2 107 [(.t 16),(.t 17)]),
 (oQ 15 (.mv (.t 18))),
 (oQ 19 (.ext 0 (.t 15))),
 (oQ 20 (.ext 1 (.t 15))),
 (oQ 8 (.newz 3 [(.p (.sl 0 [] true))])),
 (uQ (.st 1 (.t 8) (.t 19))),
 (oQ 9 (.mv (.t 20)))])
 (.seq (.seq (.reg [(oQ 21 (.mv (.t 9))),
 (oQ 22 (.mv (.t 2))),
 (kQ 23 4 95 [(.t 22),(iQ 1),(iQ 20)]),
 (kQ 24 5 74 [(.t 23),(iQ 2)]),
 (oQ 25 (.bsl false 6 1 2 [zQ,zQ] [(0,1,(.t 21)),(1,1,(.t 24))])),
 (kQ 26 7 73 [(.t 25)]),
 (oQ 9 (.mv (.t 26)))])
 (.seq (.reg [(oQ 27 (.mv (.t 9))),
 (oQ 28 (.bin .neq (.t 27) (iQ 0)))])
 (.cond (.t 28) (.seq (.reg [(oQ 29 (.build [zQ,zQ] [])),
 (oQ 30 (.mv (.t 9))),
 (uQ (.st 2 (.t 6) (.t 29))),
 (oQ 7 (.mv (.t 30)))])
 .ret) .skip)))
 (.seq (.reg [(oQ 31 (.ldn 1 (.t 8))),
 (oQ 32 (.mv (.t 1))),
 (kQ 33 8 108 [(.t 31),(.t 32)]),
 (oQ 10 (.mv (.t 33)))])
 (.seq (.seq (.reg [(oQ 34 (.mv (.t 10))),
 (oQ 35 (.len false (.t 34))),
 (oQ 36 (.mv (iQ 0)))])
 (.block 0 (.loop [.v 36 tQ] [] [] (.seq (.reg [(oQ 37 (.bin .lss (.t 36) (.t 35)))])
 (.seq (.cond (.t 37) .skip (.exit 0))
 (.seq (.block 1 (.seq (.reg [(oQ 38 (.mv (.t 36))),
 (oQ 39 (.ia 1 (.t 34) (.t 36))),
 (oQ 40 (.ld1 (.t 39))),
 (oQ 11 (.mv (.t 38))),
 (oQ 12 (.mv (.t 40)))])
 (.seq (.reg [(oQ 41 (.mv (.t 10))),
 (oQ 42 (.mv (.t 11))),
 (oQ 43 (.bin .add (.t 42) (iQ 1))),
 (oQ 44 (.sl 1 (.t 41) (some (.t 43)) none)),
 (oQ 45 (.len false (.t 44))),
 (oQ 46 (.mv (iQ 0)))])
 (.block 2 (.loop [.v 46 tQ] [] [] (.seq (.reg [(oQ 47 (.bin .lss (.t 46) (.t 45)))])
 (.seq (.cond (.t 47) .skip (.exit 2))
 (.seq (.block 3 (.seq (.reg [(oQ 48 (.ia 1 (.t 44) (.t 46))),
 (oQ 49 (.ld1 (.t 48))),
 (oQ 14 (.mv (.t 49)))])
 (.seq (.regd [(oQ 50 (.ldn 1 (.t 8))),
 (oQ 51 (.mv (.t 12))),
 (kQ 52 9 96 [(.t 50),(.t 51)]),
 (oQ 53 (.ldn 1 (.t 8))),
 (oQ 54 (.mv (.t 14))),
 (kQ 55 10 96 [(.t 53),(.t 54)]),
 (oQ 56 (.mv (.t 2))),
 (kQ 57 11 124 [(.t 52),(.t 55),(.t 56)])] [(0,3),(2,3)] [])
 (.cond (.t 57) (.seq (.reg [(oQ 58 (.mv (.t 12))),
 (oQ 59 (.mv (.t 14))),
 (oQ 60 (.build [zQ,zQ] [(0,1,(.t 58)),(1,1,(.t 59))])),
 (uQ (.st 2 (.t 6) (.t 60))),
 (oQ 7 (.mv (iQ 0)))])
 .ret) .skip))))
 (.reg [(oQ 61 (.bin .add (.t 46) (iQ 1))),
 (oQ 46 (.mv (.t 61)))])))))))))
 (.reg [(oQ 62 (.bin .add (.t 36) (iQ 1))),
 (oQ 36 (.mv (.t 62)))])))))))
 (.seq (.reg [(oQ 63 (.build [zQ,zQ] [])),
 (uQ (.st 2 (.t 6) (.t 63))),
 (oQ 7 (.mv (iQ 12)))])
 .ret))))))⟩
theorem e_ground_TwoOf:cFn Try.prog 72 = some F_ground_TwoOf.erase := by kernel_rfl
def F_ground_unless:TFn := ⟨7,0,[.tmp 4],
 (.seq (.reg [(oQ 4 (.mv (iQ 0)))])
 (.seq (.seq (.reg [(oQ 5 (.mv (.t 0)))])
 (.cond (.t 5) (.seq (.reg [(oQ 4 (.mv (iQ 0)))])
 .ret) .skip))
 (.seq (.reg [(oQ 6 (.mv (.t 1))),
 (oQ 4 (.mv (.t 6)))])
 .ret)))⟩
def A_ground_unless:Nat→Ty := tyAt []
abbrev P_ground_unless:List PSh := [.one .bool,.one tQ]
abbrev R_ground_unless:List PSh := [.one tQ]
theorem e_ground_unless:cFn Try.prog 74 = some F_ground_unless.erase := by kernel_rfl
theorem k_ground_unless:callable Try.prog 74 = true := by kernel_rfl
def F_ground_first:TFn := ⟨15,0,[.tmp 2],
 (.seq (.reg [(oQ 2 (.mv (iQ 0)))])
 (.seq (.seq (.reg [(oQ 5 (.mv (.t 0))),
 (oQ 6 (.len false (.t 5))),
 (oQ 7 (.mv (iQ 0)))])
 (.block 0 (.loop [.v 7 tQ] [] [] (.seq (.reg [(oQ 8 (.bin .lss (.t 7) (.t 6)))])
 (.seq (.cond (.t 8) .skip (.exit 0))
 (.seq (.block 1 (.seq (.reg [(oQ 9 (.ia 1 (.t 5) (.t 7))),
 (oQ 10 (.ld1 (.t 9))),
 (oQ 4 (.mv (.t 10)))])
 (.seq (.reg [(oQ 11 (.mv (.t 4))),
 (oQ 12 (.bin .neq (.t 11) (iQ 0)))])
 (.cond (.t 12) (.seq (.reg [(oQ 13 (.mv (.t 4))),
 (oQ 2 (.mv (.t 13)))])
 .ret) .skip))))
 (.reg [(oQ 14 (.bin .add (.t 7) (iQ 1))),
 (oQ 7 (.mv (.t 14)))])))))))
 (.seq (.reg [(oQ 2 (.mv (iQ 0)))])
 .ret)))⟩
def A_ground_first:Nat→Ty := tyAt []
abbrev P_ground_first:List PSh := [.one (.sl tQ)]
abbrev R_ground_first:List PSh := [.one tQ]
theorem e_ground_first:cFn Try.prog 73 = some F_ground_first.erase := by kernel_rfl
theorem k_ground_first:callable Try.prog 73 = true := by kernel_rfl
def F_ground_isConductivity:TFn := ⟨5,1,[.tmp 2],
 (.seq (.reg [(oQ 2 (.mv (.c (.p (.bool false)))))])
 (.seq (.reg [(oQ 3 (.mv (.t 0))),
 (kQ 4 0 95 [(.t 3),(iQ 1),(iQ 20)]),
 (oQ 2 (.mv (.t 4)))])
 .ret))⟩
def A_ground_isConductivity:Nat→Ty := tyAt [.un]
abbrev P_ground_isConductivity:List PSh := [.one tQ]
abbrev R_ground_isConductivity:List PSh := [.one .bool]
theorem e_ground_isConductivity:cFn Try.prog 75 = some F_ground_isConductivity.erase := by kernel_rfl
theorem k_ground_isConductivity:callable Try.prog 75 = true := by kernel_rfl
def F_ground_isThickness:TFn := ⟨5,1,[.tmp 2],
 (.seq (.reg [(oQ 2 (.mv (.c (.p (.bool false)))))])
 (.seq (.reg [(oQ 3 (.mv (.t 0))),
 (kQ 4 0 95 [(.t 3),(iQ 0),(iQ 10)]),
 (oQ 2 (.mv (.t 4)))])
 .ret))⟩
def A_ground_isThickness:Nat→Ty := tyAt [.un]
abbrev P_ground_isThickness:List PSh := [.one tQ]
abbrev R_ground_isThickness:List PSh := [.one .bool]
theorem e_ground_isThickness:cFn Try.prog 76 = some F_ground_isThickness.erase := by kernel_rfl
theorem k_ground_isThickness:callable Try.prog 76 = true := by kernel_rfl
def F_ground_modelErr:TFn := ⟨11,2,[.tmp 2],
 (.seq (.reg [(oQ 1 (.box 0 (.t 0))),
 (oQ 2 (.mv (iQ 0)))])
 (.seq (.reg [(oQ 6 (.ldn 1 (.t 1))),
 (kQ 7 1 14 [(.t 6)]),
 (oQ 5 (.mv (.t 7))),
 (oQ 8 (.ext 0 (.t 5))),
 (oQ 9 (.ext 1 (.t 5))),
 (oQ 3 (.mv (.t 8))),
 (oQ 4 (.mv (.t 9)))])
 (.seq (.reg [(oQ 10 (.mv (.t 4))),
 (oQ 2 (.mv (.t 10)))])
 .ret)))⟩
def A_ground_modelErr:Nat→Ty := tyAt [.un,.un]
abbrev P_ground_modelErr:List PSh := [.agg (.sl pQ)]
abbrev R_ground_modelErr:List PSh := [.one tQ]
theorem e_ground_modelErr:cFn Try.prog 77 = some F_ground_modelErr.erase := by kernel_rfl
theorem k_ground_modelErr:callable Try.prog 77 = true := by kernel_rfl
def F_ground_scaleErr:TFn := ⟨6,2,[.tmp 2],
 (.seq (.reg [(oQ 2 (.mv (iQ 0)))])
 (.seq (.reg [(oQ 3 (.mv (.t 0))),
 (kQ 4 0 95 [(.t 3),(iQ 1),(iQ 20)]),
 (kQ 5 1 74 [(.t 4),(iQ 2)]),
 (oQ 2 (.mv (.t 5)))])
 .ret))⟩
theorem e_ground_scaleErr:cFn Try.prog 78 = some F_ground_scaleErr.erase := by kernel_rfl
def F_ground_response:TFn := ⟨57,7,[.celln 4 2],
 (.seq (.reg [(oQ 2 (.box 0 (.t 0))),
 (oQ 3 (.box 1 (.t 1))),
 (oQ 4 (.newz 2 [zQ,zQ]))])
 (.seq (.reg [(oQ 5 (.newz 3 [zQ,zQ]))])
 (.seq (.seq (.reg [(oQ 11 (.ld1 (.t 2))),
 (kQ 12 4 125 [(.t 11)])])
 (.block 0 (.rng (.t 12) [13,14] [13,14,6,7,15,16,17,18,19,20,21,22,23,24,25,26,27,28,29,30,8,9,10,31,32,33,34,35,36,37,38,39,40,41,42,43,44,45,46,47,48,49,50,51,52,53,54,55] [.c 3 pQ] [3,5] [5] (.seq (.reg [(oQ 6 (.mv (.t 13)))])
 (.reg [(oQ 7 (.newz 5 [zQ,zQ])),
 (uQ (.st 2 (.t 7) (.t 14)))]))
 (.block 1 (.seq (.seq (.reg [(oQ 15 (.mv (.t 6))),
 (oQ 16 (.ld1 (.t 2))),
 (oQ 17 (.len false (.t 16))),
 (oQ 18 (.bin .sub (.t 17) (iQ 1))),
 (oQ 19 (.bin .eql (.t 15) (.t 18)))])
 (.cond (.t 19) (.seq (.reg [(oQ 20 (.fa 0 (.t 7))),
 (oQ 21 (.ld1 (.t 20))),
 (oQ 22 (.build [zQ,zQ] [(0,1,(.t 21)),(1,1,(iQ 1))])),
 (uQ (.st 2 (.t 5) (.t 22)))])
 (.exit 1)) .skip))
 (.seq (.regd [(oQ 23 (.fa 0 (.t 7))),
 (oQ 24 (.ld1 (.t 23))),
 (oQ 25 (.fa 1 (.t 7))),
 (oQ 26 (.ld1 (.t 25))),
 (oQ 27 (.fa 1 (.t 7))),
 (oQ 28 (.ld1 (.t 27))),
 (oQ 29 (.ld1 (.t 3))),
 (oQ 30 (.bin .add (.t 28) (.t 29))),
 (oQ 8 (.mv (.t 24))),
 (oQ 9 (.mv (.t 26))),
 (oQ 10 (.mv (.t 30)))] [(1,3),(1,5),(3,5),(1,6),(3,6),(5,6)] [])
 (.reg [(oQ 31 (.mv (.t 8))),
 (oQ 32 (.fa 0 (.t 5))),
 (oQ 33 (.ld1 (.t 32))),
 (oQ 34 (.mv (.t 10))),
 (oQ 35 (.bin .mul (.t 33) (.t 34))),
 (oQ 36 (.mv (.t 8))),
 (oQ 37 (.mv (.t 9))),
 (oQ 38 (.bin .mul (.t 36) (.t 37))),
 (oQ 39 (.fa 1 (.t 5))),
 (oQ 40 (.ld1 (.t 39))),
 (oQ 41 (.bin .mul (.t 38) (.t 40))),
 (oQ 42 (.bin .add (.t 35) (.t 41))),
 (oQ 43 (.bin .mul (.t 31) (.t 42))),
 (oQ 44 (.mv (.t 8))),
 (oQ 45 (.fa 1 (.t 5))),
 (oQ 46 (.ld1 (.t 45))),
 (oQ 47 (.bin .mul (.t 44) (.t 46))),
 (oQ 48 (.mv (.t 10))),
 (oQ 49 (.bin .mul (.t 47) (.t 48))),
 (oQ 50 (.fa 0 (.t 5))),
 (oQ 51 (.ld1 (.t 50))),
 (oQ 52 (.mv (.t 9))),
 (oQ 53 (.bin .mul (.t 51) (.t 52))),
 (oQ 54 (.bin .add (.t 49) (.t 53))),
 (kQ 55 6 126 [(.t 43),(.t 54)]),
 (uQ (.st 2 (.t 5) (.t 55)))])))))))
 (.seq (.reg [(oQ 56 (.ldn 2 (.t 5))),
 (uQ (.st 2 (.t 4) (.t 56)))])
 .ret))))⟩
theorem e_ground_response:cFn Try.prog 79 = some F_ground_response.erase := by kernel_rfl
def F_ground_quotient_frac:TFn := ⟨18,2,[.celln 2 2,.tmp 3],
 (.seq (.reg [(oQ 1 (.box 0 (.t 0))),
 (oQ 2 (.newz 1 [zQ,zQ])),
 (oQ 3 (.mv (iQ 0)))])
 (.seq (.seq (.reg [(oQ 4 (.fa 0 (.t 1))),
 (oQ 5 (.ld1 (.t 4))),
 (oQ 6 (.bin .gtr (.t 5) (iQ 1000000000))),
 (oQ 7 (.mv (.t 6))),
 (gQ 8 7 false (.fa 1 (.t 1))),
 (gQ 9 7 false (.ld1 (.t 8))),
 (gQ 10 7 false (.bin .gtr (.t 9) (iQ 1000000000))),
 (oQ 11 (.pick (.t 7) (.c (.p (.bool true))) (.t 10)))])
 (.cond (.t 11) (.seq (.reg [(oQ 12 (.build [zQ,zQ] [])),
 (uQ (.st 2 (.t 2) (.t 12))),
 (oQ 3 (.mv (iQ 8)))])
 .ret) .skip))
 (.seq (.reg [(oQ 13 (.fa 0 (.t 1))),
 (oQ 14 (.ld1 (.t 13))),
 (oQ 15 (.fa 1 (.t 1))),
 (oQ 16 (.ld1 (.t 15))),
 (oQ 17 (.build [zQ,zQ] [(0,1,(.t 14)),(1,1,(.t 16))])),
 (uQ (.st 2 (.t 2) (.t 17))),
 (oQ 3 (.mv (iQ 0)))])
 .ret)))⟩
theorem e_ground_quotient_frac:cFn Try.prog 80 = some F_ground_quotient_frac.erase := by kernel_rfl
def F_ref04_isConductivity:TFn := ⟨5,1,[.tmp 2],
 (.seq (.reg [(oQ 2 (.mv (.c (.p (.bool false)))))])
 (.seq (.reg [(oQ 3 (.mv (.t 0))),
 (kQ 4 0 35 [(.t 3),(iQ 1),(iQ 20)]),
 (oQ 2 (.mv (.t 4)))])
 .ret))⟩
def A_ref04_isConductivity:Nat→Ty := tyAt [.un]
abbrev P_ref04_isConductivity:List PSh := [.one tQ]
abbrev R_ref04_isConductivity:List PSh := [.one .bool]
theorem e_ref04_isConductivity:cFn Try.prog 81 = some F_ref04_isConductivity.erase := by kernel_rfl
theorem k_ref04_isConductivity:callable Try.prog 81 = true := by kernel_rfl
def F_ref04_isThickness:TFn := ⟨5,1,[.tmp 2],
 (.seq (.reg [(oQ 2 (.mv (.c (.p (.bool false)))))])
 (.seq (.reg [(oQ 3 (.mv (.t 0))),
 (kQ 4 0 35 [(.t 3),(iQ 0),(iQ 10)]),
 (oQ 2 (.mv (.t 4)))])
 .ret))⟩
def A_ref04_isThickness:Nat→Ty := tyAt [.un]
abbrev P_ref04_isThickness:List PSh := [.one tQ]
abbrev R_ref04_isThickness:List PSh := [.one .bool]
theorem e_ref04_isThickness:cFn Try.prog 82 = some F_ref04_isThickness.erase := by kernel_rfl
theorem k_ref04_isThickness:callable Try.prog 82 = true := by kernel_rfl
def F_base_CopyInts_p:TFn := ⟨6,2,[.tmp 2],
 (.seq (.reg [(oQ 2 (.mv (.c (.p (.sl 0 [] true)))))])
 (.seq (.reg [(oQ 3 (.bsl true 0 1 0 [] [])),
 (oQ 4 (.mv (.t 0))),
 (oQ 5 (.app 1 1 8 (.t 3) (.t 4))),
 (oQ 2 (.mv (.t 5)))])
 .ret))⟩
def A_base_CopyInts_p:Nat→Ty := tyAt [tQ,tQ]
abbrev P_base_CopyInts_p:List PSh := [.one (.sl tQ)]
abbrev R_base_CopyInts_p:List PSh := [.one (.sl tQ)]
theorem e_base_CopyInts_p:cFn Try.prog 66 = some F_base_CopyInts_p.erase := by kernel_rfl
theorem k_base_CopyInts_p:callable Try.prog 66 = true := by kernel_rfl
def F_ground_listErr__ground_isConductivity:TFn := ⟨38,5,[.tmp 4],
 (.seq (.reg [(oQ 4 (.mv (iQ 0)))])
 (.seq (.seq (.reg [(oQ 8 (.mv (.t 0))),
 (oQ 9 (.len false (.t 8))),
 (oQ 10 (.mv (iQ 0)))])
 (.block 0 (.loop [.v 10 tQ] [] [] (.seq (.reg [(oQ 11 (.bin .lss (.t 10) (.t 9)))])
 (.seq (.cond (.t 11) .skip (.exit 0))
 (.seq (.block 1 (.seq (.reg [(oQ 12 (.mv (.t 10))),
 (oQ 13 (.ia 1 (.t 8) (.t 10))),
 (oQ 14 (.ld1 (.t 13))),
 (oQ 5 (.mv (.t 12))),
 (oQ 6 (.mv (.t 14)))])
 (.seq (.reg [(oQ 15 (.mv (.t 1))),
 (oQ 16 (.mv (.t 6))),
 ⟨some 17,none,(.callv 0 (.t 15) [(.t 16)])⟩,
 (kQ 18 1 74 [(.t 17),(iQ 2)]),
 (oQ 19 (.mv (.t 5))),
 (oQ 20 (.bin .eql (.t 19) (iQ 0))),
 (oQ 21 (.mv (.t 20))),
 (gQ 22 21 false (.mv (.t 6))),
 (gQ 23 21 false (.mv (.t 0))),
 (gQ 24 21 false (.mv (.t 5))),
 (gQ 25 21 false (.bin .sub (.t 24) (iQ 1))),
 (gQ 26 21 false (.mm true (iQ 0) (.t 25))),
 (gQ 27 21 false (.ia 1 (.t 23) (.t 26))),
 (gQ 28 21 false (.ld1 (.t 27))),
 (gQ 29 21 false (.bin .gtr (.t 22) (.t 28))),
 (oQ 30 (.pick (.t 21) (.c (.p (.bool true))) (.t 29))),
 (kQ 31 2 74 [(.t 30),(iQ 9)]),
 (oQ 32 (.bsl false 3 1 2 [zQ,zQ] [(0,1,(.t 18)),(1,1,(.t 31))])),
 (kQ 33 4 73 [(.t 32)]),
 (oQ 7 (.mv (.t 33)))])
 (.seq (.reg [(oQ 34 (.mv (.t 7))),
 (oQ 35 (.bin .neq (.t 34) (iQ 0)))])
 (.cond (.t 35) (.seq (.reg [(oQ 36 (.mv (.t 7))),
 (oQ 4 (.mv (.t 36)))])
 .ret) .skip)))))
 (.reg [(oQ 37 (.bin .add (.t 10) (iQ 1))),
 (oQ 10 (.mv (.t 37)))])))))))
 (.seq (.reg [(oQ 4 (.mv (iQ 0)))])
 .ret)))⟩
def A_ground_listErr__ground_isConductivity:Nat→Ty := tyAt [.un,.un,.un,tQ,.un]
abbrev P_ground_listErr__ground_isConductivity:List PSh := [.one (.sl tQ),.fn 75 []]
abbrev R_ground_listErr__ground_isConductivity:List PSh := [.one tQ]
theorem e_ground_listErr__ground_isConductivity:cFn Try.prog 91 = some F_ground_listErr__ground_isConductivity.erase := by kernel_rfl
theorem k_ground_listErr__ground_isConductivity:callable Try.prog 91 = true := by kernel_rfl
def F_ground_listErr__ground_isThickness:TFn := ⟨38,5,[.tmp 4],
 (.seq (.reg [(oQ 4 (.mv (iQ 0)))])
 (.seq (.seq (.reg [(oQ 8 (.mv (.t 0))),
 (oQ 9 (.len false (.t 8))),
 (oQ 10 (.mv (iQ 0)))])
 (.block 0 (.loop [.v 10 tQ] [] [] (.seq (.reg [(oQ 11 (.bin .lss (.t 10) (.t 9)))])
 (.seq (.cond (.t 11) .skip (.exit 0))
 (.seq (.block 1 (.seq (.reg [(oQ 12 (.mv (.t 10))),
 (oQ 13 (.ia 1 (.t 8) (.t 10))),
 (oQ 14 (.ld1 (.t 13))),
 (oQ 5 (.mv (.t 12))),
 (oQ 6 (.mv (.t 14)))])
 (.seq (.reg [(oQ 15 (.mv (.t 1))),
 (oQ 16 (.mv (.t 6))),
 ⟨some 17,none,(.callv 0 (.t 15) [(.t 16)])⟩,
 (kQ 18 1 74 [(.t 17),(iQ 2)]),
 (oQ 19 (.mv (.t 5))),
 (oQ 20 (.bin .eql (.t 19) (iQ 0))),
 (oQ 21 (.mv (.t 20))),
 (gQ 22 21 false (.mv (.t 6))),
 (gQ 23 21 false (.mv (.t 0))),
 (gQ 24 21 false (.mv (.t 5))),
 (gQ 25 21 false (.bin .sub (.t 24) (iQ 1))),
 (gQ 26 21 false (.mm true (iQ 0) (.t 25))),
 (gQ 27 21 false (.ia 1 (.t 23) (.t 26))),
 (gQ 28 21 false (.ld1 (.t 27))),
 (gQ 29 21 false (.bin .gtr (.t 22) (.t 28))),
 (oQ 30 (.pick (.t 21) (.c (.p (.bool true))) (.t 29))),
 (kQ 31 2 74 [(.t 30),(iQ 9)]),
 (oQ 32 (.bsl false 3 1 2 [zQ,zQ] [(0,1,(.t 18)),(1,1,(.t 31))])),
 (kQ 33 4 73 [(.t 32)]),
 (oQ 7 (.mv (.t 33)))])
 (.seq (.reg [(oQ 34 (.mv (.t 7))),
 (oQ 35 (.bin .neq (.t 34) (iQ 0)))])
 (.cond (.t 35) (.seq (.reg [(oQ 36 (.mv (.t 7))),
 (oQ 4 (.mv (.t 36)))])
 .ret) .skip)))))
 (.reg [(oQ 37 (.bin .add (.t 10) (iQ 1))),
 (oQ 10 (.mv (.t 37)))])))))))
 (.seq (.reg [(oQ 4 (.mv (iQ 0)))])
 .ret)))⟩
def A_ground_listErr__ground_isThickness:Nat→Ty := tyAt [.un,.un,.un,tQ,.un]
abbrev P_ground_listErr__ground_isThickness:List PSh := [.one (.sl tQ),.fn 76 []]
abbrev R_ground_listErr__ground_isThickness:List PSh := [.one tQ]
theorem e_ground_listErr__ground_isThickness:cFn Try.prog 91 = some F_ground_listErr__ground_isThickness.erase := by kernel_rfl
theorem k_ground_listErr__ground_isThickness:callable Try.prog 91 = true := by kernel_rfl
def F_slices_Equalint_int:TFn := ⟨26,0,[.tmp 4],
 (.seq (.reg [(oQ 4 (.mv (.c (.p (.bool false)))))])
 (.seq (.seq (.reg [(oQ 6 (.mv (.t 0))),
 (oQ 7 (.len false (.t 6))),
 (oQ 8 (.mv (.t 1))),
 (oQ 9 (.len false (.t 8))),
 (oQ 10 (.bin .neq (.t 7) (.t 9)))])
 (.cond (.t 10) (.seq (.reg [(oQ 4 (.mv (.c (.p (.bool false)))))])
 .ret) .skip))
 (.seq (.seq (.reg [(oQ 11 (.mv (.t 0))),
 (oQ 12 (.len false (.t 11))),
 (oQ 13 (.mv (iQ 0)))])
 (.block 0 (.loop [.v 13 tQ] [] [] (.seq (.reg [(oQ 14 (.bin .lss (.t 13) (.t 12)))])
 (.seq (.cond (.t 14) .skip (.exit 0))
 (.seq (.block 1 (.seq (.reg [(oQ 15 (.mv (.t 13))),
 (oQ 5 (.mv (.t 15)))])
 (.seq (.regd [(oQ 16 (.mv (.t 0))),
 (oQ 17 (.mv (.t 5))),
 (oQ 18 (.ia 1 (.t 16) (.t 17))),
 (oQ 19 (.ld1 (.t 18))),
 (oQ 20 (.mv (.t 1))),
 (oQ 21 (.mv (.t 5))),
 (oQ 22 (.ia 1 (.t 20) (.t 21))),
 (oQ 23 (.ld1 (.t 22))),
 (oQ 24 (.bin .neq (.t 19) (.t 23)))] [(3,7)] [])
 (.cond (.t 24) (.seq (.reg [(oQ 4 (.mv (.c (.p (.bool false)))))])
 .ret) .skip))))
 (.reg [(oQ 25 (.bin .add (.t 13) (iQ 1))),
 (oQ 13 (.mv (.t 25)))])))))))
 (.seq (.reg [(oQ 4 (.mv (.c (.p (.bool true)))))])
 .ret))))⟩
def A_slices_Equalint_int:Nat→Ty := tyAt []
abbrev P_slices_Equalint_int:List PSh := [.one (.sl tQ),.one (.sl tQ)]
abbrev R_slices_Equalint_int:List PSh := [.one .bool]
theorem e_slices_Equalint_int:cFn Try.prog 92 = some F_slices_Equalint_int.erase := by kernel_rfl
theorem k_slices_Equalint_int:callable Try.prog 92 = true := by kernel_rfl
def F_ground_open:TFn := ⟨14,3,[.celln 2 1,.tmp 3],
 (.seq (.reg [(oQ 1 (.box 0 (.t 0))),
 (oQ 2 (.newz 1 [(.p (.sl 0 [] true))])),
 (oQ 3 (.mv (iQ 0)))])
 (.seq (.reg [(oQ 7 (.ldn 1 (.t 1))),
 (kQ 8 2 28 [(.t 7)]),
 (oQ 6 (.mv (.t 8))),
 (oQ 9 (.ext 0 (.t 6))),
 (oQ 10 (.ext 1 (.t 6))),
 (oQ 4 (.mv (.t 9))),
 (oQ 5 (.mv (.t 10)))])
 (.seq (.reg [(oQ 11 (.ldn 1 (.t 1))),
 (oQ 12 (.build [(.p (.sl 0 [] true))] [(0,1,(.t 11))])),
 (oQ 13 (.mv (.t 5))),
 (uQ (.st 1 (.t 2) (.t 12))),
 (oQ 3 (.mv (.t 13)))])
 .ret)))⟩
def A_ground_open:Nat→Ty := tyAt [.un,.un,.un]
abbrev P_ground_open:List PSh := [.agg (.sl (.pr (.sl tQ) (.sl tQ)))]
abbrev R_ground_open:List PSh := [.agg (.sl (.pr (.sl tQ) (.sl tQ))),.one tQ]
theorem e_ground_open:cFn Try.prog 93 = some F_ground_open.erase := by kernel_rfl
theorem k_ground_open:callable Try.prog 93 = true := by kernel_rfl
def F_ground_class_count:TFn := ⟨25,2,[.tmp 2],
 (.seq (.reg [(oQ 1 (.box 0 (.t 0))),
 (oQ 2 (.mv (iQ 0)))])
 (.seq (.reg [(oQ 3 (.mv (iQ 1)))])
 (.seq (.seq (.reg [(oQ 6 (.fa 0 (.t 1))),
 (oQ 7 (.fa 0 (.t 6))),
 (oQ 8 (.ld1 (.t 7))),
 (oQ 9 (.len false (.t 8))),
 (oQ 10 (.mv (iQ 0)))])
 (.block 0 (.loop [.v 10 tQ,.v 3 tQ] [1] [1] (.seq (.reg [(oQ 11 (.bin .lss (.t 10) (.t 9)))])
 (.seq (.cond (.t 11) .skip (.exit 0))
 (.seq (.block 1 (.seq (.reg [(oQ 12 (.ia 2 (.t 8) (.t 10))),
 (oQ 13 (.ldn 2 (.t 12))),
 (oQ 5 (.newz 1 [(.p (.sl 0 [] true)),(.p (.sl 0 [] true))])),
 (uQ (.st 2 (.t 5) (.t 13)))])
 (.reg [(oQ 14 (.mv (.t 3))),
 (oQ 15 (.fa 0 (.t 5))),
 (oQ 16 (.ld1 (.t 15))),
 (oQ 17 (.len false (.t 16))),
 (oQ 18 (.fa 1 (.t 5))),
 (oQ 19 (.ld1 (.t 18))),
 (oQ 20 (.len false (.t 19))),
 (oQ 21 (.bin .mul (.t 17) (.t 20))),
 (oQ 22 (.bin .mul (.t 14) (.t 21))),
 (oQ 3 (.mv (.t 22)))])))
 (.reg [(oQ 23 (.bin .add (.t 10) (iQ 1))),
 (oQ 10 (.mv (.t 23)))])))))))
 (.seq (.reg [(oQ 24 (.mv (.t 3))),
 (oQ 2 (.mv (.t 24)))])
 .ret))))⟩
def A_ground_class_count:Nat→Ty := tyAt [.un,.un]
abbrev P_ground_class_count:List PSh := [.agg (.sl (.pr (.sl tQ) (.sl tQ)))]
abbrev R_ground_class_count:List PSh := [.one tQ]
theorem e_ground_class_count:cFn Try.prog 94 = some F_ground_class_count.erase := by kernel_rfl
theorem k_ground_class_count:callable Try.prog 94 = true := by kernel_rfl
def F_ground_within:TFn := ⟨15,0,[.tmp 6],
 (.seq (.reg [(oQ 6 (.mv (.c (.p (.bool false)))))])
 (.seq (.reg [(oQ 7 (.mv (.t 1))),
 (oQ 8 (.mv (.t 0))),
 (oQ 9 (.bin .leq (.t 7) (.t 8))),
 (oQ 10 (.mv (.t 9))),
 (gQ 11 10 true (.mv (.t 0))),
 (gQ 12 10 true (.mv (.t 2))),
 (gQ 13 10 true (.bin .leq (.t 11) (.t 12))),
 (oQ 14 (.pick (.t 10) (.t 13) (.c (.p (.bool false))))),
 (oQ 6 (.mv (.t 14)))])
 .ret))⟩
def A_ground_within:Nat→Ty := tyAt []
abbrev P_ground_within:List PSh := [.one tQ,.one tQ,.one tQ]
abbrev R_ground_within:List PSh := [.one .bool]
theorem e_ground_within:cFn Try.prog 95 = some F_ground_within.erase := by kernel_rfl
theorem k_ground_within:callable Try.prog 95 = true := by kernel_rfl
def F_ground_class_model:TFn := ⟨39,10,[.celln 4 1],
 (.seq (.reg [(oQ 2 (.box 0 (.t 0))),
 (oQ 3 (.box 1 (.t 1))),
 (oQ 4 (.newz 2 [(.p (.sl 0 [] true))]))])
 (.seq (.reg [(oQ 9 (.fa 0 (.t 2))),
 (oQ 10 (.fa 0 (.t 9))),
 (oQ 11 (.ld1 (.t 10))),
 (oQ 12 (.len false (.t 11))),
 (oQ 13 (.mk 3 2 16 [zQ,zQ] (.t 12))),
 (oQ 5 (.newz 4 [(.p (.sl 0 [] true))])),
 (uQ (.st 1 (.t 5) (.t 13)))])
 (.seq (.reg [(oQ 14 (.clo 132 [(.t 3)])),
 (oQ 6 (.newz 5 [.und])),
 (uQ (.st 1 (.t 6) (.t 14)))])
 (.seq (.seq (.reg [(oQ 15 (.fa 0 (.t 2))),
 (oQ 16 (.fa 0 (.t 15))),
 (oQ 17 (.ld1 (.t 16))),
 (kQ 18 6 133 [(.t 17)])])
 (.block 0 (.rng (.t 18) [19,20] [19,20,7,8,21,22,23,24,25,26,27,28,29,30,31,32,33,34,35,36] [.c 1 tQ,.d 3 pQ] [1,3,7] [7] (.seq (.reg [(oQ 7 (.mv (.t 19)))])
 (.reg [(oQ 8 (.newz 7 [(.p (.sl 0 [] true)),(.p (.sl 0 [] true))])),
 (uQ (.st 2 (.t 8) (.t 20)))]))
 (.block 1 (.seq (.regd [(oQ 21 (.ld1 (.t 5))),
 (oQ 22 (.mv (.t 7))),
 (oQ 23 (.ld1 (.t 6))),
 (oQ 24 (.fa 1 (.t 8))),
 (oQ 25 (.ld1 (.t 24))),
 ⟨some 26,none,(.callv 8 (.t 23) [(.t 25)])⟩,
 (oQ 27 (.ia 2 (.t 21) (.t 22))),
 (oQ 28 (.fa 1 (.t 27))),
 (uQ (.st 1 (.t 28) (.t 26)))] [(0,2),(0,4),(2,4),(0,5)] [])
 (.regd [(oQ 29 (.ld1 (.t 5))),
 (oQ 30 (.mv (.t 7))),
 (oQ 31 (.ld1 (.t 6))),
 (oQ 32 (.fa 0 (.t 8))),
 (oQ 33 (.ld1 (.t 32))),
 ⟨some 34,none,(.callv 9 (.t 31) [(.t 33)])⟩,
 (oQ 35 (.ia 2 (.t 29) (.t 30))),
 (oQ 36 (.fa 0 (.t 35))),
 (uQ (.st 1 (.t 36) (.t 34)))] [(0,2),(0,4),(2,4),(0,5)] []))))))
 (.seq (.reg [(oQ 37 (.ld1 (.t 5))),
 (oQ 38 (.build [(.p (.sl 0 [] true))] [(0,1,(.t 37))])),
 (uQ (.st 1 (.t 4) (.t 38)))])
 .ret)))))⟩
def A_ground_class_model:Nat→Ty := tyAt [.un,.un,.un,pQ,.un,.un,.un,.un,.un,.un]
abbrev P_ground_class_model:List PSh := [.agg (.sl (.pr (.sl tQ) (.sl tQ))),.one tQ]
abbrev R_ground_class_model:List PSh := [.agg (.sl pQ)]
theorem e_ground_class_model:cFn Try.prog 96 = some F_ground_class_model.erase := by kernel_rfl
theorem k_ground_class_model:callable Try.prog 96 = true := by kernel_rfl
def F_ground_class_models:TFn := ⟨18,4,[],
 (.seq (.reg [(oQ 2 (.box 0 (.t 0)))])
 (.seq (.reg [(oQ 5 (.ldn 1 (.t 2))),
 (kQ 6 1 94 [(.t 5)]),
 (oQ 7 (.mv (iQ 0)))])
 (.block 0 (.loop [] [] [] (.seq (.reg [(oQ 8 (.bin .lss (.t 7) (.t 6)))])
 (.seq (.cond (.t 8) .skip (.exit 0))
 (.seq (.block 1 (.seq (.reg [(oQ 9 (.mv (.t 7))),
 (oQ 4 (.mv (.t 9)))])
 (.seq (.reg [(oQ 10 (.mv (.t 1))),
 (oQ 11 (.mv (.t 4))),
 (oQ 12 (.ldn 1 (.t 2))),
 (oQ 13 (.mv (.t 4))),
 (kQ 14 2 96 [(.t 12),(.t 13)]),
 ⟨some 15,none,(.callv 3 (.t 10) [(.t 11),(.t 14)])⟩,
 (oQ 16 (.unot (.t 15)))])
 (.cond (.t 16) .ret .skip))))
 (.reg [(oQ 17 (.bin .add (.t 7) (iQ 1))),
 (oQ 7 (.mv (.t 17)))]))))))))⟩
theorem e_ground_class_models:cFn Try.prog 97 = some F_ground_class_models.erase := by kernel_rfl
theorem k_ground_class_models:callI Try.prog 1000000097 = true := by kernel_rfl
def F_slices_Equalapi_GroundLayer_api_GroundLayer:TFn := ⟨26,0,[.tmp 4],
 (.seq (.reg [(oQ 4 (.mv (.c (.p (.bool false)))))])
 (.seq (.seq (.reg [(oQ 6 (.mv (.t 0))),
 (oQ 7 (.len false (.t 6))),
 (oQ 8 (.mv (.t 1))),
 (oQ 9 (.len false (.t 8))),
 (oQ 10 (.bin .neq (.t 7) (.t 9)))])
 (.cond (.t 10) (.seq (.reg [(oQ 4 (.mv (.c (.p (.bool false)))))])
 .ret) .skip))
 (.seq (.seq (.reg [(oQ 11 (.mv (.t 0))),
 (oQ 12 (.len false (.t 11))),
 (oQ 13 (.mv (iQ 0)))])
 (.block 0 (.loop [.v 13 tQ] [] [] (.seq (.reg [(oQ 14 (.bin .lss (.t 13) (.t 12)))])
 (.seq (.cond (.t 14) .skip (.exit 0))
 (.seq (.block 1 (.seq (.reg [(oQ 15 (.mv (.t 13))),
 (oQ 5 (.mv (.t 15)))])
 (.seq (.regd [(oQ 16 (.mv (.t 0))),
 (oQ 17 (.mv (.t 5))),
 (oQ 18 (.ia 2 (.t 16) (.t 17))),
 (oQ 19 (.ldn 2 (.t 18))),
 (oQ 20 (.mv (.t 1))),
 (oQ 21 (.mv (.t 5))),
 (oQ 22 (.ia 2 (.t 20) (.t 21))),
 (oQ 23 (.ldn 2 (.t 22))),
 (oQ 24 (.eqa true 2 [(true,0),(true,1)] (.t 19) (.t 23)))] [(3,7)] [])
 (.cond (.t 24) (.seq (.reg [(oQ 4 (.mv (.c (.p (.bool false)))))])
 .ret) .skip))))
 (.reg [(oQ 25 (.bin .add (.t 13) (iQ 1))),
 (oQ 13 (.mv (.t 25)))])))))))
 (.seq (.reg [(oQ 4 (.mv (.c (.p (.bool true)))))])
 .ret))))⟩
def A_slices_Equalapi_GroundLayer_api_GroundLayer:Nat→Ty := tyAt []
abbrev P_slices_Equalapi_GroundLayer_api_GroundLayer:List PSh := [.one (.sl pQ),.one (.sl pQ)]
abbrev R_slices_Equalapi_GroundLayer_api_GroundLayer:List PSh := [.one .bool]
theorem e_slices_Equalapi_GroundLayer_api_GroundLayer:cFn Try.prog 98 = some F_slices_Equalapi_GroundLayer_api_GroundLayer.erase := by kernel_rfl
theorem k_slices_Equalapi_GroundLayer_api_GroundLayer:callable Try.prog 98 = true := by kernel_rfl
def F_ref04_choiceErr:TFn := ⟨47,2,[.tmp 4],
 (.seq (.reg [(oQ 4 (.mv (iQ 0)))])
 (.seq (.seq (.reg [(oQ 5 (.mv (iQ 0)))])
 (.block 0 (.loop [.v 5 tQ] [] [] (.seq (.seq (.reg [(oQ 6 (.mv (.t 5))),
 (oQ 7 (.mv (.t 0))),
 (oQ 8 (.len false (.t 7))),
 (oQ 9 (.bin .lss (.t 6) (.t 8)))])
 (.cond (.t 9) .skip (.exit 0)))
 (.seq (.block 1 (.seq (.seq (.reg [(oQ 12 (.mv (.t 1))),
 (oQ 13 (.mv (.t 12))),
 (gQ 14 13 true (.mv (.t 0))),
 (gQ 15 13 true (.mv (.t 5))),
 (gQ 16 13 true (.ia 1 (.t 14) (.t 15))),
 (gQ 17 13 true (.ld1 (.t 16))),
 ⟨some 18,some (some 13,true),(.call 0 81 [(.t 17)])⟩,
 (gQ 19 13 true (.unot (.t 18))),
 (oQ 20 (.pick (.t 13) (.t 19) (.c (.p (.bool false))))),
 (oQ 21 (.mv (.t 20))),
 (gQ 22 21 false (.mv (.t 1))),
 (gQ 23 21 false (.unot (.t 22))),
 (gQ 24 21 false (.mv (.t 23))),
 (gQ 25 24 true (.mv (.t 0))),
 (gQ 26 24 true (.mv (.t 5))),
 (gQ 27 24 true (.ia 1 (.t 25) (.t 26))),
 (gQ 28 24 true (.ld1 (.t 27))),
 ⟨some 29,some (some 24,true),(.call 1 82 [(.t 28)])⟩,
 (gQ 30 24 true (.unot (.t 29))),
 (gQ 31 21 false (.pick (.t 24) (.t 30) (.c (.p (.bool false))))),
 (oQ 32 (.pick (.t 21) (.c (.p (.bool true))) (.t 31)))])
 (.cond (.t 32) (.seq (.reg [(oQ 4 (.mv (iQ 2)))])
 .ret) .skip))
 (.seq (.regd [(oQ 33 (.mv (.t 5))),
 (oQ 34 (.bin .gtr (.t 33) (iQ 0))),
 (oQ 35 (.mv (.t 34))),
 (gQ 36 35 true (.mv (.t 0))),
 (gQ 37 35 true (.mv (.t 5))),
 (gQ 38 35 true (.ia 1 (.t 36) (.t 37))),
 (gQ 39 35 true (.ld1 (.t 38))),
 (gQ 40 35 true (.mv (.t 0))),
 (gQ 41 35 true (.mv (.t 5))),
 (gQ 42 35 true (.bin .sub (.t 41) (iQ 1))),
 (gQ 43 35 true (.ia 1 (.t 40) (.t 42))),
 (gQ 44 35 true (.ld1 (.t 43))),
 (gQ 45 35 true (.bin .leq (.t 39) (.t 44))),
 (oQ 46 (.pick (.t 35) (.t 45) (.c (.p (.bool false)))))] [(6,11)] [])
 (.cond (.t 46) (.seq (.reg [(oQ 4 (.mv (iQ 9)))])
 .ret) .skip))))
 (.reg [(oQ 10 (.mv (.t 5))),
 (oQ 11 (.bin .add (.t 10) (iQ 1))),
 (oQ 5 (.mv (.t 11)))]))))))
 (.seq (.reg [(oQ 4 (.mv (iQ 0)))])
 .ret)))⟩
def A_ref04_choiceErr:Nat→Ty := tyAt [.un,.un]
abbrev P_ref04_choiceErr:List PSh := [.one (.sl tQ),.one .bool]
abbrev R_ref04_choiceErr:List PSh := [.one tQ]
theorem e_ref04_choiceErr:cFn Try.prog 99 = some F_ref04_choiceErr.erase := by kernel_rfl
theorem k_ref04_choiceErr:callable Try.prog 99 = true := by kernel_rfl
def F_ground_dataErr:TFn := ⟨11,1,[.tmp 2],
 (.seq (.reg [(oQ 2 (.mv (iQ 0)))])
 (.seq (.reg [(oQ 6 (.mv (.t 0))),
 (kQ 7 0 52 [(.t 6)]),
 (oQ 5 (.mv (.t 7))),
 (oQ 8 (.ext 0 (.t 5))),
 (oQ 9 (.ext 1 (.t 5))),
 (oQ 3 (.mv (.t 8))),
 (oQ 4 (.mv (.t 9)))])
 (.seq (.reg [(oQ 10 (.mv (.t 4))),
 (oQ 2 (.mv (.t 10)))])
 .ret)))⟩
theorem e_ground_dataErr:cFn Try.prog 101 = some F_ground_dataErr.erase := by kernel_rfl
def F_ground_below:TFn := ⟨15,2,[.tmp 4],
 (.seq (.reg [(oQ 2 (.box 0 (.t 0))),
 (oQ 3 (.box 1 (.t 1))),
 (oQ 4 (.mv (.c (.p (.bool false)))))])
 (.seq (.reg [(oQ 5 (.fa 0 (.t 2))),
 (oQ 6 (.ld1 (.t 5))),
 (oQ 7 (.bin .mul (iQ 1000) (.t 6))),
 (oQ 8 (.fa 1 (.t 3))),
 (oQ 9 (.fa 0 (.t 8))),
 (oQ 10 (.ld1 (.t 9))),
 (oQ 11 (.fa 1 (.t 2))),
 (oQ 12 (.ld1 (.t 11))),
 (oQ 13 (.bin .mul (.t 10) (.t 12))),
 (oQ 14 (.bin .lss (.t 7) (.t 13))),
 (oQ 4 (.mv (.t 14)))])
 .ret))⟩
theorem e_ground_below:cFn Try.prog 102 = some F_ground_below.erase := by kernel_rfl
def F_ground_beyond:TFn := ⟨15,2,[.tmp 4],
 (.seq (.reg [(oQ 2 (.box 0 (.t 0))),
 (oQ 3 (.box 1 (.t 1))),
 (oQ 4 (.mv (.c (.p (.bool false)))))])
 (.seq (.reg [(oQ 5 (.fa 0 (.t 2))),
 (oQ 6 (.ld1 (.t 5))),
 (oQ 7 (.bin .mul (iQ 1000) (.t 6))),
 (oQ 8 (.fa 1 (.t 3))),
 (oQ 9 (.fa 1 (.t 8))),
 (oQ 10 (.ld1 (.t 9))),
 (oQ 11 (.fa 1 (.t 2))),
 (oQ 12 (.ld1 (.t 11))),
 (oQ 13 (.bin .mul (.t 10) (.t 12))),
 (oQ 14 (.bin .gtr (.t 7) (.t 13))),
 (oQ 4 (.mv (.t 14)))])
 .ret))⟩
theorem e_ground_beyond:cFn Try.prog 103 = some F_ground_beyond.erase := by kernel_rfl
def F_ground_explainsAll:TFn := ⟨9,2,[.tmp 4],
 (.seq (.reg [(oQ 2 (.box 0 (.t 0))),
 (oQ 4 (.mv (.c (.p (.bool false)))))])
 (.seq (.reg [(oQ 5 (.mv (.t 1))),
 (oQ 6 (.clo 136 [(.t 2)])),
 (kQ 7 1 135 [(.t 5),(.t 6)]),
 (oQ 8 (.unot (.t 7))),
 (oQ 4 (.mv (.t 8)))])
 .ret))⟩
theorem e_ground_explainsAll:cFn Try.prog 106 = some F_ground_explainsAll.erase := by kernel_rfl
def F_ground_openData:TFn := ⟨19,7,[.celln 4 1,.tmp 5],
 (.seq (.reg [(oQ 2 (.box 0 (.t 0))),
 (oQ 4 (.newz 1 [(.p (.sl 0 [] true))])),
 (oQ 5 (.mv (iQ 0)))])
 (.seq (.reg [(oQ 9 (.ldn 1 (.t 2))),
 (kQ 10 2 93 [(.t 9)]),
 (oQ 8 (.mv (.t 10))),
 (oQ 11 (.ext 0 (.t 8))),
 (oQ 12 (.ext 1 (.t 8))),
 (oQ 6 (.newz 3 [(.p (.sl 0 [] true))])),
 (uQ (.st 1 (.t 6) (.t 11))),
 (oQ 7 (.mv (.t 12)))])
 (.seq (.regd [(oQ 13 (.ldn 1 (.t 6))),
 (oQ 14 (.mv (.t 7))),
 (oQ 15 (.mv (.t 1))),
 (kQ 16 4 101 [(.t 15)]),
 (oQ 17 (.bsl false 5 1 2 [zQ,zQ] [(0,1,(.t 14)),(1,1,(.t 16))])),
 (kQ 18 6 73 [(.t 17)]),
 (uQ (.st 1 (.t 4) (.t 13))),
 (oQ 5 (.mv (.t 18)))] [(0,3),(0,5)] [])
 .ret)))⟩
theorem e_ground_openData:cFn Try.prog 107 = some F_ground_openData.erase := by kernel_rfl
def F_ground_class_explained:TFn := ⟨20,7,[.tmp 4],
 (.seq (.reg [(oQ 2 (.box 0 (.t 0))),
 (oQ 3 (.box 1 (.t 1))),
 (oQ 4 (.mv (.c (.p (.sl 0 [] true)))))])
 (.seq (.reg [(oQ 5 (.newz 2 [(.p (.sl 0 [] true))]))])
 (.seq (.seq (.reg [(oQ 8 (.ldn 1 (.t 2))),
 (oQ 9 (.bnd 1000000097 (.t 8)))])
 (.block 0 (.rng (.t 9) [10,11] [10,11,6,7,12,13,14,15,16,17,18] [.q 2 6 tQ] [2,3,6] [3,6] (.seq (.reg [(oQ 6 (.mv (.t 10)))])
 (.reg [(oQ 7 (.newz 3 [(.p (.sl 0 [] true))])),
 (uQ (.st 1 (.t 7) (.t 11)))]))
 (.block 1 (.seq (.reg [(oQ 12 (.ldn 1 (.t 7))),
 (oQ 13 (.ld1 (.t 3))),
 (kQ 14 4 106 [(.t 12),(.t 13)])])
 (.cond (.t 14) (.reg [(oQ 15 (.ld1 (.t 5))),
 (oQ 16 (.mv (.t 6))),
 (oQ 17 (.bsl false 5 1 1 [zQ] [(0,1,(.t 16))])),
 (oQ 18 (.app 6 1 8 (.t 15) (.t 17))),
 (uQ (.st 1 (.t 5) (.t 18)))]) .skip))))))
 (.seq (.reg [(oQ 19 (.ld1 (.t 5))),
 (oQ 4 (.mv (.t 19)))])
 .ret))))⟩
theorem e_ground_class_explained:cFn Try.prog 108 = some F_ground_class_explained.erase := by kernel_rfl
def F_ground_CheckData_1:TFn := ⟨5,1,[.tmp 2],
 (.seq (.reg [(oQ 2 (.mv (.c (.p (.bool false)))))])
 (.seq (.reg [(oQ 3 (.mv (.t 0))),
 (kQ 4 0 95 [(.t 3),(iQ 0),(iQ 100000)]),
 (oQ 2 (.mv (.t 4)))])
 .ret))⟩
theorem e_ground_CheckData_1:cFn Try.prog 110 = some F_ground_CheckData_1.erase := by kernel_rfl
def F_ground_disagree:TFn := ⟨37,4,[.tmp 6],
 (.seq (.reg [(oQ 3 (.box 0 (.t 0))),
 (oQ 4 (.box 1 (.t 1))),
 (oQ 6 (.mv (.c (.p (.bool false)))))])
 (.seq (.seq (.reg [(oQ 10 (.fa 0 (.t 3))),
 (oQ 11 (.ld1 (.t 10))),
 (oQ 12 (.len false (.t 11))),
 (oQ 13 (.mv (iQ 0)))])
 (.block 0 (.loop [.v 13 tQ] [2,3] [2,3] (.seq (.reg [(oQ 14 (.bin .lss (.t 13) (.t 12)))])
 (.seq (.cond (.t 14) .skip (.exit 0))
 (.seq (.block 1 (.seq (.reg [(oQ 15 (.mv (.t 13))),
 (oQ 16 (.ia 2 (.t 11) (.t 13))),
 (oQ 17 (.ldn 2 (.t 16))),
 (oQ 8 (.newz 2 [zQ,zQ])),
 (oQ 7 (.mv (.t 15))),
 (uQ (.st 2 (.t 8) (.t 17)))])
 (.seq (.reg [(oQ 18 (.fa 0 (.t 4))),
 (oQ 19 (.ld1 (.t 18))),
 (oQ 20 (.mv (.t 7))),
 (oQ 21 (.ia 2 (.t 19) (.t 20))),
 (oQ 22 (.ldn 2 (.t 21))),
 (oQ 9 (.newz 3 [zQ,zQ])),
 (uQ (.st 2 (.t 9) (.t 22)))])
 (.seq (.reg [(oQ 23 (.fa 0 (.t 8))),
 (oQ 24 (.ld1 (.t 23))),
 (oQ 25 (.fa 0 (.t 9))),
 (oQ 26 (.ld1 (.t 25))),
 (oQ 27 (.mm true (.t 24) (.t 26))),
 (oQ 28 (.fa 0 (.t 8))),
 (oQ 29 (.ld1 (.t 28))),
 (oQ 30 (.fa 0 (.t 9))),
 (oQ 31 (.ld1 (.t 30))),
 (oQ 32 (.mm false (.t 29) (.t 31))),
 (oQ 33 (.bin .sub (.t 27) (.t 32))),
 (oQ 34 (.mv (.t 2))),
 (oQ 35 (.bin .geq (.t 33) (.t 34)))])
 (.cond (.t 35) (.seq (.reg [(oQ 6 (.mv (.c (.p (.bool true)))))])
 .ret) .skip)))))
 (.reg [(oQ 36 (.bin .add (.t 13) (iQ 1))),
 (oQ 13 (.mv (.t 36)))])))))))
 (.seq (.reg [(oQ 6 (.mv (.c (.p (.bool false)))))])
 .ret)))⟩
theorem e_ground_disagree:cFn Try.prog 124 = some F_ground_disagree.erase := by kernel_rfl
def F_slices_Backwardapi_GroundLayer_api_GroundLayer:TFn := ⟨4,1,[.tmp 2],
 (.seq (.reg [(oQ 1 (.box 0 (.t 0))),
 (oQ 2 (.mv (.c .und)))])
 (.seq (.reg [(oQ 3 (.clo 144 [(.t 1)])),
 (oQ 2 (.mv (.t 3)))])
 .ret))⟩
theorem e_slices_Backwardapi_GroundLayer_api_GroundLayer:cFn Try.prog 125 = some F_slices_Backwardapi_GroundLayer_api_GroundLayer.erase := by kernel_rfl
def F_slices_Backwardapi_GroundLayer_api_GroundLayer_1:TFn := ⟨19,1,[],
 (.seq (.reg [(oQ 4 (.ld1 (.t 1))),
 (oQ 5 (.len false (.t 4))),
 (oQ 6 (.bin .sub (.t 5) (iQ 1))),
 (oQ 3 (.mv (.t 6)))])
 (.block 0 (.loop [] [] [] (.seq (.seq (.reg [(oQ 7 (.mv (.t 3))),
 (oQ 8 (.bin .geq (.t 7) (iQ 0)))])
 (.cond (.t 8) .skip (.exit 0)))
 (.seq (.block 1 (.seq (.reg [(oQ 11 (.mv (.t 0))),
 (oQ 12 (.mv (.t 3))),
 (oQ 13 (.ld1 (.t 1))),
 (oQ 14 (.mv (.t 3))),
 (oQ 15 (.ia 2 (.t 13) (.t 14))),
 (oQ 16 (.ldn 2 (.t 15))),
 ⟨some 17,none,(.callv 0 (.t 11) [(.t 12),(.t 16)])⟩,
 (oQ 18 (.unot (.t 17)))])
 (.cond (.t 18) .ret .skip)))
 (.reg [(oQ 9 (.mv (.t 3))),
 (oQ 10 (.bin .sub (.t 9) (iQ 1))),
 (oQ 3 (.mv (.t 10)))]))))))⟩
theorem e_slices_Backwardapi_GroundLayer_api_GroundLayer_1:cFn Try.prog 144 = some F_slices_Backwardapi_GroundLayer_api_GroundLayer_1.erase := by kernel_rfl
def F_ground_reduced:TFn := ⟨16,2,[.celln 4 2],
 (.seq (.reg [(oQ 4 (.newz 0 [zQ,zQ]))])
 (.seq (.reg [(oQ 6 (.mv (.t 0))),
 (oQ 7 (.mv (.t 1))),
 (kQ 8 1 145 [(.t 6),(.t 7)]),
 (oQ 5 (.mv (.t 8)))])
 (.seq (.regd [(oQ 9 (.mv (.t 0))),
 (oQ 10 (.mv (.t 5))),
 (oQ 11 (.bin .quo (.t 9) (.t 10))),
 (oQ 12 (.mv (.t 1))),
 (oQ 13 (.mv (.t 5))),
 (oQ 14 (.bin .quo (.t 12) (.t 13))),
 (oQ 15 (.build [zQ,zQ] [(0,1,(.t 11)),(1,1,(.t 14))])),
 (uQ (.st 2 (.t 4) (.t 15)))] [] [])
 .ret)))⟩
theorem e_ground_reduced:cFn Try.prog 126 = some F_ground_reduced.erase := by kernel_rfl
def F_slices_Backwardapi_GroundChoice_api_GroundChoice:TFn := ⟨4,1,[.tmp 2],
 (.seq (.reg [(oQ 1 (.box 0 (.t 0))),
 (oQ 2 (.mv (.c .und)))])
 (.seq (.reg [(oQ 3 (.clo 152 [(.t 1)])),
 (oQ 2 (.mv (.t 3)))])
 .ret))⟩
def A_slices_Backwardapi_GroundChoice_api_GroundChoice:Nat→Ty := tyAt [.un]
abbrev P_slices_Backwardapi_GroundChoice_api_GroundChoice:List PSh := [.one (.sl (.pr (.sl tQ) (.sl tQ)))]
abbrev R_slices_Backwardapi_GroundChoice_api_GroundChoice:List PSh := [.fn 152 [(.sl (.pr (.sl tQ) (.sl tQ)))]]
theorem e_slices_Backwardapi_GroundChoice_api_GroundChoice:cFn Try.prog 133 = some F_slices_Backwardapi_GroundChoice_api_GroundChoice.erase := by kernel_rfl
theorem k_slices_Backwardapi_GroundChoice_api_GroundChoice:callable Try.prog 133 = true := by kernel_rfl
def F_slices_Backwardapi_GroundChoice_api_GroundChoice_1:TFn := ⟨19,1,[],
 (.seq (.reg [(oQ 4 (.ld1 (.t 1))),
 (oQ 5 (.len false (.t 4))),
 (oQ 6 (.bin .sub (.t 5) (iQ 1))),
 (oQ 3 (.mv (.t 6)))])
 (.block 0 (.loop [] [] [] (.seq (.seq (.reg [(oQ 7 (.mv (.t 3))),
 (oQ 8 (.bin .geq (.t 7) (iQ 0)))])
 (.cond (.t 8) .skip (.exit 0)))
 (.seq (.block 1 (.seq (.reg [(oQ 11 (.mv (.t 0))),
 (oQ 12 (.mv (.t 3))),
 (oQ 13 (.ld1 (.t 1))),
 (oQ 14 (.mv (.t 3))),
 (oQ 15 (.ia 2 (.t 13) (.t 14))),
 (oQ 16 (.ldn 2 (.t 15))),
 ⟨some 17,none,(.callv 0 (.t 11) [(.t 12),(.t 16)])⟩,
 (oQ 18 (.unot (.t 17)))])
 (.cond (.t 18) .ret .skip)))
 (.reg [(oQ 9 (.mv (.t 3))),
 (oQ 10 (.bin .sub (.t 9) (iQ 1))),
 (oQ 3 (.mv (.t 10)))]))))))⟩
theorem e_slices_Backwardapi_GroundChoice_api_GroundChoice_1:cFn Try.prog 152 = some F_slices_Backwardapi_GroundChoice_api_GroundChoice_1.erase := by kernel_rfl
theorem k_slices_Backwardapi_GroundChoice_api_GroundChoice_1:callI Try.prog 152 = true := by kernel_rfl
def F_ground_class_model_1:TFn := ⟨17,0,[.tmp 3],
 (.seq (.reg [(oQ 3 (.mv (iQ 0)))])
 (.seq (.reg [(oQ 5 (.mv (.t 0))),
 (oQ 6 (.ld1 (.t 1))),
 (oQ 7 (.mv (.t 0))),
 (oQ 8 (.len false (.t 7))),
 (oQ 9 (.bin .rem (.t 6) (.t 8))),
 (oQ 10 (.ia 1 (.t 5) (.t 9))),
 (oQ 11 (.ld1 (.t 10))),
 (oQ 4 (.mv (.t 11)))])
 (.seq (.reg [(oQ 12 (.ld1 (.t 1))),
 (oQ 13 (.mv (.t 0))),
 (oQ 14 (.len false (.t 13))),
 (oQ 15 (.bin .quo (.t 12) (.t 14))),
 (uQ (.st 1 (.t 1) (.t 15)))])
 (.seq (.reg [(oQ 16 (.mv (.t 4))),
 (oQ 3 (.mv (.t 16)))])
 .ret))))⟩
def A_ground_class_model_1:Nat→Ty := tyAt [.un]
abbrev U_ground_class_model_1:Ty := (.sl tQ)
abbrev T_ground_class_model_1:Ty := tQ
abbrev V_ground_class_model_1:Ty := tQ
theorem e_ground_class_model_1:cFnM Try.prog 132 = some F_ground_class_model_1.erase := by kernel_rfl
theorem k_ground_class_model_1:callable Try.prog 132 = true := by kernel_rfl
def F_slices_ContainsFuncapi_GroundDatum_api_GroundDatum__ground_explainsAll_1:TFn := ⟨9,1,[.tmp 4],
 (.seq (.reg [(oQ 4 (.mv (.c (.p (.bool false)))))])
 (.seq (.reg [(oQ 5 (.mv (.t 0))),
 (oQ 6 (.mv (.t 1))),
 (kQ 7 0 154 [(.t 5),(.t 6)]),
 (oQ 8 (.bin .geq (.t 7) (iQ 0))),
 (oQ 4 (.mv (.t 8)))])
 .ret))⟩
theorem e_slices_ContainsFuncapi_GroundDatum_api_GroundDatum__ground_explainsAll_1:cFn Try.prog 135 = some F_slices_ContainsFuncapi_GroundDatum_api_GroundDatum__ground_explainsAll_1.erase := by kernel_rfl
def F_ground_divisor:TFn := ⟨13,0,[.tmp 4],
 (.seq (.reg [(oQ 4 (.mv (iQ 0)))])
 (.seq (.block 0 (.loop [.v 1 tQ,.v 0 tQ] [] [] (.seq (.seq (.reg [(oQ 5 (.mv (.t 1))),
 (oQ 6 (.bin .neq (.t 5) (iQ 0)))])
 (.cond (.t 6) .skip (.exit 0)))
 (.block 1 (.regd [(oQ 7 (.mv (.t 1))),
 (oQ 8 (.mv (.t 0))),
 (oQ 9 (.mv (.t 1))),
 (oQ 10 (.bin .rem (.t 8) (.t 9))),
 (oQ 0 (.mv (.t 7))),
 (oQ 1 (.mv (.t 10)))] [] [])))))
 (.seq (.reg [(oQ 11 (.mv (.t 0))),
 (oQ 12 (.mm true (.t 11) (iQ 1))),
 (oQ 4 (.mv (.t 12)))])
 .ret)))⟩
theorem e_ground_divisor:cFn Try.prog 145 = some F_ground_divisor.erase := by kernel_rfl
def F_slices_IndexFuncapi_GroundDatum_api_GroundDatum__ground_explainsAll_1:TFn := ⟨19,1,[.tmp 4],
 (.seq (.reg [(oQ 4 (.mv (iQ 0)))])
 (.seq (.seq (.reg [(oQ 6 (.mv (.t 0))),
 (oQ 7 (.len false (.t 6))),
 (oQ 8 (.mv (iQ 0)))])
 (.block 0 (.loop [.v 8 tQ] [] [] (.seq (.reg [(oQ 9 (.bin .lss (.t 8) (.t 7)))])
 (.seq (.cond (.t 9) .skip (.exit 0))
 (.seq (.block 1 (.seq (.reg [(oQ 10 (.mv (.t 8))),
 (oQ 5 (.mv (.t 10)))])
 (.seq (.reg [(oQ 11 (.mv (.t 1))),
 (oQ 12 (.mv (.t 0))),
 (oQ 13 (.mv (.t 5))),
 (oQ 14 (.ia 3 (.t 12) (.t 13))),
 (oQ 15 (.ldn 3 (.t 14))),
 ⟨some 16,none,(.callv 0 (.t 11) [(.t 15)])⟩])
 (.cond (.t 16) (.seq (.reg [(oQ 17 (.mv (.t 5))),
 (oQ 4 (.mv (.t 17)))])
 .ret) .skip))))
 (.reg [(oQ 18 (.bin .add (.t 8) (iQ 1))),
 (oQ 8 (.mv (.t 18)))])))))))
 (.seq (.reg [(oQ 4 (.mv (iQ (-1))))])
 .ret)))⟩
theorem e_slices_IndexFuncapi_GroundDatum_api_GroundDatum__ground_explainsAll_1:cFn Try.prog 154 = some F_slices_IndexFuncapi_GroundDatum_api_GroundDatum__ground_explainsAll_1.erase := by kernel_rfl
def F_ground_explainsAll_1:TFn := ⟨8,2,[.tmp 3],
 (.seq (.reg [(oQ 2 (.box 0 (.t 0))),
 (oQ 3 (.mv (.c (.p (.bool false)))))])
 (.seq (.reg [(oQ 4 (.ldn 1 (.t 1))),
 (oQ 5 (.ldn 3 (.t 2))),
 (kQ 6 1 137 [(.t 4),(.t 5)]),
 (oQ 7 (.unot (.t 6))),
 (oQ 3 (.mv (.t 7)))])
 .ret))⟩
theorem e_ground_explainsAll_1:cFn Try.prog 136 = some F_ground_explainsAll_1.erase := by kernel_rfl
def F_ground_explains:TFn := ⟨21,6,[.tmp 4],
 (.seq (.reg [(oQ 2 (.box 0 (.t 0))),
 (oQ 3 (.box 1 (.t 1))),
 (oQ 4 (.mv (.c (.p (.bool false)))))])
 (.seq (.reg [(oQ 6 (.fa 0 (.t 2))),
 (oQ 7 (.ld1 (.t 6))),
 (oQ 8 (.fa 0 (.t 3))),
 (oQ 9 (.ld1 (.t 8))),
 (kQ 10 2 79 [(.t 7),(.t 9)]),
 (oQ 5 (.newz 3 [zQ,zQ])),
 (uQ (.st 2 (.t 5) (.t 10)))])
 (.seq (.reg [(oQ 11 (.ldn 2 (.t 5))),
 (oQ 12 (.ldn 3 (.t 3))),
 (kQ 13 4 102 [(.t 11),(.t 12)]),
 (oQ 14 (.unot (.t 13))),
 (oQ 15 (.mv (.t 14))),
 (gQ 16 15 true (.ldn 2 (.t 5))),
 (gQ 17 15 true (.ldn 3 (.t 3))),
 ⟨some 18,some (some 15,true),(.call 5 103 [(.t 16),(.t 17)])⟩,
 (gQ 19 15 true (.unot (.t 18))),
 (oQ 20 (.pick (.t 15) (.t 19) (.c (.p (.bool false))))),
 (oQ 4 (.mv (.t 20)))])
 .ret)))⟩
theorem e_ground_explains:cFn Try.prog 137 = some F_ground_explains.erase := by kernel_rfl
end Go.Proofs.Ytehblgccaiiikaa
