/- The code of the functions that GroundExplained reaches, as it is walked: each equals what the given program's text gives. -/
import Derived.Test.YtehblgccaiiikaaGreatGg2GroundExplained
import Derived.Test.YtehblgccaiiikaaGreatProg
import Derived.KernelRfl
namespace Go.Proofs.YtehblgccaiiikaaGreat
open Go Go.Mx
set_option maxRecDepth 100000
abbrev mQ (d x:Nat):AIns := ⟨some d,none,.op (.mv (.t x))⟩
abbrev fQ (d f x:Nat):AIns := ⟨some d,none,.op (.fa f (.t x))⟩
abbrev lQ (d x:Nat):AIns := ⟨some d,none,.op (.ld1 (.t x))⟩
abbrev nQ (d n x:Nat):AIns := ⟨some d,none,.op (.ldn n (.t x))⟩
abbrev hQ (d x:Nat):AIns := ⟨some d,none,.op (.len false (.t x))⟩
abbrev sQ (n x v:Nat):AIns := ⟨none,none,.op (.st n (.t x) (.t v))⟩
abbrev jQ (d k x i:Nat):AIns := ⟨some d,none,.op (.ia k (.t x) (.t i))⟩
abbrev bQ (d:Nat) (b:BinOp) (x y:Nat):AIns := ⟨some d,none,.op (.bin b (.t x) (.t y))⟩
abbrev cQ (d:Nat) (b:BinOp) (x:Nat) (n:Int):AIns := ⟨some d,none,.op (.bin b (.t x) (.c (.p (.int .i64 n))))⟩
abbrev vQ (d g:Nat) (b:Bool) (x:Nat):AIns := ⟨some d,some (some g,b),.op (.mv (.t x))⟩
abbrev cF:Opd := .c (.p (.bool false))
abbrev cT:Opd := .c (.p (.bool true))
abbrev oQ (d:Nat) (o:AOp):AIns := ⟨some d,none,.op o⟩
abbrev uQ (o:AOp):AIns := ⟨none,none,.op o⟩
abbrev gQ (d g:Nat) (b:Bool) (o:AOp):AIns := ⟨some d,some (some g,b),.op o⟩
abbrev kQ (d s f:Nat) (a:List Opd):AIns := ⟨some d,none,.call s f a⟩
abbrev iQ (n:Int):Opd := .c (.p (.int .i64 n))
abbrev zQ:V := .p (.int .i64 0)
abbrev tQ:Ty := .int .i64
abbrev pQ:Ty := .pr tQ tQ
def F_Z0:TFn := ⟨171,24,[.tmp 6],(.seq (.reg [(oQ 3 (.box 0 (.t 0))),(oQ 6 (.mv cF))])
 (.seq (.seq (.reg [(kQ 17 1 6 []),(oQ 18 (.unot (.t 17)))])
 (.cond (.t 18) (.seq (.reg [(oQ 6 (.mv cF))])
 .ret) .skip))
 (.seq (.seq (.reg [(nQ 19 1 3),(kQ 20 2 7 [(.t 19)]),(oQ 21 (.unot (.t 20))),(mQ 22 21),(gQ 23 22 false (.ldn 1 (.t 3))),⟨some 24,some (some 22,false),(.call 3 8 [(.t 23)])⟩,(gQ 25 22 false (.unot (.t 24))),(oQ 26 (.pick (.t 22) cT (.t 25))),(mQ 27 26),(vQ 28 27 false 1),⟨some 29,some (some 27,false),(.call 4 9 [(.t 28)])⟩,(gQ 30 27 false (.unot (.t 29))),(oQ 31 (.pick (.t 27) cT (.t 30)))])
 (.cond (.t 31) (.seq (.reg [(oQ 6 (.mv cT))])
 .ret) .skip))
 (.seq (.reg [(nQ 33 1 3),(kQ 34 5 11 [(.t 33)]),(mQ 35 1),(kQ 36 6 12 [(.t 35)]),(kQ 37 7 10 [(.t 34),(.t 36)]),(mQ 32 37),(oQ 38 (.ext 0 (.t 32))),(oQ 39 (.ext 1 (.t 32))),(mQ 7 38),(mQ 8 39)])
 (.seq (.reg [(nQ 41 1 3),(kQ 42 8 11 [(.t 41)]),(mQ 43 1),(kQ 44 9 12 [(.t 43)]),(kQ 45 10 13 [(.t 42),(.t 44)]),(mQ 40 45),(oQ 46 (.ext 0 (.t 40))),(oQ 47 (.ext 1 (.t 40))),(mQ 9 46),(mQ 10 47)])
 (.seq (.reg [(nQ 49 1 3),(kQ 50 11 11 [(.t 49)]),(mQ 51 1),(kQ 52 12 12 [(.t 51)]),(mQ 53 2),(kQ 54 13 14 [(.t 50),(.t 52),(.t 53)]),(mQ 48 54),(oQ 55 (.ext 0 (.t 48))),(oQ 56 (.ext 1 (.t 48))),(oQ 11 (.newz 14 [zQ,zQ])),(sQ 2 11 55),(mQ 12 56)])
 (.seq (.reg [(nQ 57 1 3),(kQ 58 15 15 [(.t 57)]),(mQ 13 58)])
 (.seq (.seq (.reg [(mQ 59 13),(cQ 60 .eql 59 0)])
 (.cond (.t 60) (.reg [(mQ 61 1),(kQ 62 16 16 [(.t 61)]),(mQ 13 62)]) .skip))
 (.seq (.seq (.reg [(mQ 63 13),(cQ 64 .neq 63 0)])
 (.cond (.t 64) (.seq (.reg [(mQ 65 8),(mQ 66 13),(bQ 67 .eql 65 66),(mQ 68 67),(vQ 69 68 true 10),(vQ 70 68 true 13),(gQ 71 68 true (.bin .eql (.t 69) (.t 70))),(oQ 72 (.pick (.t 68) (.t 71) cF)),(mQ 73 72),(vQ 74 73 true 12),(vQ 75 73 true 13),(gQ 76 73 true (.bin .eql (.t 74) (.t 75))),(oQ 77 (.pick (.t 73) (.t 76) cF)),(mQ 78 77),(vQ 79 78 true 7),(gQ 80 78 true (.len false (.t 79))),(vQ 81 78 true 9),(gQ 82 78 true (.len false (.t 81))),(gQ 83 78 true (.bin .add (.t 80) (.t 82))),(gQ 84 78 true (.bin .eql (.t 83) (iQ 0))),(oQ 85 (.pick (.t 78) (.t 84) cF)),(mQ 86 85),(gQ 87 86 true (.ldn 2 (.t 11))),(gQ 88 86 true (.build [zQ,zQ] [])),(gQ 89 86 true (.eqa false 2 [(true,0),(true,1)] (.t 87) (.t 88))),(oQ 90 (.pick (.t 86) (.t 89) cF)),(mQ 6 90)])
 .ret) .skip))
 (.seq (.reg [(nQ 91 1 3),(mQ 92 1),(kQ 93 17 17 [(.t 91),(.t 92)]),(mQ 14 93)])
 (.seq (.seq (.reg [(mQ 94 8),(cQ 95 .neq 94 0),(mQ 96 95),(vQ 97 96 false 7),(vQ 98 96 false 14),⟨some 99,some (some 96,false),(.call 18 18 [(.t 97),(.t 98)])⟩,(gQ 100 96 false (.unot (.t 99))),(oQ 101 (.pick (.t 96) cT (.t 100)))])
 (.cond (.t 101) (.seq (.reg [(oQ 6 (.mv cF))])
 .ret) .skip))
 (.seq (.seq (.reg [(mQ 102 14),(hQ 103 102),(cQ 104 .eql 103 0),(mQ 105 104),(vQ 106 105 true 10),(gQ 107 105 true (.bin .neq (.t 106) (iQ 12))),(vQ 108 105 true 107),(vQ 109 108 false 9),(gQ 110 108 false (.len false (.t 109))),(gQ 111 108 false (.bin .neq (.t 110) (iQ 0))),(gQ 112 105 true (.pick (.t 108) cT (.t 111))),(oQ 113 (.pick (.t 105) (.t 112) cF)),(mQ 114 113),(vQ 115 114 false 14),(gQ 116 114 false (.len false (.t 115))),(gQ 117 114 false (.bin .gtr (.t 116) (iQ 0))),(vQ 118 114 false 117),(vQ 119 118 true 10),(gQ 120 118 true (.bin .neq (.t 119) (iQ 0))),(vQ 121 118 true 120),(vQ 122 121 false 9),(gQ 123 121 false (.ldn 1 (.t 3))),(vQ 124 121 false 14),⟨some 125,some (some 121,false),(.call 19 20 [(.t 123),(.t 124)])⟩,⟨some 126,some (some 121,false),(.call 20 19 [(.t 122),(.t 125)])⟩,(gQ 127 121 false (.unot (.t 126))),(gQ 128 118 true (.pick (.t 121) cT (.t 127))),(gQ 129 114 false (.pick (.t 118) (.t 128) cF)),(oQ 130 (.pick (.t 114) cT (.t 129)))])
 (.cond (.t 130) (.seq (.reg [(oQ 6 (.mv cF))])
 .ret) .skip))
 (.seq (.seq (.reg [(mQ 131 2),(kQ 132 21 21 [(.t 131),(iQ 1),(iQ 20)]),(oQ 133 (.unot (.t 132)))])
 (.cond (.t 133) (.seq (.reg [(mQ 134 12),(cQ 135 .eql 134 2),(mQ 136 135),(gQ 137 136 true (.ldn 2 (.t 11))),(gQ 138 136 true (.build [zQ,zQ] [])),(gQ 139 136 true (.eqa false 2 [(true,0),(true,1)] (.t 137) (.t 138))),(oQ 140 (.pick (.t 136) (.t 139) cF)),(mQ 6 140)])
 .ret) .skip))
 (.seq (.reg [(nQ 142 1 3),(mQ 143 14),(mQ 144 2),(kQ 145 22 22 [(.t 142),(.t 143),(.t 144)]),(mQ 141 145),(oQ 146 (.ext 0 (.t 141))),(oQ 147 (.ext 1 (.t 141))),(oQ 15 (.newz 23 [zQ,zQ])),(sQ 2 15 146),(mQ 16 147)])
 (.seq (.reg [(mQ 148 16),(mQ 149 148),(vQ 150 149 true 12),(gQ 151 149 true (.bin .eql (.t 150) (iQ 0))),(oQ 152 (.pick (.t 149) (.t 151) cF)),(mQ 153 152),(gQ 154 153 true (.ldn 2 (.t 11))),(gQ 155 153 true (.ldn 2 (.t 15))),(gQ 156 153 true (.eqa false 2 [(true,0),(true,1)] (.t 154) (.t 155))),(oQ 157 (.pick (.t 153) (.t 156) cF)),(mQ 158 157),(vQ 159 158 false 16),(gQ 160 158 false (.unot (.t 159))),(vQ 161 158 false 160),(vQ 162 161 true 12),(gQ 163 161 true (.bin .eql (.t 162) (iQ 12))),(gQ 164 158 false (.pick (.t 161) (.t 163) cF)),(vQ 165 158 false 164),(gQ 166 165 true (.ldn 2 (.t 11))),(gQ 167 165 true (.build [zQ,zQ] [])),(gQ 168 165 true (.eqa false 2 [(true,0),(true,1)] (.t 166) (.t 167))),(gQ 169 158 false (.pick (.t 165) (.t 168) cF)),(oQ 170 (.pick (.t 158) cT (.t 169))),(mQ 6 170)])
 .ret)))))))))))))))⟩
def A_Z0:Nat→Ty := tyAt [.un,.un,.un,.un,.un,.un,.un,.un,.un,.un,.un,.un,.un,.un,.un,.un,.un,.un,.un,.un,.un,.un,.un,.un]
abbrev P_Z0:List PSh := [.agg (.sl (.pr (.sl tQ) (.sl tQ))),.one (.sl (.pr tQ pQ)),.one tQ]
abbrev R_Z0:List PSh := [.one .bool]
theorem e_Z0:cFn Tryz.prog 3 = some F_Z0.erase := by kernel_rfl
theorem k_Z0:callable Tryz.prog 3 = true := by kernel_rfl
def F_Z2k:TFn := ⟨65,15,[.tmp 0],(.seq (.reg [(oQ 0 (.mv cF))])
 (.seq (.reg [(kQ 10 0 43 []),(kQ 11 1 42 [(.t 10),(iQ 2)]),(mQ 9 11),(oQ 12 (.ext 0 (.t 9))),(oQ 13 (.ext 1 (.t 9))),(oQ 1 (.newz 2 [zQ,zQ])),(sQ 2 1 12),(mQ 2 13)])
 (.seq (.reg [(kQ 15 3 44 []),(kQ 16 4 45 []),(kQ 17 5 10 [(.t 15),(.t 16)]),(mQ 14 17),(oQ 18 (.ext 0 (.t 14))),(oQ 19 (.ext 1 (.t 14))),(mQ 3 18),(mQ 4 19)])
 (.seq (.reg [(kQ 21 6 44 []),(kQ 22 7 45 []),(kQ 23 8 14 [(.t 21),(.t 22),(iQ 2)]),(mQ 20 23),(oQ 24 (.ext 0 (.t 20))),(oQ 25 (.ext 1 (.t 20))),(oQ 5 (.newz 9 [zQ,zQ])),(sQ 2 5 24),(mQ 6 25)])
 (.seq (.reg [(kQ 27 10 44 []),(kQ 28 11 43 []),(kQ 29 12 46 [(.t 27),(.t 28)]),(mQ 26 29),(oQ 30 (.ext 0 (.t 26))),(oQ 31 (.ext 1 (.t 26))),(mQ 7 30),(mQ 8 31)])
 (.seq (.reg [(mQ 32 2),(cQ 33 .eql 32 0),(mQ 34 33),(gQ 35 34 true (.ldn 2 (.t 1))),(gQ 36 34 true (.build [zQ,zQ] [(0,1,(iQ 8)),(1,1,(iQ 3))])),(gQ 37 34 true (.eqa false 2 [(true,0),(true,1)] (.t 35) (.t 36))),(oQ 38 (.pick (.t 34) (.t 37) cF)),(mQ 39 38),(vQ 40 39 true 4),(gQ 41 39 true (.bin .eql (.t 40) (iQ 0))),(oQ 42 (.pick (.t 39) (.t 41) cF)),(mQ 43 42),(vQ 44 43 true 3),(gQ 45 43 true (.bsl false 13 1 3 [zQ,zQ,zQ] [(0,1,(iQ 1)),(1,1,(iQ 3)),(2,1,(iQ 4))])),⟨some 46,some (some 43,true),(.call 14 18 [(.t 44),(.t 45)])⟩,(oQ 47 (.pick (.t 43) (.t 46) cF)),(mQ 48 47),(vQ 49 48 true 6),(gQ 50 48 true (.bin .eql (.t 49) (iQ 0))),(oQ 51 (.pick (.t 48) (.t 50) cF)),(mQ 52 51),(gQ 53 52 true (.ldn 2 (.t 5))),(gQ 54 52 true (.build [zQ,zQ] [(0,1,(iQ 1)),(1,1,(iQ 4))])),(gQ 55 52 true (.eqa false 2 [(true,0),(true,1)] (.t 53) (.t 54))),(oQ 56 (.pick (.t 52) (.t 55) cF)),(mQ 57 56),(vQ 58 57 true 8),(gQ 59 57 true (.bin .eql (.t 58) (iQ 0))),(oQ 60 (.pick (.t 57) (.t 59) cF)),(mQ 61 60),(vQ 62 61 true 7),(gQ 63 61 true (.bin .eql (.t 62) (iQ 4))),(oQ 64 (.pick (.t 61) (.t 63) cF)),(mQ 0 64)])
 .ret))))))⟩
abbrev P_Z2k:List PSh := []
abbrev R_Z2k:List PSh := [.one .bool]
theorem e_Z2k:cFn Tryz.prog 6 = some F_Z2k.erase := by kernel_rfl
theorem k_Z2k:callable Tryz.prog 6 = true := by kernel_rfl
def F_Zd:TFn := ⟨33,1,[.tmp 2],(.seq (.reg [(oQ 1 (.box 0 (.t 0))),(oQ 2 (.mv cF))])
 (.seq (.seq (.reg [(fQ 4 0 1),(lQ 5 4),(hQ 6 5),(cQ 7 .gtr 6 6)])
 (.cond (.t 7) (.seq (.reg [(oQ 2 (.mv cF))])
 .ret) .skip))
 (.seq (.seq (.reg [(oQ 3 (.mv (iQ 0)))])
 (.block 0 (.loop [.v 3 tQ] [] [] (.seq (.seq (.reg [(mQ 8 3),(fQ 9 0 1),(lQ 10 9),(hQ 11 10),(bQ 12 .lss 8 11)])
 (.cond (.t 12) .skip (.exit 0)))
 (.seq (.block 1 (.seq (.reg [(fQ 15 0 1),(lQ 16 15),(mQ 17 3),(jQ 18 2 16 17),(fQ 19 0 18),(lQ 20 19),(hQ 21 20),(cQ 22 .gtr 21 22),(mQ 23 22),(gQ 24 23 false (.fa 0 (.t 1))),(gQ 25 23 false (.ld1 (.t 24))),(vQ 26 23 false 3),(gQ 27 23 false (.ia 2 (.t 25) (.t 26))),(gQ 28 23 false (.fa 1 (.t 27))),(gQ 29 23 false (.ld1 (.t 28))),(gQ 30 23 false (.len false (.t 29))),(gQ 31 23 false (.bin .gtr (.t 30) (iQ 22))),(oQ 32 (.pick (.t 23) cT (.t 31)))])
 (.cond (.t 32) (.seq (.reg [(oQ 2 (.mv cF))])
 .ret) .skip)))
 (.reg [(mQ 13 3),(cQ 14 .add 13 1),(mQ 3 14)]))))))
 (.seq (.reg [(oQ 2 (.mv cT))])
 .ret))))⟩
def A_Zd:Nat→Ty := tyAt [.un]
abbrev P_Zd:List PSh := [.agg (.sl (.pr (.sl tQ) (.sl tQ)))]
abbrev R_Zd:List PSh := [.one .bool]
theorem e_Zd:cFn Tryz.prog 7 = some F_Zd.erase := by kernel_rfl
theorem k_Zd:callable Tryz.prog 7 = true := by kernel_rfl
def F_Z1z:TFn := ⟨11,3,[.tmp 2],(.seq (.reg [(oQ 1 (.box 0 (.t 0))),(oQ 2 (.mv cF))])
 (.seq (.reg [(nQ 3 1 1),(kQ 4 1 15 [(.t 3)]),(cQ 5 .neq 4 0),(mQ 6 5),(gQ 7 6 false (.ldn 1 (.t 1))),⟨some 8,some (some 6,false),(.call 2 47 [(.t 7)])⟩,(gQ 9 6 false (.bin .leq (.t 8) (iQ 60))),(oQ 10 (.pick (.t 6) cT (.t 9))),(mQ 2 10)])
 .ret))⟩
def A_Z1z:Nat→Ty := tyAt [.un,.un,.un]
abbrev P_Z1z:List PSh := [.agg (.sl (.pr (.sl tQ) (.sl tQ)))]
abbrev R_Z1z:List PSh := [.one .bool]
theorem e_Z1z:cFn Tryz.prog 8 = some F_Z1z.erase := by kernel_rfl
theorem k_Z1z:callable Tryz.prog 8 = true := by kernel_rfl
def F_Z22:TFn := ⟨6,0,[.tmp 2],(.seq (.reg [(oQ 2 (.mv cF))])
 (.seq (.reg [(mQ 3 0),(hQ 4 3),(cQ 5 .leq 4 8),(mQ 2 5)])
 .ret))⟩
def A_Z22:Nat→Ty := tyAt []
abbrev P_Z22:List PSh := [.one (.sl (.pr tQ pQ))]
abbrev R_Z22:List PSh := [.one .bool]
theorem e_Z22:cFn Tryz.prog 9 = some F_Z22.erase := by kernel_rfl
theorem k_Z22:callable Tryz.prog 9 = true := by kernel_rfl
def F_Z13:TFn := ⟨31,8,[.celln 2 1],(.seq (.reg [(oQ 1 (.box 0 (.t 0))),(oQ 2 (.newz 1 [(.p (.sl 0 [] true))]))])
 (.seq (.reg [(oQ 3 (.newz 2 [(.p (.sl 0 [] true))]))])
 (.seq (.seq (.reg [(oQ 4 (.mv (iQ 0)))])
 (.block 0 (.loop [.v 4 tQ,.q 2 7 (.pr (.sl tQ) (.sl tQ))] [2,3,7] [3,7] (.seq (.seq (.reg [(mQ 6 4),(fQ 7 0 1),(lQ 8 7),(hQ 9 8),(bQ 10 .lss 6 9)])
 (.cond (.t 10) .skip (.exit 0)))
 (.seq (.block 1 (.seq (.reg [(fQ 13 0 1),(lQ 14 13),(mQ 15 4),(jQ 16 2 14 15),(nQ 17 2 16),(oQ 5 (.newz 3 [(.p (.sl 0 [] true)),(.p (.sl 0 [] true))])),(sQ 2 5 17)])
 (.regd [(fQ 18 0 3),(lQ 19 18),(fQ 20 0 5),(lQ 21 20),(kQ 22 4 28 [(.t 21)]),(fQ 23 1 5),(lQ 24 23),(kQ 25 5 28 [(.t 24)]),(oQ 26 (.build [(.p (.sl 0 [] true)),(.p (.sl 0 [] true))] [(0,1,(.t 22)),(1,1,(.t 25))])),(oQ 27 (.bsl false 6 2 1 [(.p (.sl 0 [] true)),(.p (.sl 0 [] true))] [(0,2,(.t 26))])),(oQ 28 (.app 7 2 48 (.t 19) (.t 27))),(fQ 29 0 3),(sQ 1 29 28)] [(1,3),(1,4),(1,6),(3,6),(4,6),(1,7)] [])))
 (.reg [(mQ 11 4),(cQ 12 .add 11 1),(mQ 4 12)]))))))
 (.seq (.reg [(nQ 30 1 3),(sQ 1 2 30)])
 .ret))))⟩
def A_Z13:Nat→Ty := tyAt [.un,.un,.un,.un,.un,.un,(.pr (.sl tQ) (.sl tQ)),(.pr (.sl tQ) (.sl tQ))]
abbrev P_Z13:List PSh := [.agg (.sl (.pr (.sl tQ) (.sl tQ)))]
abbrev R_Z13:List PSh := [.agg (.sl (.pr (.sl tQ) (.sl tQ)))]
theorem e_Z13:cFn Tryz.prog 11 = some F_Z13.erase := by kernel_rfl
theorem k_Z13:callable Tryz.prog 11 = true := by kernel_rfl
def F_Z1:TFn := ⟨6,2,[.tmp 2],(.seq (.reg [(oQ 2 (.mv (.c (.p (.sl 0 [] true)))))])
 (.seq (.reg [(oQ 3 (.bsl true 0 3 0 [] [])),(mQ 4 0),(oQ 5 (.app 1 3 24 (.t 3) (.t 4))),(mQ 2 5)])
 .ret))⟩
def A_Z1:Nat→Ty := tyAt [(.pr tQ pQ),(.pr tQ pQ)]
abbrev P_Z1:List PSh := [.one (.sl (.pr tQ pQ))]
abbrev E_Z1:Ty := (.pr tQ pQ)
theorem e_Z1:cFn Tryz.prog 12 = some F_Z1.erase := by kernel_rfl
theorem k_Z1:callable Tryz.prog 12 = true := by kernel_rfl
def F_Z1e:TFn := ⟨20,4,[.tmp 4,.tmp 5],(.seq (.reg [(oQ 2 (.box 0 (.t 0))),(oQ 4 (.mv (.c (.p (.sl 0 [] true))))),(oQ 5 (.mv (iQ 0)))])
 (.seq (.reg [(nQ 9 1 2),(mQ 10 1),(kQ 11 1 48 [(.t 9),(.t 10)]),(mQ 8 11),(oQ 12 (.ext 0 (.t 8))),(oQ 13 (.ext 1 (.t 8))),(oQ 6 (.newz 2 [(.p (.sl 0 [] true))])),(sQ 1 6 12),(mQ 7 13)])
 (.seq (.seq (.reg [(mQ 14 7),(cQ 15 .neq 14 0)])
 (.cond (.t 15) (.seq (.reg [(mQ 16 7),(oQ 4 (.mv (.c (.p (.sl 0 [] true))))),(mQ 5 16)])
 .ret) .skip))
 (.seq (.reg [(nQ 17 1 6),(mQ 18 1),(kQ 19 3 49 [(.t 17),(.t 18)]),(mQ 4 19),(oQ 5 (.mv (iQ 0)))])
 .ret))))⟩
def A_Z1e:Nat→Ty := tyAt [.un,.un,.un,.un]
abbrev P_Z1e:List PSh := [.agg (.sl (.pr (.sl tQ) (.sl tQ))),.one (.sl (.pr tQ pQ))]
abbrev R_Z1e:List PSh := [.one (.sl tQ),.one tQ]
theorem e_Z1e:cFn Tryz.prog 10 = some F_Z1e.erase := by kernel_rfl
theorem k_Z1e:callable Tryz.prog 10 = true := by kernel_rfl
def F_Z8:TFn := ⟨85,11,[.tmp 4,.tmp 5],(.seq (.reg [(oQ 2 (.box 0 (.t 0))),(oQ 4 (.mv (.c (.p (.sl 0 [] true))))),(oQ 5 (.mv (iQ 0)))])
 (.seq (.reg [(nQ 14 1 2),(mQ 15 1),(kQ 16 1 48 [(.t 14),(.t 15)]),(mQ 13 16),(oQ 17 (.ext 0 (.t 13))),(oQ 18 (.ext 1 (.t 13))),(oQ 6 (.newz 2 [(.p (.sl 0 [] true))])),(sQ 1 6 17),(mQ 7 18)])
 (.seq (.seq (.reg [(mQ 19 7),(cQ 20 .neq 19 0)])
 (.cond (.t 20) (.seq (.reg [(mQ 21 7),(oQ 4 (.mv (.c (.p (.sl 0 [] true))))),(mQ 5 21)])
 .ret) .skip))
 (.seq (.reg [(oQ 8 (.mv (.c (.p (.sl 0 [] true)))))])
 (.seq (.seq (.reg [(nQ 22 1 6),(mQ 23 1),(kQ 24 3 49 [(.t 22),(.t 23)]),(hQ 25 24),(oQ 26 (.mv (iQ 0)))])
 (.block 0 (.loop [.o 8 7 (.pr pQ pQ),.v 26 tQ] [7,5] [7,5] (.seq (.reg [(bQ 27 .lss 26 25)])
 (.seq (.cond (.t 27) .skip (.exit 0))
 (.seq (.block 1 (.seq (.reg [(jQ 28 1 24 26),(lQ 29 28),(mQ 10 29)])
 (.seq (.reg [(nQ 30 1 6),(mQ 31 10),(kQ 32 4 50 [(.t 30),(.t 31)]),(oQ 33 (.prt 0 none (.t 32))),(hQ 34 33),(oQ 35 (.mv (iQ 0)))])
 (.block 2 (.loop [.v 35 tQ,.o 8 7 (.pr pQ pQ)] [7,5] [7,5] (.seq (.reg [(bQ 36 .lss 35 34)])
 (.seq (.cond (.t 36) .skip (.exit 2))
 (.seq (.block 3 (.seq (.reg [(mQ 37 35),(jQ 38 2 33 35),(nQ 39 2 38),(oQ 12 (.newz 5 [zQ,zQ])),(mQ 11 37),(sQ 2 12 39)])
 (.seq (.seq (.reg [(mQ 40 11),(mQ 41 8),(hQ 42 41),(bQ 43 .eql 40 42)])
 (.cond (.t 43) (.reg [(mQ 44 8),(fQ 45 0 12),(lQ 46 45),(fQ 47 0 12),(lQ 48 47),(oQ 49 (.build [zQ,zQ] [(0,1,(.t 46)),(1,1,(.t 48))])),(fQ 50 1 12),(lQ 51 50),(fQ 52 1 12),(lQ 53 52),(oQ 54 (.build [zQ,zQ] [(0,1,(.t 51)),(1,1,(.t 53))])),(oQ 55 (.build [zQ,zQ,zQ,zQ] [(0,2,(.t 49)),(2,2,(.t 54))])),(oQ 56 (.bsl false 6 4 1 [zQ,zQ,zQ,zQ] [(0,4,(.t 55))])),(oQ 57 (.app 7 4 32 (.t 44) (.t 56))),(mQ 8 57)]) .skip))
 (.regd [(mQ 58 8),(mQ 59 11),(mQ 60 8),(mQ 61 11),(jQ 62 4 60 61),(fQ 63 0 62),(nQ 64 2 63),(fQ 65 0 12),(lQ 66 65),(kQ 67 8 51 [(.t 64),(.t 66)]),(mQ 68 8),(mQ 69 11),(jQ 70 4 68 69),(fQ 71 2 70),(nQ 72 2 71),(fQ 73 1 12),(lQ 74 73),(kQ 75 9 51 [(.t 72),(.t 74)]),(oQ 76 (.build [zQ,zQ,zQ,zQ] [(0,2,(.t 67)),(2,2,(.t 75))])),(jQ 77 4 58 59),(sQ 4 77 76)] [(6,8),(6,14),(8,14),(9,14),(6,16),(8,16),(9,16),(14,16)] []))))
 (.reg [(cQ 78 .add 35 1),(mQ 35 78)])))))))))
 (.reg [(cQ 79 .add 26 1),(mQ 26 79)])))))))
 (.seq (.reg [(mQ 80 8),(mQ 81 8),(hQ 82 81),(cQ 83 .gtr 82 0),(kQ 84 10 52 [(.t 83),(iQ 12)]),(mQ 4 80),(mQ 5 84)])
 .ret))))))⟩
def A_Z8:Nat→Ty := tyAt [.un,.un,.un,.un,.un,.un,(.pr pQ pQ),(.pr pQ pQ),.un,.un,.un]
abbrev P_Z8:List PSh := [.agg (.sl (.pr (.sl tQ) (.sl tQ))),.one (.sl (.pr tQ pQ))]
abbrev R_Z8:List PSh := [.one (.sl (.pr pQ pQ)),.one tQ]
theorem e_Z8:cFn Tryz.prog 13 = some F_Z8.erase := by kernel_rfl
theorem k_Z8:callable Tryz.prog 13 = true := by kernel_rfl
def F_Ze:TFn := ⟨64,12,[.celln 6 2,.tmp 7],(.seq (.reg [(oQ 3 (.box 0 (.t 0))),(oQ 6 (.newz 1 [zQ,zQ])),(oQ 7 (.mv (iQ 0)))])
 (.seq (.reg [(nQ 16 1 3),(mQ 17 1),(kQ 18 2 48 [(.t 16),(.t 17)]),(mQ 15 18),(oQ 19 (.ext 0 (.t 15))),(oQ 20 (.ext 1 (.t 15))),(oQ 8 (.newz 3 [(.p (.sl 0 [] true))])),(sQ 1 8 19),(mQ 9 20)])
 (.seq (.seq (.reg [(mQ 21 9),(mQ 22 2),(kQ 23 4 54 [(.t 22),(iQ 1),(iQ 20)]),(kQ 24 5 52 [(.t 23),(iQ 2)]),(oQ 25 (.bsl false 6 1 2 [zQ,zQ] [(0,1,(.t 21)),(1,1,(.t 24))])),(kQ 26 7 53 [(.t 25)]),(mQ 9 26)])
 (.seq (.reg [(mQ 27 9),(cQ 28 .neq 27 0)])
 (.cond (.t 28) (.seq (.reg [(oQ 29 (.build [zQ,zQ] [])),(mQ 30 9),(sQ 2 6 29),(mQ 7 30)])
 .ret) .skip)))
 (.seq (.reg [(nQ 31 1 8),(mQ 32 1),(kQ 33 8 49 [(.t 31),(.t 32)]),(mQ 10 33)])
 (.seq (.seq (.reg [(mQ 34 10),(hQ 35 34),(oQ 36 (.mv (iQ 0)))])
 (.block 0 (.loop [.v 36 tQ] [] [] (.seq (.reg [(bQ 37 .lss 36 35)])
 (.seq (.cond (.t 37) .skip (.exit 0))
 (.seq (.block 1 (.seq (.reg [(mQ 38 36),(jQ 39 1 34 36),(lQ 40 39),(mQ 11 38),(mQ 12 40)])
 (.seq (.reg [(mQ 41 10),(mQ 42 11),(cQ 43 .add 42 1),(oQ 44 (.sl 1 (.t 41) (some (.t 43)) none)),(hQ 45 44),(oQ 46 (.mv (iQ 0)))])
 (.block 2 (.loop [.v 46 tQ] [] [] (.seq (.reg [(bQ 47 .lss 46 45)])
 (.seq (.cond (.t 47) .skip (.exit 2))
 (.seq (.block 3 (.seq (.reg [(jQ 48 1 44 46),(lQ 49 48),(mQ 14 49)])
 (.seq (.regd [(nQ 50 1 8),(mQ 51 12),(kQ 52 9 50 [(.t 50),(.t 51)]),(nQ 53 1 8),(mQ 54 14),(kQ 55 10 50 [(.t 53),(.t 54)]),(mQ 56 2),(kQ 57 11 55 [(.t 52),(.t 55),(.t 56)])] [(0,3),(2,3)] [])
 (.cond (.t 57) (.seq (.reg [(mQ 58 12),(mQ 59 14),(oQ 60 (.build [zQ,zQ] [(0,1,(.t 58)),(1,1,(.t 59))])),(sQ 2 6 60),(oQ 7 (.mv (iQ 0)))])
 .ret) .skip))))
 (.reg [(cQ 61 .add 46 1),(mQ 46 61)])))))))))
 (.reg [(cQ 62 .add 36 1),(mQ 36 62)])))))))
 (.seq (.reg [(oQ 63 (.build [zQ,zQ] [])),(sQ 2 6 63),(oQ 7 (.mv (iQ 12)))])
 .ret))))))⟩
def A_Ze:Nat→Ty := tyAt [.un,.un,.un,.un,.un,.un,tQ,.un,.un,.un,.un,.un]
abbrev P_Ze:List PSh := [.agg (.sl (.pr (.sl tQ) (.sl tQ))),.one (.sl (.pr tQ pQ)),.one tQ]
abbrev R_Ze:List PSh := [.agg pQ,.one tQ]
theorem e_Ze:cFn Tryz.prog 14 = some F_Ze.erase := by kernel_rfl
theorem k_Ze:callable Tryz.prog 14 = true := by kernel_rfl
def F_Z2d:TFn := ⟨11,2,[.tmp 2],(.seq (.reg [(oQ 1 (.box 0 (.t 0))),(oQ 2 (.mv (iQ 0)))])
 (.seq (.reg [(nQ 6 1 1),(kQ 7 1 56 [(.t 6)]),(mQ 5 7),(oQ 8 (.ext 0 (.t 5))),(oQ 9 (.ext 1 (.t 5))),(mQ 3 8),(mQ 4 9)])
 (.seq (.reg [(mQ 10 4),(mQ 2 10)])
 .ret)))⟩
def A_Z2d:Nat→Ty := tyAt [.un,.un]
abbrev P_Z2d:List PSh := [.agg (.sl (.pr (.sl tQ) (.sl tQ)))]
abbrev R_Z2d:List PSh := [.one tQ]
theorem e_Z2d:cFn Tryz.prog 15 = some F_Z2d.erase := by kernel_rfl
theorem k_Z2d:callable Tryz.prog 15 = true := by kernel_rfl
def F_Z2e:TFn := ⟨11,1,[.tmp 2],(.seq (.reg [(oQ 2 (.mv (iQ 0)))])
 (.seq (.reg [(mQ 6 0),(kQ 7 0 57 [(.t 6)]),(mQ 5 7),(oQ 8 (.ext 0 (.t 5))),(oQ 9 (.ext 1 (.t 5))),(mQ 3 8),(mQ 4 9)])
 (.seq (.reg [(mQ 10 4),(mQ 2 10)])
 .ret)))⟩
def A_Z2e:Nat→Ty := tyAt [.un]
abbrev P_Z2e:List PSh := [.one (.sl (.pr tQ pQ))]
abbrev R_Z2e:List PSh := [.one tQ]
theorem e_Z2e:cFn Tryz.prog 16 = some F_Z2e.erase := by kernel_rfl
theorem k_Z2e:callable Tryz.prog 16 = true := by kernel_rfl
def F_Z14:TFn := ⟨23,6,[.tmp 4],(.seq (.reg [(oQ 2 (.box 0 (.t 0))),(oQ 4 (.mv (.c (.p (.sl 0 [] true)))))])
 (.seq (.reg [(oQ 5 (.mv (.c (.p (.sl 0 [] true)))))])
 (.seq (.seq (.reg [(oQ 6 (.mv (iQ 0)))])
 (.block 0 (.loop [.v 6 tQ,.o 5 5 tQ] [5] [5] (.seq (.seq (.reg [(mQ 7 6),(nQ 8 1 2),(kQ 9 1 47 [(.t 8)]),(bQ 10 .lss 7 9)])
 (.cond (.t 10) .skip (.exit 0)))
 (.seq (.block 1 (.seq (.reg [(nQ 13 1 2),(mQ 14 6),(kQ 15 2 59 [(.t 13),(.t 14)]),(mQ 16 1),(kQ 17 3 58 [(.t 15),(.t 16)])])
 (.cond (.t 17) (.reg [(mQ 18 5),(mQ 19 6),(oQ 20 (.bsl false 4 1 1 [zQ] [(0,1,(.t 19))])),(oQ 21 (.app 5 1 8 (.t 18) (.t 20))),(mQ 5 21)]) .skip)))
 (.reg [(mQ 11 6),(cQ 12 .add 11 1),(mQ 6 12)]))))))
 (.seq (.reg [(mQ 22 5),(mQ 4 22)])
 .ret))))⟩
def A_Z14:Nat→Ty := tyAt [.un,.un,.un,.un,tQ,tQ]
abbrev P_Z14:List PSh := [.agg (.sl (.pr (.sl tQ) (.sl tQ))),.one (.sl (.pr tQ pQ))]
abbrev R_Z14:List PSh := [.one (.sl tQ)]
theorem e_Z14:cFn Tryz.prog 17 = some F_Z14.erase := by kernel_rfl
theorem k_Z14:callable Tryz.prog 17 = true := by kernel_rfl
def F_Zs:TFn := ⟨26,0,[.tmp 4],(.seq (.reg [(oQ 4 (.mv cF))])
 (.seq (.seq (.reg [(mQ 6 0),(hQ 7 6),(mQ 8 1),(hQ 9 8),(bQ 10 .neq 7 9)])
 (.cond (.t 10) (.seq (.reg [(oQ 4 (.mv cF))])
 .ret) .skip))
 (.seq (.seq (.reg [(oQ 5 (.mv (iQ 0)))])
 (.block 0 (.loop [.v 5 tQ] [] [] (.seq (.seq (.reg [(mQ 11 5),(mQ 12 0),(hQ 13 12),(bQ 14 .lss 11 13)])
 (.cond (.t 14) .skip (.exit 0)))
 (.seq (.block 1 (.seq (.regd [(mQ 17 0),(mQ 18 5),(jQ 19 1 17 18),(lQ 20 19),(mQ 21 1),(mQ 22 5),(jQ 23 1 21 22),(lQ 24 23),(bQ 25 .neq 20 24)] [(3,7)] [])
 (.cond (.t 25) (.seq (.reg [(oQ 4 (.mv cF))])
 .ret) .skip)))
 (.reg [(mQ 15 5),(cQ 16 .add 15 1),(mQ 5 16)]))))))
 (.seq (.reg [(oQ 4 (.mv cT))])
 .ret))))⟩
def A_Zs:Nat→Ty := tyAt []
abbrev P_Zs:List PSh := [.one (.sl tQ),.one (.sl tQ)]
abbrev R_Zs:List PSh := [.one .bool]
theorem e_Zs:cFn Tryz.prog 18 = some F_Zs.erase := by kernel_rfl
theorem k_Zs:callable Tryz.prog 18 = true := by kernel_rfl
def F_Zb:TFn := ⟨86,7,[.tmp 4],(.seq (.reg [(oQ 2 (.box 0 (.t 0))),(oQ 4 (.mv (.c (.p (.sl 0 [] true)))))])
 (.seq (.reg [(oQ 5 (.mv (.c (.p (.sl 0 [] true)))))])
 (.seq (.seq (.reg [(oQ 6 (.mv (iQ 0)))])
 (.block 0 (.loop [.v 6 tQ,.o 5 6 (.pr pQ pQ)] [6,2,3] [6,2,3] (.seq (.seq (.reg [(mQ 10 6),(fQ 11 0 2),(lQ 12 11),(hQ 13 12),(bQ 14 .lss 10 13)])
 (.cond (.t 14) .skip (.exit 0)))
 (.seq (.block 1 (.seq (.regd [(nQ 17 1 2),(mQ 18 1),(oQ 19 (.ia 1 (.t 18) (iQ 0))),(lQ 20 19),(kQ 21 1 59 [(.t 17),(.t 20)]),(oQ 22 (.prt 0 none (.t 21))),(mQ 23 6),(jQ 24 2 22 23),(nQ 25 2 24),(oQ 7 (.newz 2 [zQ,zQ])),(sQ 2 7 25)] [(0,3),(0,9),(3,9),(4,9),(8,9)] [])
 (.seq (.reg [(fQ 26 0 7),(lQ 27 26),(fQ 28 0 7),(lQ 29 28),(oQ 30 (.build [zQ,zQ] [(0,1,(.t 27)),(1,1,(.t 29))])),(fQ 31 1 7),(lQ 32 31),(fQ 33 1 7),(lQ 34 33),(oQ 35 (.build [zQ,zQ] [(0,1,(.t 32)),(1,1,(.t 34))])),(oQ 36 (.build [zQ,zQ,zQ,zQ] [(0,2,(.t 30)),(2,2,(.t 35))])),(oQ 8 (.newz 3 [zQ,zQ,zQ,zQ])),(sQ 4 8 36)])
 (.seq (.seq (.reg [(oQ 9 (.mv (iQ 1)))])
 (.block 2 (.loop [.v 9 tQ,.c 2 pQ,.c 3 (.pr tQ (.pr tQ pQ))] [2,3] [] (.seq (.seq (.reg [(mQ 37 9),(mQ 38 1),(hQ 39 38),(bQ 40 .lss 37 39)])
 (.cond (.t 40) .skip (.exit 2)))
 (.seq (.block 3 (.seq (.regd [(nQ 43 1 2),(mQ 44 1),(mQ 45 9),(jQ 46 1 44 45),(lQ 47 46),(kQ 48 4 59 [(.t 43),(.t 47)]),(oQ 49 (.prt 0 none (.t 48))),(mQ 50 6),(jQ 51 2 49 50),(nQ 52 2 51),(sQ 2 7 52)] [(0,4)] [])
 (.seq (.reg [(fQ 53 0 8),(fQ 54 0 53),(lQ 55 54),(fQ 56 0 7),(lQ 57 56),(oQ 58 (.mm false (.t 55) (.t 57))),(fQ 59 0 8),(fQ 60 1 59),(lQ 61 60),(fQ 62 0 7),(lQ 63 62),(oQ 64 (.mm true (.t 61) (.t 63))),(oQ 65 (.build [zQ,zQ] [(0,1,(.t 58)),(1,1,(.t 64))])),(fQ 66 0 8),(sQ 2 66 65)])
 (.reg [(fQ 67 2 8),(fQ 68 0 67),(lQ 69 68),(fQ 70 1 7),(lQ 71 70),(oQ 72 (.mm false (.t 69) (.t 71))),(fQ 73 2 8),(fQ 74 1 73),(lQ 75 74),(fQ 76 1 7),(lQ 77 76),(oQ 78 (.mm true (.t 75) (.t 77))),(oQ 79 (.build [zQ,zQ] [(0,1,(.t 72)),(1,1,(.t 78))])),(fQ 80 2 8),(sQ 2 80 79)]))))
 (.reg [(mQ 41 9),(cQ 42 .add 41 1),(mQ 9 42)]))))))
 (.reg [(mQ 81 5),(nQ 82 4 8),(oQ 83 (.bsl false 5 4 1 [zQ,zQ,zQ,zQ] [(0,4,(.t 82))])),(oQ 84 (.app 6 4 32 (.t 81) (.t 83))),(mQ 5 84)])))))
 (.reg [(mQ 15 6),(cQ 16 .add 15 1),(mQ 6 16)]))))))
 (.seq (.reg [(mQ 85 5),(mQ 4 85)])
 .ret))))⟩
def A_Zb:Nat→Ty := tyAt [.un,.un,.un,.un,.un,(.pr pQ pQ),(.pr pQ pQ)]
abbrev P_Zb:List PSh := [.agg (.sl (.pr (.sl tQ) (.sl tQ))),.one (.sl tQ)]
abbrev R_Zb:List PSh := [.one (.sl (.pr pQ pQ))]
theorem e_Zb:cFn Tryz.prog 20 = some F_Zb.erase := by kernel_rfl
theorem k_Zb:callable Tryz.prog 20 = true := by kernel_rfl
def F_Zt:TFn := ⟨26,0,[.tmp 4],(.seq (.reg [(oQ 4 (.mv cF))])
 (.seq (.seq (.reg [(mQ 6 0),(hQ 7 6),(mQ 8 1),(hQ 9 8),(bQ 10 .neq 7 9)])
 (.cond (.t 10) (.seq (.reg [(oQ 4 (.mv cF))])
 .ret) .skip))
 (.seq (.seq (.reg [(oQ 5 (.mv (iQ 0)))])
 (.block 0 (.loop [.v 5 tQ] [] [] (.seq (.seq (.reg [(mQ 11 5),(mQ 12 0),(hQ 13 12),(bQ 14 .lss 11 13)])
 (.cond (.t 14) .skip (.exit 0)))
 (.seq (.block 1 (.seq (.regd [(mQ 17 0),(mQ 18 5),(jQ 19 4 17 18),(nQ 20 4 19),(mQ 21 1),(mQ 22 5),(jQ 23 4 21 22),(nQ 24 4 23),(oQ 25 (.eqa true 4 [(true,0),(true,1),(true,2),(true,3)] (.t 20) (.t 24)))] [(3,7)] [])
 (.cond (.t 25) (.seq (.reg [(oQ 4 (.mv cF))])
 .ret) .skip)))
 (.reg [(mQ 15 5),(cQ 16 .add 15 1),(mQ 5 16)]))))))
 (.seq (.reg [(oQ 4 (.mv cT))])
 .ret))))⟩
def A_Zt:Nat→Ty := tyAt []
abbrev P_Zt:List PSh := [.one (.sl (.pr pQ pQ)),.one (.sl (.pr pQ pQ))]
abbrev R_Zt:List PSh := [.one .bool]
theorem e_Zt:cFn Tryz.prog 19 = some F_Zt.erase := by kernel_rfl
theorem k_Zt:callable Tryz.prog 19 = true := by kernel_rfl
def F_Z3:TFn := ⟨15,0,[.tmp 6],(.seq (.reg [(oQ 6 (.mv cF))])
 (.seq (.reg [(mQ 7 1),(mQ 8 0),(bQ 9 .leq 7 8),(mQ 10 9),(vQ 11 10 true 0),(vQ 12 10 true 2),(gQ 13 10 true (.bin .leq (.t 11) (.t 12))),(oQ 14 (.pick (.t 10) (.t 13) cF)),(mQ 6 14)])
 .ret))⟩
def A_Z3:Nat→Ty := tyAt []
abbrev P_Z3:List PSh := [.one tQ,.one tQ,.one tQ]
abbrev R_Z3:List PSh := [.one .bool]
theorem e_Z3:cFn Tryz.prog 21 = some F_Z3.erase := by kernel_rfl
theorem k_Z3:callable Tryz.prog 21 = true := by kernel_rfl
def F_Zi:TFn := ⟨48,5,[.celln 6 2,.tmp 7],(.seq (.reg [(oQ 3 (.box 0 (.t 0))),(oQ 6 (.newz 1 [zQ,zQ])),(oQ 7 (.mv cF))])
 (.seq (.seq (.reg [(oQ 8 (.mv (iQ 0)))])
 (.block 0 (.loop [.v 8 tQ] [] [] (.seq (.seq (.reg [(mQ 10 8),(mQ 11 1),(hQ 12 11),(bQ 13 .lss 10 12)])
 (.cond (.t 13) .skip (.exit 0)))
 (.seq (.block 1 (.seq (.reg [(mQ 16 8),(cQ 17 .add 16 1),(mQ 9 17)])
 (.block 2 (.loop [.v 9 tQ] [] [] (.seq (.seq (.reg [(mQ 18 9),(mQ 19 1),(hQ 20 19),(bQ 21 .lss 18 20)])
 (.cond (.t 21) .skip (.exit 2)))
 (.seq (.block 3 (.seq (.regd [(nQ 24 1 3),(mQ 25 1),(mQ 26 8),(jQ 27 1 25 26),(lQ 28 27),(kQ 29 2 59 [(.t 24),(.t 28)]),(nQ 30 1 3),(mQ 31 1),(mQ 32 9),(jQ 33 1 31 32),(lQ 34 33),(kQ 35 3 59 [(.t 30),(.t 34)]),(mQ 36 2),(kQ 37 4 60 [(.t 29),(.t 35),(.t 36)])] [(0,4),(0,6),(4,6),(5,6),(0,10),(4,10),(5,10),(6,10)] [])
 (.cond (.t 37) (.seq (.regd [(mQ 38 1),(mQ 39 8),(jQ 40 1 38 39),(lQ 41 40),(mQ 42 1),(mQ 43 9),(jQ 44 1 42 43),(lQ 45 44),(oQ 46 (.build [zQ,zQ] [(0,1,(.t 41)),(1,1,(.t 45))])),(sQ 2 6 46),(oQ 7 (.mv cT))] [(3,7)] [])
 .ret) .skip)))
 (.reg [(mQ 22 9),(cQ 23 .add 22 1),(mQ 9 23)])))))))
 (.reg [(mQ 14 8),(cQ 15 .add 14 1),(mQ 8 15)]))))))
 (.seq (.reg [(oQ 47 (.build [zQ,zQ] [])),(sQ 2 6 47),(oQ 7 (.mv cF))])
 .ret)))⟩
def A_Zi:Nat→Ty := tyAt [.un,.un,.un,.un,.un]
abbrev P_Zi:List PSh := [.agg (.sl (.pr (.sl tQ) (.sl tQ))),.one (.sl tQ),.one tQ]
abbrev R_Zi:List PSh := [.agg pQ,.one .bool]
theorem e_Zi:cFn Tryz.prog 22 = some F_Zi.erase := by kernel_rfl
theorem k_Zi:callable Tryz.prog 22 = true := by kernel_rfl
def F_Z1r:TFn := ⟨6,2,[.tmp 2],(.seq (.reg [(oQ 1 (.box 0 (.t 0))),(oQ 2 (.mv (iQ 0)))])
 (.seq (.reg [(fQ 3 0 1),(nQ 4 2 3),(kQ 5 1 70 [(.t 4)]),(mQ 2 5)])
 .ret))⟩
def A_Z1r:Nat→Ty := tyAt [.un,.un]
abbrev P_Z1r:List PSh := [.agg (.pr (.pr tQ (.sl tQ)) (.pr tQ (.sl tQ)))]
abbrev R_Z1r:List PSh := [.one tQ]
theorem e_Z1r:cFn Tryz.prog 27 = some F_Z1r.erase := by kernel_rfl
theorem k_Z1r:callable Tryz.prog 27 = true := by kernel_rfl
def F_Z2o:TFn := ⟨5,2,[.celln 0 1],(.seq (.reg [(oQ 0 (.newz 0 [(.p (.sl 0 [] true))]))])
 (.seq (.reg [(oQ 1 (.build [zQ,zQ] [(0,1,(iQ 4)),(1,1,(iQ 2))])),(oQ 2 (.build [zQ,zQ] [(0,1,(iQ 1))])),(oQ 3 (.bsl false 1 2 2 [zQ,zQ,zQ,zQ] [(0,2,(.t 1)),(2,2,(.t 2))])),(oQ 4 (.build [(.p (.sl 0 [] true))] [(0,1,(.t 3))])),(sQ 1 0 4)])
 .ret))⟩
theorem e_Z2o:cFn Tryz.prog 43 = some F_Z2o.erase := by kernel_rfl
def F_Z2p:TFn := ⟨24,8,[.celln 4 2,.tmp 5],(.seq (.reg [(oQ 2 (.box 0 (.t 0))),(oQ 4 (.newz 1 [zQ,zQ])),(oQ 5 (.mv (iQ 0)))])
 (.seq (.seq (.reg [(nQ 7 1 2),(kQ 8 2 80 [(.t 7)]),(mQ 9 1),(kQ 10 3 81 [(.t 9)]),(oQ 11 (.bsl false 4 1 2 [zQ,zQ] [(0,1,(.t 8)),(1,1,(.t 10))])),(kQ 12 5 53 [(.t 11)]),(mQ 6 12)])
 (.seq (.reg [(mQ 13 6),(cQ 14 .neq 13 0)])
 (.cond (.t 14) (.seq (.reg [(oQ 15 (.build [zQ,zQ] [])),(mQ 16 6),(sQ 2 4 15),(mQ 5 16)])
 .ret) .skip)))
 (.seq (.reg [(fQ 17 0 2),(lQ 18 17),(mQ 19 1),(kQ 20 6 82 [(.t 18),(.t 19)]),(kQ 21 7 66 [(.t 20)]),(oQ 22 (.ext 0 (.t 21))),(oQ 23 (.ext 1 (.t 21))),(sQ 2 4 22),(mQ 5 23)])
 .ret)))⟩
theorem e_Z2p:cFn Tryz.prog 42 = some F_Z2p.erase := by kernel_rfl
def F_Z2q:TFn := ⟨9,6,[.celln 0 1],(.seq (.reg [(oQ 0 (.newz 0 [(.p (.sl 0 [] true))]))])
 (.seq (.reg [(oQ 1 (.bsl false 1 1 2 [zQ,zQ] [(0,1,(iQ 2)),(1,1,(iQ 4))])),(oQ 2 (.bsl false 2 1 2 [zQ,zQ] [(0,1,(iQ 2)),(1,1,(iQ 4))])),(oQ 3 (.build [(.p (.sl 0 [] true)),(.p (.sl 0 [] true))] [(0,1,(.t 1)),(1,1,(.t 2))])),(oQ 4 (.bsl false 3 1 2 [zQ,zQ] [(0,1,(iQ 1)),(1,1,(iQ 8))])),(oQ 5 (.bsl false 4 1 1 [zQ] [(0,1,(iQ 0))])),(oQ 6 (.build [(.p (.sl 0 [] true)),(.p (.sl 0 [] true))] [(0,1,(.t 4)),(1,1,(.t 5))])),(oQ 7 (.bsl false 5 2 2 [(.p (.sl 0 [] true)),(.p (.sl 0 [] true)),(.p (.sl 0 [] true)),(.p (.sl 0 [] true))] [(0,2,(.t 3)),(2,2,(.t 6))])),(oQ 8 (.build [(.p (.sl 0 [] true))] [(0,1,(.t 7))])),(sQ 1 0 8)])
 .ret))⟩
theorem e_Z2q:cFn Tryz.prog 44 = some F_Z2q.erase := by kernel_rfl
def F_Z2r:TFn := ⟨4,1,[.tmp 0],(.seq (.reg [(oQ 0 (.mv (.c (.p (.sl 0 [] true)))))])
 (.seq (.reg [(oQ 1 (.build [zQ,zQ] [(0,1,(iQ 2500)),(1,1,(iQ 3100))])),(oQ 2 (.build [zQ,zQ,zQ] [(0,1,(iQ 2)),(1,2,(.t 1))])),(oQ 3 (.bsl false 0 3 1 [zQ,zQ,zQ] [(0,3,(.t 2))])),(mQ 0 3)])
 .ret))⟩
theorem e_Z2r:cFn Tryz.prog 45 = some F_Z2r.erase := by kernel_rfl
def F_Z2s:TFn := ⟨33,11,[.cell1 4,.cell1 5],(.seq (.reg [(oQ 2 (.box 0 (.t 0))),(oQ 3 (.box 1 (.t 1))),(oQ 4 (.newz 2 [zQ])),(oQ 5 (.newz 3 [zQ]))])
 (.seq (.reg [(nQ 11 1 2),(kQ 12 4 83 [(.t 11)]),(mQ 10 12),(oQ 13 (.ext 0 (.t 10))),(oQ 14 (.ext 1 (.t 10))),(oQ 6 (.newz 5 [(.p (.sl 0 [] true))])),(sQ 1 6 13),(mQ 7 14)])
 (.seq (.seq (.reg [(mQ 15 7),(nQ 16 1 3),(kQ 17 6 80 [(.t 16)]),(oQ 18 (.bsl false 7 1 2 [zQ,zQ] [(0,1,(.t 15)),(1,1,(.t 17))])),(kQ 19 8 53 [(.t 18)]),(mQ 7 19)])
 (.seq (.reg [(mQ 20 7),(cQ 21 .neq 20 0)])
 (.cond (.t 21) (.seq (.reg [(mQ 22 7),(uQ (.st 1 (.t 4) (iQ 0))),(sQ 1 5 22)])
 .ret) .skip)))
 (.seq (.seq (.reg [(nQ 23 1 6),(oQ 24 (.bnd 1000000063 (.t 23)))])
 (.block 0 (.rng (.t 24) [25,26] [25,26,8,9,27,28,29,30,31,32] [] [9] [9] (.seq (.reg [(mQ 8 25)])
 (.reg [(oQ 9 (.newz 9 [(.p (.sl 0 [] true))])),(sQ 1 9 26)]))
 (.block 1 (.seq (.reg [(fQ 27 0 9),(lQ 28 27),(fQ 29 0 3),(lQ 30 29),(kQ 31 10 84 [(.t 28),(.t 30)])])
 (.cond (.t 31) (.seq (.reg [(mQ 32 8),(sQ 1 4 32),(uQ (.st 1 (.t 5) (iQ 0)))])
 .ret) .skip))))))
 (.seq (.reg [(uQ (.st 1 (.t 4) (iQ 0))),(uQ (.st 1 (.t 5) (iQ 6)))])
 .ret)))))⟩
theorem e_Z2s:cFn Tryz.prog 46 = some F_Z2s.erase := by kernel_rfl
def F_Zv:TFn := ⟨30,1,[.tmp 2],(.seq (.reg [(oQ 1 (.box 0 (.t 0))),(oQ 2 (.mv (iQ 0)))])
 (.seq (.reg [(oQ 3 (.mv (iQ 1)))])
 (.seq (.seq (.reg [(oQ 4 (.mv (iQ 0)))])
 (.block 0 (.loop [.v 4 tQ,.v 3 tQ] [] [] (.seq (.seq (.reg [(mQ 5 4),(fQ 6 0 1),(lQ 7 6),(hQ 8 7),(bQ 9 .lss 5 8)])
 (.cond (.t 9) .skip (.exit 0)))
 (.seq (.block 1 (.regd [(mQ 12 3),(fQ 13 0 1),(lQ 14 13),(mQ 15 4),(jQ 16 2 14 15),(fQ 17 0 16),(lQ 18 17),(hQ 19 18),(bQ 20 .mul 12 19),(fQ 21 0 1),(lQ 22 21),(mQ 23 4),(jQ 24 2 22 23),(fQ 25 1 24),(lQ 26 25),(hQ 27 26),(bQ 28 .mul 20 27),(mQ 3 28)] [(2,10),(6,10),(2,14),(6,14)] []))
 (.reg [(mQ 10 4),(cQ 11 .add 10 1),(mQ 4 11)]))))))
 (.seq (.reg [(mQ 29 3),(mQ 2 29)])
 .ret))))⟩
def A_Zv:Nat→Ty := tyAt [.un]
abbrev P_Zv:List PSh := [.agg (.sl (.pr (.sl tQ) (.sl tQ)))]
abbrev R_Zv:List PSh := [.one tQ]
theorem e_Zv:cFn Tryz.prog 47 = some F_Zv.erase := by kernel_rfl
theorem k_Zv:callable Tryz.prog 47 = true := by kernel_rfl
def F_Z2f:TFn := ⟨6,2,[.tmp 2],(.seq (.reg [(oQ 2 (.mv (.c (.p (.sl 0 [] true)))))])
 (.seq (.reg [(oQ 3 (.bsl true 0 1 0 [] [])),(mQ 4 0),(oQ 5 (.app 1 1 8 (.t 3) (.t 4))),(mQ 2 5)])
 .ret))⟩
def A_Z2f:Nat→Ty := tyAt [tQ,tQ]
abbrev P_Z2f:List PSh := [.one (.sl tQ)]
abbrev R_Z2f:List PSh := [.one (.sl tQ)]
theorem e_Z2f:cFn Tryz.prog 28 = some F_Z2f.erase := by kernel_rfl
theorem k_Z2f:callable Tryz.prog 28 = true := by kernel_rfl
def F_Z21:TFn := ⟨19,7,[.celln 4 1,.tmp 5],(.seq (.reg [(oQ 2 (.box 0 (.t 0))),(oQ 4 (.newz 1 [(.p (.sl 0 [] true))])),(oQ 5 (.mv (iQ 0)))])
 (.seq (.reg [(nQ 9 1 2),(kQ 10 2 83 [(.t 9)]),(mQ 8 10),(oQ 11 (.ext 0 (.t 8))),(oQ 12 (.ext 1 (.t 8))),(oQ 6 (.newz 3 [(.p (.sl 0 [] true))])),(sQ 1 6 11),(mQ 7 12)])
 (.seq (.regd [(nQ 13 1 6),(mQ 14 7),(mQ 15 1),(kQ 16 4 85 [(.t 15)]),(oQ 17 (.bsl false 5 1 2 [zQ,zQ] [(0,1,(.t 14)),(1,1,(.t 16))])),(kQ 18 6 53 [(.t 17)]),(sQ 1 4 13),(mQ 5 18)] [(0,3),(0,5)] [])
 .ret)))⟩
def A_Z21:Nat→Ty := tyAt [.un,.un,.un,.un,.un,tQ,.un]
abbrev P_Z21:List PSh := [.agg (.sl (.pr (.sl tQ) (.sl tQ))),.one (.sl (.pr tQ pQ))]
abbrev R_Z21:List PSh := [.agg (.sl (.pr (.sl tQ) (.sl tQ))),.one tQ]
theorem e_Z21:cFn Tryz.prog 48 = some F_Z21.erase := by kernel_rfl
theorem k_Z21:callable Tryz.prog 48 = true := by kernel_rfl
def F_Zl:TFn := ⟨20,7,[.tmp 4],(.seq (.reg [(oQ 2 (.box 0 (.t 0))),(oQ 3 (.box 1 (.t 1))),(oQ 4 (.mv (.c (.p (.sl 0 [] true)))))])
 (.seq (.reg [(oQ 5 (.newz 2 [(.p (.sl 0 [] true))]))])
 (.seq (.seq (.reg [(nQ 8 1 2),(oQ 9 (.bnd 1000000063 (.t 8)))])
 (.block 0 (.rng (.t 9) [10,11] [10,11,6,7,12,13,14,15,16,17,18] [.q 2 6 tQ] [2,3,6] [3,6] (.seq (.reg [(mQ 6 10)])
 (.reg [(oQ 7 (.newz 3 [(.p (.sl 0 [] true))])),(sQ 1 7 11)]))
 (.block 1 (.seq (.reg [(nQ 12 1 7),(lQ 13 3),(kQ 14 4 86 [(.t 12),(.t 13)])])
 (.cond (.t 14) (.reg [(lQ 15 5),(mQ 16 6),(oQ 17 (.bsl false 5 1 1 [zQ] [(0,1,(.t 16))])),(oQ 18 (.app 6 1 8 (.t 15) (.t 17))),(sQ 1 5 18)]) .skip))))))
 (.seq (.reg [(lQ 19 5),(mQ 4 19)])
 .ret))))⟩
def A_Zl:Nat→Ty := tyAt [.un,.un,.un,.un,.un,tQ,tQ]
abbrev P_Zl:List PSh := [.agg (.sl (.pr (.sl tQ) (.sl tQ))),.one (.sl (.pr tQ pQ))]
abbrev R_Zl:List PSh := [.one (.sl tQ)]
theorem e_Zl:cFn Tryz.prog 49 = some F_Zl.erase := by kernel_rfl
theorem k_Zl:callable Tryz.prog 49 = true := by kernel_rfl
def F_Zj:TFn := ⟨39,10,[.celln 4 1],(.seq (.reg [(oQ 2 (.box 0 (.t 0))),(oQ 3 (.box 1 (.t 1))),(oQ 4 (.newz 2 [(.p (.sl 0 [] true))]))])
 (.seq (.reg [(fQ 9 0 2),(fQ 10 0 9),(lQ 11 10),(hQ 12 11),(oQ 13 (.mk 3 2 16 [zQ,zQ] (.t 12))),(oQ 5 (.newz 4 [(.p (.sl 0 [] true))])),(sQ 1 5 13)])
 (.seq (.reg [(oQ 14 (.clo 87 [(.t 3)])),(oQ 6 (.newz 5 [.und])),(sQ 1 6 14)])
 (.seq (.seq (.reg [(fQ 15 0 2),(fQ 16 0 15),(lQ 17 16),(kQ 18 6 88 [(.t 17)])])
 (.block 0 (.rng (.t 18) [19,20] [19,20,7,8,21,22,23,24,25,26,27,28,29,30,31,32,33,34,35,36] [.c 1 tQ,.d 3 pQ] [1,3,7] [7] (.seq (.reg [(mQ 7 19)])
 (.reg [(oQ 8 (.newz 7 [(.p (.sl 0 [] true)),(.p (.sl 0 [] true))])),(sQ 2 8 20)]))
 (.block 1 (.seq (.regd [(lQ 21 5),(mQ 22 7),(lQ 23 6),(fQ 24 1 8),(lQ 25 24),⟨some 26,none,(.callv 8 (.t 23) [(.t 25)])⟩,(jQ 27 2 21 22),(fQ 28 1 27),(sQ 1 28 26)] [(0,2),(0,4),(2,4),(0,5)] [])
 (.regd [(lQ 29 5),(mQ 30 7),(lQ 31 6),(fQ 32 0 8),(lQ 33 32),⟨some 34,none,(.callv 9 (.t 31) [(.t 33)])⟩,(jQ 35 2 29 30),(fQ 36 0 35),(sQ 1 36 34)] [(0,2),(0,4),(2,4),(0,5)] []))))))
 (.seq (.reg [(lQ 37 5),(oQ 38 (.build [(.p (.sl 0 [] true))] [(0,1,(.t 37))])),(sQ 1 4 38)])
 .ret)))))⟩
def A_Zj:Nat→Ty := tyAt [.un,.un,.un,pQ,.un,.un,.un,.un,.un,.un]
abbrev P_Zj:List PSh := [.agg (.sl (.pr (.sl tQ) (.sl tQ))),.one tQ]
abbrev R_Zj:List PSh := [.agg (.sl pQ)]
theorem e_Zj:cFn Tryz.prog 50 = some F_Zj.erase := by kernel_rfl
theorem k_Zj:callable Tryz.prog 50 = true := by kernel_rfl
def F_Z2g:TFn := ⟨14,2,[.celln 4 2],(.seq (.reg [(oQ 2 (.box 0 (.t 0))),(oQ 4 (.newz 1 [zQ,zQ]))])
 (.seq (.reg [(fQ 5 0 2),(lQ 6 5),(mQ 7 1),(oQ 8 (.mm false (.t 6) (.t 7))),(fQ 9 1 2),(lQ 10 9),(mQ 11 1),(oQ 12 (.mm true (.t 10) (.t 11))),(oQ 13 (.build [zQ,zQ] [(0,1,(.t 8)),(1,1,(.t 12))])),(sQ 2 4 13)])
 .ret))⟩
def A_Z2g:Nat→Ty := tyAt [.un,.un]
abbrev P_Z2g:List PSh := [.agg pQ,.one tQ]
abbrev R_Z2g:List PSh := [.agg pQ]
theorem e_Z2g:cFn Tryz.prog 51 = some F_Z2g.erase := by kernel_rfl
theorem k_Z2g:callable Tryz.prog 51 = true := by kernel_rfl
def F_Z4:TFn := ⟨7,0,[.tmp 4],(.seq (.reg [(oQ 4 (.mv (iQ 0)))])
 (.seq (.seq (.reg [(mQ 5 0)])
 (.cond (.t 5) (.seq (.reg [(oQ 4 (.mv (iQ 0)))])
 .ret) .skip))
 (.seq (.reg [(mQ 6 1),(mQ 4 6)])
 .ret)))⟩
def A_Z4:Nat→Ty := tyAt []
abbrev P_Z4:List PSh := [.one .bool,.one tQ]
abbrev R_Z4:List PSh := [.one tQ]
theorem e_Z4:cFn Tryz.prog 52 = some F_Z4.erase := by kernel_rfl
theorem k_Z4:callable Tryz.prog 52 = true := by kernel_rfl
def F_Zh:TFn := ⟨15,0,[.tmp 6],(.seq (.reg [(oQ 6 (.mv cF))])
 (.seq (.reg [(mQ 7 1),(mQ 8 0),(bQ 9 .leq 7 8),(mQ 10 9),(vQ 11 10 true 0),(vQ 12 10 true 2),(gQ 13 10 true (.bin .leq (.t 11) (.t 12))),(oQ 14 (.pick (.t 10) (.t 13) cF)),(mQ 6 14)])
 .ret))⟩
def A_Zh:Nat→Ty := tyAt []
abbrev P_Zh:List PSh := [.one tQ,.one tQ,.one tQ]
abbrev R_Zh:List PSh := [.one .bool]
theorem e_Zh:cFn Tryz.prog 54 = some F_Zh.erase := by kernel_rfl
theorem k_Zh:callable Tryz.prog 54 = true := by kernel_rfl
def F_Zm:TFn := ⟨15,0,[.tmp 2],(.seq (.reg [(oQ 2 (.mv (iQ 0)))])
 (.seq (.seq (.reg [(mQ 5 0),(hQ 6 5),(oQ 7 (.mv (iQ 0)))])
 (.block 0 (.loop [.v 7 tQ] [] [] (.seq (.reg [(bQ 8 .lss 7 6)])
 (.seq (.cond (.t 8) .skip (.exit 0))
 (.seq (.block 1 (.seq (.reg [(jQ 9 1 5 7),(lQ 10 9),(mQ 4 10)])
 (.seq (.reg [(mQ 11 4),(cQ 12 .neq 11 0)])
 (.cond (.t 12) (.seq (.reg [(mQ 13 4),(mQ 2 13)])
 .ret) .skip))))
 (.reg [(cQ 14 .add 7 1),(mQ 7 14)])))))))
 (.seq (.reg [(oQ 2 (.mv (iQ 0)))])
 .ret)))⟩
def A_Zm:Nat→Ty := tyAt []
abbrev P_Zm:List PSh := [.one (.sl tQ)]
abbrev R_Zm:List PSh := [.one tQ]
theorem e_Zm:cFn Tryz.prog 53 = some F_Zm.erase := by kernel_rfl
theorem k_Zm:callable Tryz.prog 53 = true := by kernel_rfl
def F_Z10:TFn := ⟨37,4,[.tmp 6],(.seq (.reg [(oQ 3 (.box 0 (.t 0))),(oQ 4 (.box 1 (.t 1))),(oQ 6 (.mv cF))])
 (.seq (.seq (.reg [(fQ 10 0 3),(lQ 11 10),(hQ 12 11),(oQ 13 (.mv (iQ 0)))])
 (.block 0 (.loop [.v 13 tQ] [2,3] [2,3] (.seq (.reg [(bQ 14 .lss 13 12)])
 (.seq (.cond (.t 14) .skip (.exit 0))
 (.seq (.block 1 (.seq (.reg [(mQ 15 13),(jQ 16 2 11 13),(nQ 17 2 16),(oQ 8 (.newz 2 [zQ,zQ])),(mQ 7 15),(sQ 2 8 17)])
 (.seq (.reg [(fQ 18 0 4),(lQ 19 18),(mQ 20 7),(jQ 21 2 19 20),(nQ 22 2 21),(oQ 9 (.newz 3 [zQ,zQ])),(sQ 2 9 22)])
 (.seq (.reg [(fQ 23 0 8),(lQ 24 23),(fQ 25 0 9),(lQ 26 25),(oQ 27 (.mm true (.t 24) (.t 26))),(fQ 28 0 8),(lQ 29 28),(fQ 30 0 9),(lQ 31 30),(oQ 32 (.mm false (.t 29) (.t 31))),(bQ 33 .sub 27 32),(mQ 34 2),(bQ 35 .geq 33 34)])
 (.cond (.t 35) (.seq (.reg [(oQ 6 (.mv cT))])
 .ret) .skip)))))
 (.reg [(cQ 36 .add 13 1),(mQ 13 36)])))))))
 (.seq (.reg [(oQ 6 (.mv cF))])
 .ret)))⟩
def A_Z10:Nat→Ty := tyAt [.un,.un,.un,.un]
abbrev P_Z10:List PSh := [.agg (.sl pQ),.agg (.sl pQ),.one tQ]
abbrev R_Z10:List PSh := [.one .bool]
theorem e_Z10:cFn Tryz.prog 55 = some F_Z10.erase := by kernel_rfl
theorem k_Z10:callable Tryz.prog 55 = true := by kernel_rfl
def F_Z9:TFn := ⟨79,6,[.tmp 2,.tmp 3],(.seq (.reg [(oQ 1 (.box 0 (.t 0))),(oQ 2 (.mv (iQ 0))),(oQ 3 (.mv (iQ 0)))])
 (.seq (.seq (.reg [(fQ 9 0 1),(lQ 10 9),(hQ 11 10),(cQ 12 .eql 11 0)])
 (.cond (.t 12) (.seq (.reg [(oQ 2 (.mv (iQ 0))),(oQ 3 (.mv (iQ 10)))])
 .ret) .skip))
 (.seq (.seq (.reg [(fQ 13 0 1),(lQ 14 13),(hQ 15 14),(cQ 16 .gtr 15 4)])
 (.cond (.t 16) (.seq (.reg [(oQ 2 (.mv (iQ 0))),(oQ 3 (.mv (iQ 8)))])
 .ret) .skip))
 (.seq (.reg [(oQ 4 (.mv (iQ 1)))])
 (.seq (.seq (.reg [(oQ 5 (.mv (iQ 0)))])
 (.block 0 (.loop [.v 5 tQ,.v 4 tQ] [1] [1] (.seq (.seq (.reg [(mQ 17 5),(fQ 18 0 1),(lQ 19 18),(hQ 20 19),(bQ 21 .lss 17 20)])
 (.cond (.t 21) .skip (.exit 0)))
 (.seq (.block 1 (.seq (.reg [(fQ 24 0 1),(lQ 25 24),(mQ 26 5),(jQ 27 2 25 26),(nQ 28 2 27),(oQ 6 (.newz 1 [(.p (.sl 0 [] true)),(.p (.sl 0 [] true))])),(sQ 2 6 28)])
 (.seq (.seq (.reg [(fQ 29 0 6),(lQ 30 29),(hQ 31 30),(cQ 32 .eql 31 0),(mQ 33 32),(gQ 34 33 false (.fa 1 (.t 6))),(gQ 35 33 false (.ld1 (.t 34))),(gQ 36 33 false (.len false (.t 35))),(gQ 37 33 false (.bin .eql (.t 36) (iQ 0))),(oQ 38 (.pick (.t 33) cT (.t 37)))])
 (.cond (.t 38) (.seq (.reg [(mQ 39 5),(mQ 2 39),(oQ 3 (.mv (iQ 10)))])
 .ret) .skip))
 (.seq (.seq (.reg [(fQ 40 0 6),(lQ 41 40),(kQ 42 2 89 [(.t 41),cT]),(mQ 7 42)])
 (.seq (.reg [(mQ 43 7),(cQ 44 .neq 43 0)])
 (.cond (.t 44) (.seq (.reg [(mQ 45 5),(mQ 46 7),(mQ 2 45),(mQ 3 46)])
 .ret) .skip)))
 (.seq (.seq (.reg [(fQ 47 1 6),(lQ 48 47),(kQ 49 3 89 [(.t 48),cF]),(mQ 8 49)])
 (.seq (.reg [(mQ 50 8),(cQ 51 .neq 50 0)])
 (.cond (.t 51) (.seq (.reg [(mQ 52 5),(mQ 53 8),(mQ 2 52),(mQ 3 53)])
 .ret) .skip)))
 (.seq (.seq (.reg [(mQ 54 5),(fQ 55 0 1),(lQ 56 55),(hQ 57 56),(cQ 58 .sub 57 1),(bQ 59 .eql 54 58),(mQ 60 59),(gQ 61 60 true (.fa 1 (.t 6))),(gQ 62 60 true (.ld1 (.t 61))),(gQ 63 60 true (.bsl false 4 1 1 [zQ] [(0,1,(iQ 0))])),⟨some 64,some (some 60,true),(.call 5 18 [(.t 62),(.t 63)])⟩,(gQ 65 60 true (.unot (.t 64))),(oQ 66 (.pick (.t 60) (.t 65) cF))])
 (.cond (.t 66) (.seq (.reg [(mQ 67 5),(mQ 2 67),(oQ 3 (.mv (iQ 3)))])
 .ret) .skip))
 (.reg [(mQ 68 4),(fQ 69 0 6),(lQ 70 69),(hQ 71 70),(bQ 72 .mul 68 71),(fQ 73 1 6),(lQ 74 73),(hQ 75 74),(bQ 76 .mul 72 75),(mQ 4 76)])))))))
 (.reg [(mQ 22 5),(cQ 23 .add 22 1),(mQ 5 23)]))))))
 (.seq (.seq (.reg [(mQ 77 4),(cQ 78 .gtr 77 300)])
 (.cond (.t 78) (.seq (.reg [(oQ 2 (.mv (iQ 0))),(oQ 3 (.mv (iQ 16)))])
 .ret) .skip))
 (.seq (.reg [(oQ 2 (.mv (iQ 0))),(oQ 3 (.mv (iQ 0)))])
 .ret)))))))⟩
def A_Z9:Nat→Ty := tyAt [.un,.un,.un,.un,tQ,.un]
abbrev P_Z9:List PSh := [.agg (.sl (.pr (.sl tQ) (.sl tQ)))]
abbrev R_Z9:List PSh := [.one tQ,.one tQ]
theorem e_Z9:cFn Tryz.prog 56 = some F_Z9.erase := by kernel_rfl
theorem k_Z9:callable Tryz.prog 56 = true := by kernel_rfl
def F_Z2:TFn := ⟨77,3,[.tmp 2,.tmp 3],(.seq (.reg [(oQ 2 (.mv (iQ 0))),(oQ 3 (.mv (iQ 0)))])
 (.seq (.seq (.reg [(mQ 5 0),(hQ 6 5),(cQ 7 .eql 6 0)])
 (.cond (.t 7) (.seq (.reg [(oQ 2 (.mv (iQ 0))),(oQ 3 (.mv (iQ 10)))])
 .ret) .skip))
 (.seq (.seq (.reg [(mQ 8 0),(hQ 9 8),(cQ 10 .gtr 9 6)])
 (.cond (.t 10) (.seq (.reg [(oQ 2 (.mv (iQ 0))),(oQ 3 (.mv (iQ 8)))])
 .ret) .skip))
 (.seq (.seq (.reg [(oQ 4 (.mv (iQ 0)))])
 (.block 0 (.loop [.v 4 tQ] [] [] (.seq (.seq (.reg [(mQ 11 4),(mQ 12 0),(hQ 13 12),(bQ 14 .lss 11 13)])
 (.cond (.t 14) .skip (.exit 0)))
 (.seq (.block 1 (.seq (.seq (.reg [(mQ 17 0),(mQ 18 4),(jQ 19 3 17 18),(fQ 20 0 19),(lQ 21 20),(kQ 22 0 90 [(.t 21)]),(cQ 23 .neq 22 0),(mQ 24 23),(vQ 25 24 false 0),(vQ 26 24 false 4),(gQ 27 24 false (.ia 3 (.t 25) (.t 26))),(gQ 28 24 false (.fa 1 (.t 27))),(gQ 29 24 false (.fa 0 (.t 28))),(gQ 30 24 false (.ld1 (.t 29))),⟨some 31,some (some 24,false),(.call 1 21 [(.t 30),(iQ 0),(iQ 100000)])⟩,(gQ 32 24 false (.unot (.t 31))),(oQ 33 (.pick (.t 24) cT (.t 32))),(mQ 34 33),(vQ 35 34 false 0),(vQ 36 34 false 4),(gQ 37 34 false (.ia 3 (.t 35) (.t 36))),(gQ 38 34 false (.fa 1 (.t 37))),(gQ 39 34 false (.fa 1 (.t 38))),(gQ 40 34 false (.ld1 (.t 39))),⟨some 41,some (some 34,false),(.call 2 21 [(.t 40),(iQ 0),(iQ 100000)])⟩,(gQ 42 34 false (.unot (.t 41))),(oQ 43 (.pick (.t 34) cT (.t 42)))])
 (.cond (.t 43) (.seq (.reg [(mQ 44 4),(mQ 2 44),(oQ 3 (.mv (iQ 2)))])
 .ret) .skip))
 (.seq (.regd [(mQ 45 0),(mQ 46 4),(jQ 47 3 45 46),(fQ 48 1 47),(fQ 49 0 48),(lQ 50 49),(mQ 51 0),(mQ 52 4),(jQ 53 3 51 52),(fQ 54 1 53),(fQ 55 1 54),(lQ 56 55),(bQ 57 .gtr 50 56),(mQ 58 57),(vQ 59 58 false 4),(gQ 60 58 false (.bin .gtr (.t 59) (iQ 0))),(vQ 61 58 false 60),(vQ 62 61 true 0),(vQ 63 61 true 4),(gQ 64 61 true (.ia 3 (.t 62) (.t 63))),(gQ 65 61 true (.fa 0 (.t 64))),(gQ 66 61 true (.ld1 (.t 65))),(vQ 67 61 true 0),(vQ 68 61 true 4),(gQ 69 61 true (.bin .sub (.t 68) (iQ 1))),(gQ 70 61 true (.ia 3 (.t 67) (.t 69))),(gQ 71 61 true (.fa 0 (.t 70))),(gQ 72 61 true (.ld1 (.t 71))),(gQ 73 61 true (.bin .leq (.t 66) (.t 72))),(gQ 74 58 false (.pick (.t 61) (.t 73) cF)),(oQ 75 (.pick (.t 58) cT (.t 74)))] [(5,11),(21,27)] [])
 (.cond (.t 75) (.seq (.reg [(mQ 76 4),(mQ 2 76),(oQ 3 (.mv (iQ 9)))])
 .ret) .skip))))
 (.reg [(mQ 15 4),(cQ 16 .add 15 1),(mQ 4 16)]))))))
 (.seq (.reg [(oQ 2 (.mv (iQ 0))),(oQ 3 (.mv (iQ 0)))])
 .ret)))))⟩
def A_Z2:Nat→Ty := tyAt [.un,.un,.un]
abbrev P_Z2:List PSh := [.one (.sl (.pr tQ pQ))]
abbrev R_Z2:List PSh := [.one tQ,.one tQ]
theorem e_Z2:cFn Tryz.prog 57 = some F_Z2.erase := by kernel_rfl
theorem k_Z2:callable Tryz.prog 57 = true := by kernel_rfl
def F_Zf:TFn := ⟨65,5,[.celln 4 1],(.seq (.reg [(oQ 2 (.box 0 (.t 0))),(oQ 4 (.newz 1 [(.p (.sl 0 [] true))]))])
 (.seq (.reg [(fQ 8 0 2),(lQ 9 8),(hQ 10 9),(oQ 11 (.mk 2 2 16 [zQ,zQ] (.t 10))),(oQ 12 (.build [(.p (.sl 0 [] true))] [(0,1,(.t 11))])),(oQ 5 (.newz 3 [(.p (.sl 0 [] true))])),(sQ 1 5 12)])
 (.seq (.seq (.reg [(fQ 13 0 2),(lQ 14 13),(hQ 15 14),(cQ 16 .sub 15 1),(mQ 6 16)])
 (.block 0 (.loop [.v 6 tQ,.v 1 tQ,.d 2 pQ] [2,4] [4] (.seq (.seq (.reg [(mQ 17 6),(cQ 18 .geq 17 0)])
 (.cond (.t 18) .skip (.exit 0)))
 (.seq (.block 1 (.seq (.reg [(fQ 21 0 2),(lQ 22 21),(mQ 23 6),(jQ 24 2 22 23),(nQ 25 2 24),(oQ 7 (.newz 4 [(.p (.sl 0 [] true)),(.p (.sl 0 [] true))])),(sQ 2 7 25)])
 (.seq (.regd [(fQ 26 0 5),(lQ 27 26),(mQ 28 6),(fQ 29 1 7),(lQ 30 29),(mQ 31 1),(fQ 32 1 7),(lQ 33 32),(hQ 34 33),(bQ 35 .rem 31 34),(jQ 36 1 30 35),(lQ 37 36),(jQ 38 2 27 28),(fQ 39 1 38),(sQ 1 39 37)] [(1,4),(1,7),(4,7),(1,11)] [])
 (.seq (.reg [(mQ 40 1),(fQ 41 1 7),(lQ 42 41),(hQ 43 42),(bQ 44 .quo 40 43),(mQ 1 44)])
 (.seq (.regd [(fQ 45 0 5),(lQ 46 45),(mQ 47 6),(fQ 48 0 7),(lQ 49 48),(mQ 50 1),(fQ 51 0 7),(lQ 52 51),(hQ 53 52),(bQ 54 .rem 50 53),(jQ 55 1 49 54),(lQ 56 55),(jQ 57 2 46 47),(fQ 58 0 57),(sQ 1 58 56)] [(1,4),(1,7),(4,7),(1,11)] [])
 (.reg [(mQ 59 1),(fQ 60 0 7),(lQ 61 60),(hQ 62 61),(bQ 63 .quo 59 62),(mQ 1 63)]))))))
 (.reg [(mQ 19 6),(cQ 20 .sub 19 1),(mQ 6 20)]))))))
 (.seq (.reg [(nQ 64 1 5),(sQ 1 4 64)])
 .ret))))⟩
def A_Zf:Nat→Ty := tyAt [.un,.un,pQ,.un,.un]
abbrev P_Zf:List PSh := [.agg (.sl (.pr (.sl tQ) (.sl tQ))),.one tQ]
abbrev R_Zf:List PSh := [.agg (.sl pQ)]
theorem e_Zf:cFn Tryz.prog 59 = some F_Zf.erase := by kernel_rfl
theorem k_Zf:callable Tryz.prog 59 = true := by kernel_rfl
def F_Z20:TFn := ⟨10,3,[.tmp 4],(.seq (.reg [(oQ 2 (.box 0 (.t 0))),(oQ 4 (.mv cF))])
 (.seq (.reg [(nQ 5 1 2),(mQ 6 1),(kQ 7 1 68 [(.t 5),(.t 6)]),(kQ 8 2 27 [(.t 7)]),(cQ 9 .eql 8 0),(mQ 4 9)])
 .ret))⟩
def A_Z20:Nat→Ty := tyAt [.un,.un,.un]
abbrev P_Z20:List PSh := [.agg (.sl pQ),.one (.sl (.pr tQ pQ))]
abbrev R_Z20:List PSh := [.one .bool]
theorem e_Z20:cFn Tryz.prog 58 = some F_Z20.erase := by kernel_rfl
theorem k_Z20:callable Tryz.prog 58 = true := by kernel_rfl
def F_Z17:TFn := ⟨31,3,[.tmp 6],(.seq (.reg [(oQ 3 (.box 0 (.t 0))),(oQ 4 (.box 1 (.t 1))),(oQ 6 (.mv cF))])
 (.seq (.seq (.reg [(oQ 7 (.mv (iQ 0)))])
 (.block 0 (.loop [.v 7 tQ] [] [] (.seq (.seq (.reg [(mQ 8 7),(fQ 9 0 3),(lQ 10 9),(hQ 11 10),(bQ 12 .lss 8 11)])
 (.cond (.t 12) .skip (.exit 0)))
 (.seq (.block 1 (.seq (.regd [(fQ 15 0 3),(lQ 16 15),(mQ 17 7),(jQ 18 2 16 17),(fQ 19 0 18),(lQ 20 19),(fQ 21 0 4),(lQ 22 21),(mQ 23 7),(jQ 24 2 22 23),(fQ 25 0 24),(lQ 26 25),(bQ 27 .sub 20 26),(kQ 28 2 91 [(.t 27)]),(mQ 29 2),(bQ 30 .geq 28 29)] [(1,7),(5,7),(1,11),(5,11)] [])
 (.cond (.t 30) (.seq (.reg [(oQ 6 (.mv cT))])
 .ret) .skip)))
 (.reg [(mQ 13 7),(cQ 14 .add 13 1),(mQ 7 14)]))))))
 (.seq (.reg [(oQ 6 (.mv cF))])
 .ret)))⟩
def A_Z17:Nat→Ty := tyAt [.un,.un,.un]
abbrev P_Z17:List PSh := [.agg (.sl pQ),.agg (.sl pQ),.one tQ]
abbrev R_Z17:List PSh := [.one .bool]
theorem e_Z17:cFn Tryz.prog 60 = some F_Z17.erase := by kernel_rfl
theorem k_Z17:callable Tryz.prog 60 = true := by kernel_rfl
def F_Z2l:TFn := ⟨18,4,[],(.seq (.reg [(oQ 2 (.box 0 (.t 0)))])
 (.seq (.reg [(nQ 5 1 2),(kQ 6 1 77 [(.t 5)]),(oQ 7 (.mv (iQ 0)))])
 (.block 0 (.loop [] [] [] (.seq (.reg [(bQ 8 .lss 7 6)])
 (.seq (.cond (.t 8) .skip (.exit 0))
 (.seq (.block 1 (.seq (.reg [(mQ 9 7),(mQ 4 9)])
 (.seq (.reg [(mQ 10 1),(mQ 11 4),(nQ 12 1 2),(mQ 13 4),(kQ 14 2 50 [(.t 12),(.t 13)]),⟨some 15,none,(.callv 3 (.t 10) [(.t 11),(.t 14)])⟩,(oQ 16 (.unot (.t 15)))])
 (.cond (.t 16) .ret .skip))))
 (.reg [(cQ 17 .add 7 1),(mQ 7 17)]))))))))⟩
theorem e_Z2l:cFn Tryz.prog 63 = some F_Z2l.erase := by kernel_rfl
theorem k_Z2l:callI Tryz.prog 1000000063 = true := by kernel_rfl
def F_Z2t:TFn := ⟨18,2,[.celln 2 2,.tmp 3],(.seq (.reg [(oQ 1 (.box 0 (.t 0))),(oQ 2 (.newz 1 [zQ,zQ])),(oQ 3 (.mv (iQ 0)))])
 (.seq (.seq (.reg [(fQ 4 0 1),(lQ 5 4),(cQ 6 .gtr 5 1000000000),(mQ 7 6),(gQ 8 7 false (.fa 1 (.t 1))),(gQ 9 7 false (.ld1 (.t 8))),(gQ 10 7 false (.bin .gtr (.t 9) (iQ 1000000000))),(oQ 11 (.pick (.t 7) cT (.t 10)))])
 (.cond (.t 11) (.seq (.reg [(oQ 12 (.build [zQ,zQ] [])),(sQ 2 2 12),(oQ 3 (.mv (iQ 8)))])
 .ret) .skip))
 (.seq (.reg [(fQ 13 0 1),(lQ 14 13),(fQ 15 1 1),(lQ 16 15),(oQ 17 (.build [zQ,zQ] [(0,1,(.t 14)),(1,1,(.t 16))])),(sQ 2 2 17),(oQ 3 (.mv (iQ 0)))])
 .ret)))⟩
theorem e_Z2t:cFn Tryz.prog 66 = some F_Z2t.erase := by kernel_rfl
def F_Zp:TFn := ⟨33,8,[.celln 4 4],(.seq (.reg [(oQ 2 (.box 0 (.t 0))),(oQ 4 (.newz 1 [zQ,(.p (.sl 0 [] true)),zQ,(.p (.sl 0 [] true))]))])
 (.seq (.reg [(kQ 8 2 97 [(iQ 0)]),(oQ 5 (.newz 3 [zQ,(.p (.sl 0 [] true)),zQ,(.p (.sl 0 [] true))])),(sQ 4 5 8)])
 (.seq (.seq (.reg [(oQ 6 (.mv (iQ 0)))])
 (.block 0 (.loop [.v 6 tQ,.c 3 (.pr tQ (.pr (.sl tQ) (.pr tQ (.sl tQ))))] [3,6] [6] (.seq (.seq (.reg [(mQ 9 6),(mQ 10 1),(hQ 11 10),(bQ 12 .lss 9 11)])
 (.cond (.t 12) .skip (.exit 0)))
 (.seq (.block 1 (.seq (.regd [(nQ 15 1 2),(mQ 16 1),(mQ 17 6),(jQ 18 3 16 17),(fQ 19 0 18),(lQ 20 19),(kQ 21 4 99 [(.t 15),(.t 20)]),(mQ 22 1),(mQ 23 6),(jQ 24 3 22 23),(nQ 25 3 24),(kQ 26 5 98 [(.t 21),(.t 25)]),(oQ 7 (.newz 6 [zQ,(.p (.sl 0 [] true)),zQ,(.p (.sl 0 [] true))])),(sQ 4 7 26)] [(0,5),(0,10),(5,10),(6,10),(0,12),(5,12),(6,12),(10,12),(11,12)] [])
 (.seq (.reg [(nQ 27 4 7),(nQ 28 4 5),(kQ 29 7 69 [(.t 27),(.t 28)]),(cQ 30 .gtr 29 0)])
 (.cond (.t 30) (.reg [(nQ 31 4 7),(sQ 4 5 31)]) .skip))))
 (.reg [(mQ 13 6),(cQ 14 .add 13 1),(mQ 6 14)]))))))
 (.seq (.reg [(nQ 32 4 5),(sQ 4 4 32)])
 .ret))))⟩
def A_Zp:Nat→Ty := tyAt [.un,.un,.un,.un,.un,.un,.un,.un]
abbrev P_Zp:List PSh := [.agg (.sl pQ),.one (.sl (.pr tQ pQ))]
abbrev R_Zp:List PSh := [.agg (.pr (.pr tQ (.sl tQ)) (.pr tQ (.sl tQ)))]
theorem e_Zp:cFn Tryz.prog 68 = some F_Zp.erase := by kernel_rfl
theorem k_Zp:callable Tryz.prog 68 = true := by kernel_rfl
def F_Z1j:TFn := ⟨16,5,[.tmp 4],(.seq (.reg [(oQ 2 (.box 0 (.t 0))),(oQ 3 (.box 1 (.t 1))),(oQ 4 (.mv (iQ 0)))])
 (.seq (.regd [(fQ 5 0 2),(nQ 6 2 5),(fQ 7 2 3),(nQ 8 2 7),(kQ 9 2 101 [(.t 6),(.t 8)]),(fQ 10 0 3),(nQ 11 2 10),(fQ 12 2 2),(nQ 13 2 12),(kQ 14 3 101 [(.t 11),(.t 13)]),(kQ 15 4 100 [(.t 9),(.t 14)]),(mQ 4 15)] [(1,3),(1,6),(3,6),(4,6),(1,8),(3,8),(4,8),(6,8)] [])
 .ret))⟩
def A_Z1j:Nat→Ty := tyAt [.un,.un,.un,.un,.un]
abbrev P_Z1j:List PSh := [.agg (.pr (.pr tQ (.sl tQ)) (.pr tQ (.sl tQ))),.agg (.pr (.pr tQ (.sl tQ)) (.pr tQ (.sl tQ)))]
abbrev R_Z1j:List PSh := [.one tQ]
theorem e_Z1j:cFn Tryz.prog 69 = some F_Z1j.erase := by kernel_rfl
theorem k_Z1j:callable Tryz.prog 69 = true := by kernel_rfl
def F_Z24:TFn := ⟨5,1,[.tmp 2],(.seq (.reg [(oQ 1 (.box 0 (.t 0))),(oQ 2 (.mv (iQ 0)))])
 (.seq (.reg [(fQ 3 0 1),(lQ 4 3),(mQ 2 4)])
 .ret))⟩
def A_Z24:Nat→Ty := tyAt [.un]
abbrev P_Z24:List PSh := [.agg (.pr tQ (.sl tQ))]
abbrev R_Z24:List PSh := [.one tQ]
theorem e_Z24:cFn Tryz.prog 70 = some F_Z24.erase := by kernel_rfl
theorem k_Z24:callable Tryz.prog 70 = true := by kernel_rfl
def F_Zw:TFn := ⟨25,2,[.tmp 2],(.seq (.reg [(oQ 1 (.box 0 (.t 0))),(oQ 2 (.mv (iQ 0)))])
 (.seq (.reg [(oQ 3 (.mv (iQ 1)))])
 (.seq (.seq (.reg [(fQ 6 0 1),(fQ 7 0 6),(lQ 8 7),(hQ 9 8),(oQ 10 (.mv (iQ 0)))])
 (.block 0 (.loop [.v 10 tQ,.v 3 tQ] [1] [1] (.seq (.reg [(bQ 11 .lss 10 9)])
 (.seq (.cond (.t 11) .skip (.exit 0))
 (.seq (.block 1 (.seq (.reg [(jQ 12 2 8 10),(nQ 13 2 12),(oQ 5 (.newz 1 [(.p (.sl 0 [] true)),(.p (.sl 0 [] true))])),(sQ 2 5 13)])
 (.reg [(mQ 14 3),(fQ 15 0 5),(lQ 16 15),(hQ 17 16),(fQ 18 1 5),(lQ 19 18),(hQ 20 19),(bQ 21 .mul 17 20),(bQ 22 .mul 14 21),(mQ 3 22)])))
 (.reg [(cQ 23 .add 10 1),(mQ 10 23)])))))))
 (.seq (.reg [(mQ 24 3),(mQ 2 24)])
 .ret))))⟩
def A_Zw:Nat→Ty := tyAt [.un,.un]
abbrev P_Zw:List PSh := [.agg (.sl (.pr (.sl tQ) (.sl tQ)))]
abbrev R_Zw:List PSh := [.one tQ]
theorem e_Zw:cFn Tryz.prog 77 = some F_Zw.erase := by kernel_rfl
theorem k_Zw:callable Tryz.prog 77 = true := by kernel_rfl
def F_Z2u:TFn := ⟨11,2,[.tmp 2],(.seq (.reg [(oQ 1 (.box 0 (.t 0))),(oQ 2 (.mv (iQ 0)))])
 (.seq (.reg [(nQ 6 1 1),(kQ 7 1 104 [(.t 6)]),(mQ 5 7),(oQ 8 (.ext 0 (.t 5))),(oQ 9 (.ext 1 (.t 5))),(mQ 3 8),(mQ 4 9)])
 (.seq (.reg [(mQ 10 4),(mQ 2 10)])
 .ret)))⟩
theorem e_Z2u:cFn Tryz.prog 80 = some F_Z2u.erase := by kernel_rfl
def F_Z27:TFn := ⟨6,2,[.tmp 2],(.seq (.reg [(oQ 2 (.mv (iQ 0)))])
 (.seq (.reg [(mQ 3 0),(kQ 4 0 54 [(.t 3),(iQ 1),(iQ 20)]),(kQ 5 1 52 [(.t 4),(iQ 2)]),(mQ 2 5)])
 .ret))⟩
def A_Z27:Nat→Ty := tyAt [.un,.un]
abbrev P_Z27:List PSh := [.one tQ]
abbrev R_Z27:List PSh := [.one tQ]
theorem e_Z27:cFn Tryz.prog 81 = some F_Z27.erase := by kernel_rfl
theorem k_Z27:callable Tryz.prog 81 = true := by kernel_rfl
def F_Zq:TFn := ⟨57,7,[.celln 4 2],(.seq (.reg [(oQ 2 (.box 0 (.t 0))),(oQ 3 (.box 1 (.t 1))),(oQ 4 (.newz 2 [zQ,zQ]))])
 (.seq (.reg [(oQ 5 (.newz 3 [zQ,zQ]))])
 (.seq (.seq (.reg [(lQ 11 2),(kQ 12 4 105 [(.t 11)])])
 (.block 0 (.rng (.t 12) [13,14] [13,14,6,7,15,16,17,18,19,20,21,22,23,24,25,26,27,28,29,30,8,9,10,31,32,33,34,35,36,37,38,39,40,41,42,43,44,45,46,47,48,49,50,51,52,53,54,55] [.c 3 pQ] [3,5] [5] (.seq (.reg [(mQ 6 13)])
 (.reg [(oQ 7 (.newz 5 [zQ,zQ])),(sQ 2 7 14)]))
 (.block 1 (.seq (.seq (.reg [(mQ 15 6),(lQ 16 2),(hQ 17 16),(cQ 18 .sub 17 1),(bQ 19 .eql 15 18)])
 (.cond (.t 19) (.seq (.reg [(fQ 20 0 7),(lQ 21 20),(oQ 22 (.build [zQ,zQ] [(0,1,(.t 21)),(1,1,(iQ 1))])),(sQ 2 5 22)])
 (.exit 1)) .skip))
 (.seq (.regd [(fQ 23 0 7),(lQ 24 23),(fQ 25 1 7),(lQ 26 25),(fQ 27 1 7),(lQ 28 27),(lQ 29 3),(bQ 30 .add 28 29),(mQ 8 24),(mQ 9 26),(mQ 10 30)] [(1,3),(1,5),(3,5),(1,6),(3,6),(5,6)] [])
 (.reg [(mQ 31 8),(fQ 32 0 5),(lQ 33 32),(mQ 34 10),(bQ 35 .mul 33 34),(mQ 36 8),(mQ 37 9),(bQ 38 .mul 36 37),(fQ 39 1 5),(lQ 40 39),(bQ 41 .mul 38 40),(bQ 42 .add 35 41),(bQ 43 .mul 31 42),(mQ 44 8),(fQ 45 1 5),(lQ 46 45),(bQ 47 .mul 44 46),(mQ 48 10),(bQ 49 .mul 47 48),(fQ 50 0 5),(lQ 51 50),(mQ 52 9),(bQ 53 .mul 51 52),(bQ 54 .add 49 53),(kQ 55 6 95 [(.t 43),(.t 54)]),(sQ 2 5 55)])))))))
 (.seq (.reg [(nQ 56 2 5),(sQ 2 4 56)])
 .ret))))⟩
def A_Zq:Nat→Ty := tyAt [.un,.un,.un,.un,.un,.un,.un]
abbrev P_Zq:List PSh := [.one (.sl pQ),.one tQ]
abbrev R_Zq:List PSh := [.agg pQ]
theorem e_Zq:cFn Tryz.prog 82 = some F_Zq.erase := by kernel_rfl
theorem k_Zq:callable Tryz.prog 82 = true := by kernel_rfl
def F_Z28:TFn := ⟨14,3,[.celln 2 1,.tmp 3],(.seq (.reg [(oQ 1 (.box 0 (.t 0))),(oQ 2 (.newz 1 [(.p (.sl 0 [] true))])),(oQ 3 (.mv (iQ 0)))])
 (.seq (.reg [(nQ 7 1 1),(kQ 8 2 106 [(.t 7)]),(mQ 6 8),(oQ 9 (.ext 0 (.t 6))),(oQ 10 (.ext 1 (.t 6))),(mQ 4 9),(mQ 5 10)])
 (.seq (.reg [(nQ 11 1 1),(oQ 12 (.build [(.p (.sl 0 [] true))] [(0,1,(.t 11))])),(mQ 13 5),(sQ 1 2 12),(mQ 3 13)])
 .ret)))⟩
def A_Z28:Nat→Ty := tyAt [.un,.un,.un]
abbrev P_Z28:List PSh := [.agg (.sl (.pr (.sl tQ) (.sl tQ)))]
abbrev R_Z28:List PSh := [.agg (.sl (.pr (.sl tQ) (.sl tQ))),.one tQ]
theorem e_Z28:cFn Tryz.prog 83 = some F_Z28.erase := by kernel_rfl
theorem k_Z28:callable Tryz.prog 83 = true := by kernel_rfl
def F_Z2v:TFn := ⟨26,0,[.tmp 4],(.seq (.reg [(oQ 4 (.mv cF))])
 (.seq (.seq (.reg [(mQ 6 0),(hQ 7 6),(mQ 8 1),(hQ 9 8),(bQ 10 .neq 7 9)])
 (.cond (.t 10) (.seq (.reg [(oQ 4 (.mv cF))])
 .ret) .skip))
 (.seq (.seq (.reg [(mQ 11 0),(hQ 12 11),(oQ 13 (.mv (iQ 0)))])
 (.block 0 (.loop [.v 13 tQ] [] [] (.seq (.reg [(bQ 14 .lss 13 12)])
 (.seq (.cond (.t 14) .skip (.exit 0))
 (.seq (.block 1 (.seq (.reg [(mQ 15 13),(mQ 5 15)])
 (.seq (.regd [(mQ 16 0),(mQ 17 5),(jQ 18 2 16 17),(nQ 19 2 18),(mQ 20 1),(mQ 21 5),(jQ 22 2 20 21),(nQ 23 2 22),(oQ 24 (.eqa true 2 [(true,0),(true,1)] (.t 19) (.t 23)))] [(3,7)] [])
 (.cond (.t 24) (.seq (.reg [(oQ 4 (.mv cF))])
 .ret) .skip))))
 (.reg [(cQ 25 .add 13 1),(mQ 13 25)])))))))
 (.seq (.reg [(oQ 4 (.mv cT))])
 .ret))))⟩
theorem e_Z2v:cFn Tryz.prog 84 = some F_Z2v.erase := by kernel_rfl
def F_Z29:TFn := ⟨11,1,[.tmp 2],(.seq (.reg [(oQ 2 (.mv (iQ 0)))])
 (.seq (.reg [(mQ 6 0),(kQ 7 0 107 [(.t 6)]),(mQ 5 7),(oQ 8 (.ext 0 (.t 5))),(oQ 9 (.ext 1 (.t 5))),(mQ 3 8),(mQ 4 9)])
 (.seq (.reg [(mQ 10 4),(mQ 2 10)])
 .ret)))⟩
def A_Z29:Nat→Ty := tyAt [.un]
abbrev P_Z29:List PSh := [.one (.sl (.pr tQ pQ))]
abbrev R_Z29:List PSh := [.one tQ]
theorem e_Z29:cFn Tryz.prog 85 = some F_Z29.erase := by kernel_rfl
theorem k_Z29:callable Tryz.prog 85 = true := by kernel_rfl
def F_Z1f:TFn := ⟨9,2,[.tmp 4],(.seq (.reg [(oQ 2 (.box 0 (.t 0))),(oQ 4 (.mv cF))])
 (.seq (.reg [(mQ 5 1),(oQ 6 (.clo 109 [(.t 2)])),(kQ 7 1 108 [(.t 5),(.t 6)]),(oQ 8 (.unot (.t 7))),(mQ 4 8)])
 .ret))⟩
def A_Z1f:Nat→Ty := tyAt [.un,.un]
abbrev P_Z1f:List PSh := [.agg (.sl pQ),.one (.sl (.pr tQ pQ))]
abbrev R_Z1f:List PSh := [.one .bool]
theorem e_Z1f:cFn Tryz.prog 86 = some F_Z1f.erase := by kernel_rfl
theorem k_Z1f:callable Tryz.prog 86 = true := by kernel_rfl
def F_Z2a:TFn := ⟨4,1,[.tmp 2],(.seq (.reg [(oQ 1 (.box 0 (.t 0))),(oQ 2 (.mv (.c .und)))])
 (.seq (.reg [(oQ 3 (.clo 111 [(.t 1)])),(mQ 2 3)])
 .ret))⟩
def A_Z2a:Nat→Ty := tyAt [.un]
abbrev P_Z2a:List PSh := [.one (.sl (.pr (.sl tQ) (.sl tQ)))]
abbrev R_Z2a:List PSh := [.fn 111 [(.sl (.pr (.sl tQ) (.sl tQ)))]]
theorem e_Z2a:cFn Tryz.prog 88 = some F_Z2a.erase := by kernel_rfl
theorem k_Z2a:callable Tryz.prog 88 = true := by kernel_rfl
def F_Z2m:TFn := ⟨19,1,[],(.seq (.reg [(lQ 4 1),(hQ 5 4),(cQ 6 .sub 5 1),(mQ 3 6)])
 (.block 0 (.loop [] [] [] (.seq (.seq (.reg [(mQ 7 3),(cQ 8 .geq 7 0)])
 (.cond (.t 8) .skip (.exit 0)))
 (.seq (.block 1 (.seq (.reg [(mQ 11 0),(mQ 12 3),(lQ 13 1),(mQ 14 3),(jQ 15 2 13 14),(nQ 16 2 15),⟨some 17,none,(.callv 0 (.t 11) [(.t 12),(.t 16)])⟩,(oQ 18 (.unot (.t 17)))])
 (.cond (.t 18) .ret .skip)))
 (.reg [(mQ 9 3),(cQ 10 .sub 9 1),(mQ 3 10)]))))))⟩
theorem e_Z2m:cFn Tryz.prog 111 = some F_Z2m.erase := by kernel_rfl
theorem k_Z2m:callI Tryz.prog 111 = true := by kernel_rfl
def F_Z15:TFn := ⟨17,0,[.tmp 3],(.seq (.reg [(oQ 3 (.mv (iQ 0)))])
 (.seq (.reg [(mQ 5 0),(lQ 6 1),(mQ 7 0),(hQ 8 7),(bQ 9 .rem 6 8),(jQ 10 1 5 9),(lQ 11 10),(mQ 4 11)])
 (.seq (.reg [(lQ 12 1),(mQ 13 0),(hQ 14 13),(bQ 15 .quo 12 14),(sQ 1 1 15)])
 (.seq (.reg [(mQ 16 4),(mQ 3 16)])
 .ret))))⟩
def A_Z15:Nat→Ty := tyAt [.un]
abbrev U_Z15:Ty := (.sl tQ)
abbrev T_Z15:Ty := tQ
abbrev V_Z15:Ty := tQ
theorem e_Z15:cFnM Tryz.prog 87 = some F_Z15.erase := by kernel_rfl
theorem k_Z15:callable Tryz.prog 87 = true := by kernel_rfl
def F_Za:TFn := ⟨47,2,[.tmp 4],(.seq (.reg [(oQ 4 (.mv (iQ 0)))])
 (.seq (.seq (.reg [(oQ 5 (.mv (iQ 0)))])
 (.block 0 (.loop [.v 5 tQ] [] [] (.seq (.seq (.reg [(mQ 6 5),(mQ 7 0),(hQ 8 7),(bQ 9 .lss 6 8)])
 (.cond (.t 9) .skip (.exit 0)))
 (.seq (.block 1 (.seq (.seq (.reg [(mQ 12 1),(mQ 13 12),(vQ 14 13 true 0),(vQ 15 13 true 5),(gQ 16 13 true (.ia 1 (.t 14) (.t 15))),(gQ 17 13 true (.ld1 (.t 16))),⟨some 18,some (some 13,true),(.call 0 112 [(.t 17)])⟩,(gQ 19 13 true (.unot (.t 18))),(oQ 20 (.pick (.t 13) (.t 19) cF)),(mQ 21 20),(vQ 22 21 false 1),(gQ 23 21 false (.unot (.t 22))),(vQ 24 21 false 23),(vQ 25 24 true 0),(vQ 26 24 true 5),(gQ 27 24 true (.ia 1 (.t 25) (.t 26))),(gQ 28 24 true (.ld1 (.t 27))),⟨some 29,some (some 24,true),(.call 1 113 [(.t 28)])⟩,(gQ 30 24 true (.unot (.t 29))),(gQ 31 21 false (.pick (.t 24) (.t 30) cF)),(oQ 32 (.pick (.t 21) cT (.t 31)))])
 (.cond (.t 32) (.seq (.reg [(oQ 4 (.mv (iQ 2)))])
 .ret) .skip))
 (.seq (.regd [(mQ 33 5),(cQ 34 .gtr 33 0),(mQ 35 34),(vQ 36 35 true 0),(vQ 37 35 true 5),(gQ 38 35 true (.ia 1 (.t 36) (.t 37))),(gQ 39 35 true (.ld1 (.t 38))),(vQ 40 35 true 0),(vQ 41 35 true 5),(gQ 42 35 true (.bin .sub (.t 41) (iQ 1))),(gQ 43 35 true (.ia 1 (.t 40) (.t 42))),(gQ 44 35 true (.ld1 (.t 43))),(gQ 45 35 true (.bin .leq (.t 39) (.t 44))),(oQ 46 (.pick (.t 35) (.t 45) cF))] [(6,11)] [])
 (.cond (.t 46) (.seq (.reg [(oQ 4 (.mv (iQ 9)))])
 .ret) .skip))))
 (.reg [(mQ 10 5),(cQ 11 .add 10 1),(mQ 5 11)]))))))
 (.seq (.reg [(oQ 4 (.mv (iQ 0)))])
 .ret)))⟩
def A_Za:Nat→Ty := tyAt [.un,.un]
abbrev P_Za:List PSh := [.one (.sl tQ),.one .bool]
abbrev R_Za:List PSh := [.one tQ]
theorem e_Za:cFn Tryz.prog 89 = some F_Za.erase := by kernel_rfl
theorem k_Za:callable Tryz.prog 89 = true := by kernel_rfl
def F_Z2h:TFn := ⟨6,1,[.tmp 2],(.seq (.reg [(oQ 2 (.mv (iQ 0)))])
 (.seq (.seq (.reg [(mQ 3 0),(kQ 4 0 21 [(.t 3),(iQ 1),(iQ 20)]),(oQ 5 (.unot (.t 4)))])
 (.cond (.t 5) (.seq (.reg [(oQ 2 (.mv (iQ 2)))])
 .ret) .skip))
 (.seq (.reg [(oQ 2 (.mv (iQ 0)))])
 .ret)))⟩
def A_Z2h:Nat→Ty := tyAt [.un]
abbrev P_Z2h:List PSh := [.one tQ]
abbrev R_Z2h:List PSh := [.one tQ]
theorem e_Z2h:cFn Tryz.prog 90 = some F_Z2h.erase := by kernel_rfl
theorem k_Z2h:callable Tryz.prog 90 = true := by kernel_rfl
def F_Z1c:TFn := ⟨7,0,[.tmp 2],(.seq (.reg [(oQ 2 (.mv (iQ 0)))])
 (.seq (.reg [(mQ 3 0),(mQ 4 0),(oQ 5 (.uneg (.t 4))),(oQ 6 (.mm true (.t 3) (.t 5))),(mQ 2 6)])
 .ret))⟩
def A_Z1c:Nat→Ty := tyAt []
abbrev P_Z1c:List PSh := [.one tQ]
abbrev R_Z1c:List PSh := [.one tQ]
theorem e_Z1c:cFn Tryz.prog 91 = some F_Z1c.erase := by kernel_rfl
theorem k_Z1c:callable Tryz.prog 91 = true := by kernel_rfl
def F_Z1g:TFn := ⟨16,2,[.celln 4 2],(.seq (.reg [(oQ 4 (.newz 0 [zQ,zQ]))])
 (.seq (.reg [(mQ 6 0),(mQ 7 1),(kQ 8 1 114 [(.t 6),(.t 7)]),(mQ 5 8)])
 (.seq (.regd [(mQ 9 0),(mQ 10 5),(bQ 11 .quo 9 10),(mQ 12 1),(mQ 13 5),(bQ 14 .quo 12 13),(oQ 15 (.build [zQ,zQ] [(0,1,(.t 11)),(1,1,(.t 14))])),(sQ 2 4 15)] [] [])
 .ret)))⟩
def A_Z1g:Nat→Ty := tyAt [.un,.un]
abbrev P_Z1g:List PSh := [.one tQ,.one tQ]
abbrev R_Z1g:List PSh := [.agg pQ]
theorem e_Z1g:cFn Tryz.prog 95 = some F_Z1g.erase := by kernel_rfl
theorem k_Z1g:callable Tryz.prog 95 = true := by kernel_rfl
def F_Z19:TFn := ⟨7,3,[.celln 2 4],(.seq (.reg [(oQ 2 (.newz 0 [zQ,(.p (.sl 0 [] true)),zQ,(.p (.sl 0 [] true))]))])
 (.seq (.reg [(mQ 3 0),(kQ 4 1 116 [(.t 3)]),(kQ 5 2 116 [(iQ 1)]),(oQ 6 (.build [zQ,(.p (.sl 0 [] true)),zQ,(.p (.sl 0 [] true))] [(0,2,(.t 4)),(2,2,(.t 5))])),(sQ 4 2 6)])
 .ret))⟩
def A_Z19:Nat→Ty := tyAt [.un,.un,.un]
abbrev P_Z19:List PSh := [.one tQ]
abbrev R_Z19:List PSh := [.agg (.pr (.pr tQ (.sl tQ)) (.pr tQ (.sl tQ)))]
theorem e_Z19:cFn Tryz.prog 97 = some F_Z19.erase := by kernel_rfl
theorem k_Z19:callable Tryz.prog 97 = true := by kernel_rfl
def F_Z5:TFn := ⟨59,16,[.celln 4 4],(.seq (.reg [(oQ 2 (.box 0 (.t 0))),(oQ 4 (.newz 1 [zQ,(.p (.sl 0 [] true)),zQ,(.p (.sl 0 [] true))]))])
 (.seq (.reg [(fQ 12 0 2),(lQ 13 12),(hQ 14 13),(mQ 5 14)])
 (.seq (.reg [(fQ 15 0 2),(lQ 16 15),(mQ 17 5),(cQ 18 .sub 17 1),(jQ 19 2 16 18),(fQ 20 0 19),(lQ 21 20),(kQ 22 2 97 [(.t 21)]),(oQ 6 (.newz 3 [zQ,(.p (.sl 0 [] true)),zQ,(.p (.sl 0 [] true))])),(sQ 4 6 22)])
 (.seq (.seq (.reg [(mQ 23 5),(cQ 24 .sub 23 2),(mQ 7 24)])
 (.block 0 (.loop [.v 7 tQ,.c 3 (.pr tQ (.pr (.sl tQ) (.pr tQ (.sl tQ))))] [3,4,7,8,12] [4,7,8,12] (.seq (.seq (.reg [(mQ 25 7),(cQ 26 .geq 25 0)])
 (.cond (.t 26) .skip (.exit 0)))
 (.seq (.block 1 (.seq (.reg [(fQ 29 0 2),(lQ 30 29),(mQ 31 7),(jQ 32 2 30 31),(nQ 33 2 32),(oQ 8 (.newz 4 [zQ,zQ])),(sQ 2 8 33)])
 (.seq (.regd [(fQ 34 0 8),(lQ 35 34),(kQ 36 5 97 [(.t 35)]),(fQ 37 1 8),(lQ 38 37),(fQ 39 1 8),(lQ 40 39),(mQ 41 1),(bQ 42 .add 40 41),(kQ 43 6 119 [(.t 38),(.t 42)]),(oQ 9 (.newz 7 [zQ,(.p (.sl 0 [] true)),zQ,(.p (.sl 0 [] true))])),(oQ 10 (.newz 8 [zQ,(.p (.sl 0 [] true)),zQ,(.p (.sl 0 [] true))])),(sQ 4 9 36),(sQ 4 10 43)] [(1,4),(2,4),(1,6),(2,6),(4,6),(1,10),(2,10),(4,10),(6,10),(9,10),(1,11),(2,11),(4,11),(6,11),(9,11),(10,11)] [])
 (.seq (.regd [(nQ 44 4 9),(nQ 45 4 6),(nQ 46 4 9),(nQ 47 4 10),(kQ 48 9 120 [(.t 46),(.t 47)]),(kQ 49 10 121 [(.t 45),(.t 48)]),(kQ 50 11 120 [(.t 44),(.t 49)]),(oQ 11 (.newz 12 [zQ,(.p (.sl 0 [] true)),zQ,(.p (.sl 0 [] true))])),(sQ 4 11 50)] [(0,1),(0,2),(1,2),(0,3),(1,3),(2,3),(0,4),(1,4),(0,5),(0,7),(1,7),(2,7),(3,7),(4,7),(5,7),(6,7)] [])
 (.regd [(nQ 51 4 11),(nQ 52 4 9),(nQ 53 4 6),(nQ 54 4 10),(kQ 55 13 120 [(.t 53),(.t 54)]),(kQ 56 14 121 [(.t 52),(.t 55)]),(kQ 57 15 122 [(.t 51),(.t 56)]),(sQ 4 6 57)] [(0,1),(0,2),(1,2),(0,3),(1,3),(2,3),(0,4),(1,4),(0,5)] [])))))
 (.reg [(mQ 27 7),(cQ 28 .sub 27 1),(mQ 7 28)]))))))
 (.seq (.reg [(nQ 58 4 6),(sQ 4 4 58)])
 .ret)))))⟩
def A_Z5:Nat→Ty := tyAt [.un,.un,.un,.un,.un,.un,.un,.un,.un,.un,.un,.un,.un,.un,.un,.un]
abbrev P_Z5:List PSh := [.agg (.sl pQ),.one tQ]
abbrev R_Z5:List PSh := [.agg (.pr (.pr tQ (.sl tQ)) (.pr tQ (.sl tQ)))]
theorem e_Z5:cFn Tryz.prog 99 = some F_Z5.erase := by kernel_rfl
theorem k_Z5:callable Tryz.prog 99 = true := by kernel_rfl
def F_Z1s:TFn := ⟨33,14,[.celln 4 4],(.seq (.reg [(oQ 2 (.box 0 (.t 0))),(oQ 3 (.box 1 (.t 1))),(oQ 4 (.newz 2 [zQ,(.p (.sl 0 [] true)),zQ,(.p (.sl 0 [] true))]))])
 (.seq (.reg [(nQ 8 4 2),(kQ 9 3 117 [(.t 8)]),(oQ 5 (.newz 4 [zQ,(.p (.sl 0 [] true)),zQ,(.p (.sl 0 [] true))])),(sQ 4 5 9)])
 (.seq (.seq (.reg [(fQ 10 1 3),(fQ 11 0 10),(lQ 12 11),(kQ 13 5 97 [(.t 12)]),(oQ 6 (.newz 6 [zQ,(.p (.sl 0 [] true)),zQ,(.p (.sl 0 [] true))])),(sQ 4 6 13)])
 (.seq (.reg [(nQ 14 4 5),(nQ 15 4 6),(kQ 16 7 69 [(.t 14),(.t 15)]),(cQ 17 .lss 16 0)])
 (.cond (.t 17) (.seq (.reg [(nQ 18 4 6),(nQ 19 4 5),(kQ 20 8 118 [(.t 18),(.t 19)]),(sQ 4 4 20)])
 .ret) .skip)))
 (.seq (.seq (.reg [(fQ 21 1 3),(fQ 22 1 21),(lQ 23 22),(kQ 24 9 97 [(.t 23)]),(oQ 7 (.newz 10 [zQ,(.p (.sl 0 [] true)),zQ,(.p (.sl 0 [] true))])),(sQ 4 7 24)])
 (.seq (.reg [(nQ 25 4 5),(nQ 26 4 7),(kQ 27 11 69 [(.t 25),(.t 26)]),(cQ 28 .gtr 27 0)])
 (.cond (.t 28) (.seq (.reg [(nQ 29 4 5),(nQ 30 4 7),(kQ 31 12 118 [(.t 29),(.t 30)]),(sQ 4 4 31)])
 .ret) .skip)))
 (.seq (.reg [(kQ 32 13 97 [(iQ 0)]),(sQ 4 4 32)])
 .ret)))))⟩
def A_Z1s:Nat→Ty := tyAt [.un,.un,.un,.un,.un,.un,.un,.un,.un,.un,.un,.un,.un,.un]
abbrev P_Z1s:List PSh := [.agg (.pr (.pr tQ (.sl tQ)) (.pr tQ (.sl tQ))),.agg (.pr tQ pQ)]
abbrev R_Z1s:List PSh := [.agg (.pr (.pr tQ (.sl tQ)) (.pr tQ (.sl tQ)))]
theorem e_Z1s:cFn Tryz.prog 98 = some F_Z1s.erase := by kernel_rfl
theorem k_Z1s:callable Tryz.prog 98 = true := by kernel_rfl
def F_Zc:TFn := ⟨86,5,[.celln 4 2],(.seq (.reg [(oQ 2 (.box 0 (.t 0))),(oQ 3 (.box 1 (.t 1))),(oQ 4 (.newz 2 [zQ,(.p (.sl 0 [] true))]))])
 (.seq (.reg [(fQ 10 1 2),(lQ 11 10),(hQ 12 11),(fQ 13 1 3),(lQ 14 13),(hQ 15 14),(bQ 16 .add 12 15),(cQ 17 .add 16 1),(oQ 18 (.mk 3 1 8 [zQ] (.t 17))),(mQ 5 18)])
 (.seq (.seq (.reg [(oQ 6 (.mv (iQ 0)))])
 (.block 0 (.loop [.v 6 tQ,.d 3 tQ] [3] [] (.seq (.seq (.reg [(mQ 19 6),(fQ 20 1 2),(lQ 21 20),(hQ 22 21),(bQ 23 .lss 19 22)])
 (.cond (.t 23) .skip (.exit 0)))
 (.seq (.block 1 (.seq (.reg [(oQ 7 (.mv (iQ 0)))])
 (.seq (.seq (.reg [(oQ 8 (.mv (iQ 0)))])
 (.block 2 (.loop [.v 8 tQ,.v 7 tQ,.d 3 tQ] [3] [] (.seq (.seq (.reg [(mQ 26 8),(fQ 27 1 3),(lQ 28 27),(hQ 29 28),(bQ 30 .lss 26 29)])
 (.cond (.t 30) .skip (.exit 2)))
 (.seq (.block 3 (.seq (.regd [(mQ 33 5),(mQ 34 6),(mQ 35 8),(bQ 36 .add 34 35),(jQ 37 1 33 36),(lQ 38 37),(fQ 39 1 2),(lQ 40 39),(mQ 41 6),(jQ 42 1 40 41),(lQ 43 42),(fQ 44 1 3),(lQ 45 44),(mQ 46 8),(jQ 47 1 45 46),(lQ 48 47),(bQ 49 .mul 43 48),(bQ 50 .add 38 49),(mQ 51 7),(bQ 52 .add 50 51),(mQ 9 52)] [(5,7),(5,10),(5,12),(7,12),(10,12),(5,15),(7,15),(10,15)] [])
 (.reg [(mQ 53 5),(mQ 54 6),(mQ 55 8),(bQ 56 .add 54 55),(mQ 57 9),(cQ 58 .rem 57 1000000000),(mQ 59 9),(cQ 60 .quo 59 1000000000),(jQ 61 1 53 56),(sQ 1 61 58),(mQ 7 60)])))
 (.reg [(mQ 31 8),(cQ 32 .add 31 1),(mQ 8 32)]))))))
 (.regd [(mQ 62 5),(mQ 63 6),(fQ 64 1 3),(lQ 65 64),(hQ 66 65),(bQ 67 .add 63 66),(mQ 68 5),(mQ 69 6),(fQ 70 1 3),(lQ 71 70),(hQ 72 71),(bQ 73 .add 69 72),(jQ 74 1 68 73),(lQ 75 74),(mQ 76 7),(bQ 77 .add 75 76),(jQ 78 1 62 67),(sQ 1 78 77)] [(3,9),(3,13)] []))))
 (.reg [(mQ 24 6),(cQ 25 .add 24 1),(mQ 6 25)]))))))
 (.seq (.reg [(fQ 79 0 2),(lQ 80 79),(fQ 81 0 3),(lQ 82 81),(bQ 83 .mul 80 82),(mQ 84 5),(kQ 85 4 124 [(.t 83),(.t 84)]),(sQ 2 4 85)])
 .ret))))⟩
def A_Zc:Nat→Ty := tyAt [.un,.un,.un,tQ,.un]
abbrev P_Zc:List PSh := [.agg (.pr tQ (.sl tQ)),.agg (.pr tQ (.sl tQ))]
abbrev R_Zc:List PSh := [.agg (.pr tQ (.sl tQ))]
theorem e_Zc:cFn Tryz.prog 101 = some F_Zc.erase := by kernel_rfl
theorem k_Zc:callable Tryz.prog 101 = true := by kernel_rfl
def F_Z1k:TFn := ⟨9,3,[.tmp 4],(.seq (.reg [(oQ 2 (.box 0 (.t 0))),(oQ 3 (.box 1 (.t 1))),(oQ 4 (.mv (iQ 0)))])
 (.seq (.reg [(nQ 5 2 2),(nQ 6 2 3),(kQ 7 2 123 [(.t 5),(.t 6)]),(oQ 8 (.prt 0 none (.t 7))),(mQ 4 8)])
 .ret))⟩
def A_Z1k:Nat→Ty := tyAt [.un,.un,.un]
abbrev P_Z1k:List PSh := [.agg (.pr tQ (.sl tQ)),.agg (.pr tQ (.sl tQ))]
abbrev R_Z1k:List PSh := [.one tQ]
theorem e_Z1k:cFn Tryz.prog 100 = some F_Z1k.erase := by kernel_rfl
theorem k_Z1k:callable Tryz.prog 100 = true := by kernel_rfl
def F_Z2w:TFn := ⟨62,12,[.tmp 2,.tmp 3],(.seq (.reg [(oQ 1 (.box 0 (.t 0))),(oQ 2 (.mv (iQ 0))),(oQ 3 (.mv (iQ 0)))])
 (.seq (.seq (.regd [(fQ 9 0 1),(lQ 10 9),(hQ 11 10),(cQ 12 .gtr 11 0),(kQ 13 1 52 [(.t 12),(iQ 10)]),(fQ 14 0 1),(lQ 15 14),(hQ 16 15),(cQ 17 .leq 16 4),(kQ 18 2 52 [(.t 17),(iQ 8)]),(oQ 19 (.bsl false 3 1 2 [zQ,zQ] [(0,1,(.t 13)),(1,1,(.t 18))])),(kQ 20 4 53 [(.t 19)]),(mQ 4 20)] [(1,6),(4,6)] [])
 (.seq (.reg [(mQ 21 4),(cQ 22 .neq 21 0)])
 (.cond (.t 22) (.seq (.reg [(mQ 23 4),(oQ 2 (.mv (iQ 0))),(mQ 3 23)])
 .ret) .skip)))
 (.seq (.seq (.reg [(fQ 24 0 1),(lQ 25 24),(hQ 26 25),(oQ 27 (.mv (iQ 0)))])
 (.block 0 (.loop [.v 27 tQ] [5] [5] (.seq (.reg [(bQ 28 .lss 27 26)])
 (.seq (.cond (.t 28) .skip (.exit 0))
 (.seq (.block 1 (.seq (.reg [(mQ 29 27),(jQ 30 2 25 27),(nQ 31 2 30),(oQ 6 (.newz 5 [zQ,zQ])),(mQ 5 29),(sQ 2 6 31)])
 (.seq (.reg [(mQ 32 5),(fQ 33 0 1),(lQ 34 33),(hQ 35 34),(cQ 36 .sub 35 1),(bQ 37 .eql 32 36),(mQ 7 37)])
 (.seq (.reg [(fQ 38 0 6),(lQ 39 38),(kQ 40 6 126 [(.t 39)]),(mQ 41 40),(gQ 42 41 true (.fa 1 (.t 6))),(gQ 43 41 true (.ld1 (.t 42))),⟨some 44,some (some 41,true),(.call 7 127 [(.t 43)])⟩,(oQ 45 (.pick (.t 41) (.t 44) cF)),(kQ 46 8 52 [(.t 45),(iQ 2)]),(mQ 47 7),(oQ 48 (.unot (.t 47))),(mQ 49 48),(gQ 50 49 false (.fa 1 (.t 6))),(gQ 51 49 false (.ld1 (.t 50))),(gQ 52 49 false (.bin .eql (.t 51) (iQ 0))),(oQ 53 (.pick (.t 49) cT (.t 52))),(kQ 54 9 52 [(.t 53),(iQ 3)]),(oQ 55 (.bsl false 10 1 2 [zQ,zQ] [(0,1,(.t 46)),(1,1,(.t 54))])),(kQ 56 11 53 [(.t 55)]),(mQ 8 56)])
 (.seq (.reg [(mQ 57 8),(cQ 58 .neq 57 0)])
 (.cond (.t 58) (.seq (.reg [(mQ 59 5),(mQ 60 8),(mQ 2 59),(mQ 3 60)])
 .ret) .skip))))))
 (.reg [(cQ 61 .add 27 1),(mQ 27 61)])))))))
 (.seq (.reg [(oQ 2 (.mv (iQ 0))),(oQ 3 (.mv (iQ 0)))])
 .ret))))⟩
theorem e_Z2w:cFn Tryz.prog 104 = some F_Z2w.erase := by kernel_rfl
def F_Z2b:TFn := ⟨4,1,[.tmp 2],(.seq (.reg [(oQ 1 (.box 0 (.t 0))),(oQ 2 (.mv (.c .und)))])
 (.seq (.reg [(oQ 3 (.clo 128 [(.t 1)])),(mQ 2 3)])
 .ret))⟩
def A_Z2b:Nat→Ty := tyAt [.un]
abbrev P_Z2b:List PSh := [.one (.sl pQ)]
abbrev R_Z2b:List PSh := [.fn 128 [(.sl pQ)]]
theorem e_Z2b:cFn Tryz.prog 105 = some F_Z2b.erase := by kernel_rfl
theorem k_Z2b:callable Tryz.prog 105 = true := by kernel_rfl
def F_Z2n:TFn := ⟨19,1,[],(.seq (.reg [(lQ 4 1),(hQ 5 4),(cQ 6 .sub 5 1),(mQ 3 6)])
 (.block 0 (.loop [] [] [] (.seq (.seq (.reg [(mQ 7 3),(cQ 8 .geq 7 0)])
 (.cond (.t 8) .skip (.exit 0)))
 (.seq (.block 1 (.seq (.reg [(mQ 11 0),(mQ 12 3),(lQ 13 1),(mQ 14 3),(jQ 15 2 13 14),(nQ 16 2 15),⟨some 17,none,(.callv 0 (.t 11) [(.t 12),(.t 16)])⟩,(oQ 18 (.unot (.t 17)))])
 (.cond (.t 18) .ret .skip)))
 (.reg [(mQ 9 3),(cQ 10 .sub 9 1),(mQ 3 10)]))))))⟩
theorem e_Z2n:cFn Tryz.prog 128 = some F_Z2n.erase := by kernel_rfl
theorem k_Z2n:callI Tryz.prog 128 = true := by kernel_rfl
def F_Z7:TFn := ⟨84,15,[.tmp 2,.tmp 3],(.seq (.reg [(oQ 1 (.box 0 (.t 0))),(oQ 2 (.mv (iQ 0))),(oQ 3 (.mv (iQ 0)))])
 (.seq (.seq (.regd [(fQ 10 0 1),(lQ 11 10),(hQ 12 11),(cQ 13 .gtr 12 0),(kQ 14 1 52 [(.t 13),(iQ 10)]),(fQ 15 0 1),(lQ 16 15),(hQ 17 16),(cQ 18 .leq 17 4),(kQ 19 2 52 [(.t 18),(iQ 8)]),(oQ 20 (.bsl false 3 1 2 [zQ,zQ] [(0,1,(.t 14)),(1,1,(.t 19))])),(kQ 21 4 53 [(.t 20)]),(mQ 4 21)] [(1,6),(4,6)] [])
 (.seq (.reg [(mQ 22 4),(cQ 23 .neq 22 0)])
 (.cond (.t 23) (.seq (.reg [(mQ 24 4),(oQ 2 (.mv (iQ 0))),(mQ 3 24)])
 .ret) .skip)))
 (.seq (.reg [(oQ 5 (.mv (iQ 1)))])
 (.seq (.seq (.reg [(fQ 25 0 1),(lQ 26 25),(hQ 27 26),(oQ 28 (.mv (iQ 0)))])
 (.block 0 (.loop [.v 28 tQ,.v 5 tQ] [5] [5] (.seq (.reg [(bQ 29 .lss 28 27)])
 (.seq (.cond (.t 29) .skip (.exit 0))
 (.seq (.block 1 (.seq (.reg [(mQ 30 28),(jQ 31 2 26 28),(nQ 32 2 31),(oQ 7 (.newz 5 [(.p (.sl 0 [] true)),(.p (.sl 0 [] true))])),(mQ 6 30),(sQ 2 7 32)])
 (.seq (.reg [(mQ 33 6),(fQ 34 0 1),(lQ 35 34),(hQ 36 35),(cQ 37 .sub 36 1),(bQ 38 .eql 33 37),(mQ 8 38)])
 (.seq (.regd [(fQ 39 0 7),(lQ 40 39),(hQ 41 40),(cQ 42 .gtr 41 0),(mQ 43 42),(gQ 44 43 true (.fa 1 (.t 7))),(gQ 45 43 true (.ld1 (.t 44))),(gQ 46 43 true (.len false (.t 45))),(gQ 47 43 true (.bin .gtr (.t 46) (iQ 0))),(oQ 48 (.pick (.t 43) (.t 47) cF)),(kQ 49 6 52 [(.t 48),(iQ 10)]),(fQ 50 0 7),(lQ 51 50),(kQ 52 7 129 [(.t 51),(.c (.clo 126 []))]),(fQ 53 1 7),(lQ 54 53),(kQ 55 8 129 [(.t 54),(.c (.clo 127 []))]),(mQ 56 8),(oQ 57 (.unot (.t 56))),(mQ 58 57),(gQ 59 58 false (.fa 1 (.t 7))),(gQ 60 58 false (.ld1 (.t 59))),(gQ 61 58 false (.bsl false 9 1 1 [zQ] [(0,1,(iQ 0))])),⟨some 62,some (some 58,false),(.call 10 130 [(.t 60),(.t 61)])⟩,(oQ 63 (.pick (.t 58) cT (.t 62))),(kQ 64 11 52 [(.t 63),(iQ 3)]),(oQ 65 (.bsl false 12 1 4 [zQ,zQ,zQ,zQ] [(0,1,(.t 49)),(1,1,(.t 52)),(2,1,(.t 55)),(3,1,(.t 64))])),(kQ 66 13 53 [(.t 65)]),(mQ 9 66)] [(1,12),(6,12),(10,12),(1,15),(6,15),(10,15),(12,15),(13,15)] [])
 (.seq (.seq (.reg [(mQ 67 9),(cQ 68 .neq 67 0)])
 (.cond (.t 68) (.seq (.reg [(mQ 69 6),(mQ 70 9),(mQ 2 69),(mQ 3 70)])
 .ret) .skip))
 (.reg [(mQ 71 5),(fQ 72 0 7),(lQ 73 72),(hQ 74 73),(fQ 75 1 7),(lQ 76 75),(hQ 77 76),(bQ 78 .mul 74 77),(bQ 79 .mul 71 78),(mQ 5 79)]))))))
 (.reg [(cQ 80 .add 28 1),(mQ 28 80)])))))))
 (.seq (.reg [(mQ 81 5),(cQ 82 .leq 81 300),(kQ 83 14 52 [(.t 82),(iQ 16)]),(oQ 2 (.mv (iQ 0))),(mQ 3 83)])
 .ret)))))⟩
def A_Z7:Nat→Ty := tyAt [.un,.un,.un,tQ,.un,.un,.un,.un,.un,tQ,.un,.un,tQ,.un,.un]
abbrev P_Z7:List PSh := [.agg (.sl (.pr (.sl tQ) (.sl tQ)))]
abbrev R_Z7:List PSh := [.one tQ,.one tQ]
theorem e_Z7:cFn Tryz.prog 106 = some F_Z7.erase := by kernel_rfl
theorem k_Z7:callable Tryz.prog 106 = true := by kernel_rfl
def F_Z6:TFn := ⟨77,12,[.tmp 2,.tmp 3],(.seq (.reg [(oQ 2 (.mv (iQ 0))),(oQ 3 (.mv (iQ 0)))])
 (.seq (.seq (.reg [(mQ 10 0),(hQ 11 10),(cQ 12 .gtr 11 0),(kQ 13 0 52 [(.t 12),(iQ 10)]),(mQ 14 0),(hQ 15 14),(cQ 16 .leq 15 6),(kQ 17 1 52 [(.t 16),(iQ 8)]),(oQ 18 (.bsl false 2 1 2 [zQ,zQ] [(0,1,(.t 13)),(1,1,(.t 17))])),(kQ 19 3 53 [(.t 18)]),(mQ 4 19)])
 (.seq (.reg [(mQ 20 4),(cQ 21 .neq 20 0)])
 (.cond (.t 21) (.seq (.reg [(mQ 22 4),(oQ 2 (.mv (iQ 0))),(mQ 3 22)])
 .ret) .skip)))
 (.seq (.reg [(oQ 5 (.mv (.c (.clo 131 []))))])
 (.seq (.seq (.reg [(mQ 23 0),(hQ 24 23),(oQ 25 (.mv (iQ 0)))])
 (.block 0 (.loop [.v 25 tQ] [4] [4] (.seq (.reg [(bQ 26 .lss 25 24)])
 (.seq (.cond (.t 26) .skip (.exit 0))
 (.seq (.block 1 (.seq (.reg [(mQ 27 25),(jQ 28 3 23 25),(nQ 29 3 28),(oQ 7 (.newz 4 [zQ,zQ,zQ])),(mQ 6 27),(sQ 3 7 29)])
 (.seq (.regd [(mQ 30 6),(cQ 31 .eql 30 0),(mQ 32 31),(gQ 33 32 false (.fa 0 (.t 7))),(gQ 34 32 false (.ld1 (.t 33))),(vQ 35 32 false 0),(vQ 36 32 false 6),(gQ 37 32 false (.bin .sub (.t 36) (iQ 1))),(gQ 38 32 false (.ia 3 (.t 35) (.t 37))),(gQ 39 32 false (.fa 0 (.t 38))),(gQ 40 32 false (.ld1 (.t 39))),(gQ 41 32 false (.bin .gtr (.t 34) (.t 40))),(oQ 42 (.pick (.t 32) cT (.t 41))),(mQ 8 42)] [(4,10)] [])
 (.seq (.regd [(fQ 43 0 7),(lQ 44 43),(kQ 45 5 81 [(.t 44)]),(mQ 46 5),(fQ 47 1 7),(fQ 48 0 47),(lQ 49 48),⟨some 50,none,(.callv 6 (.t 46) [(.t 49)])⟩,(mQ 51 50),(vQ 52 51 true 5),(gQ 53 51 true (.fa 1 (.t 7))),(gQ 54 51 true (.fa 1 (.t 53))),(gQ 55 51 true (.ld1 (.t 54))),⟨some 56,some (some 51,true),(.callv 7 (.t 52) [(.t 55)])⟩,(oQ 57 (.pick (.t 51) (.t 56) cF)),(kQ 58 8 52 [(.t 57),(iQ 2)]),(fQ 59 1 7),(fQ 60 0 59),(lQ 61 60),(fQ 62 1 7),(fQ 63 1 62),(lQ 64 63),(bQ 65 .leq 61 64),(mQ 66 65),(vQ 67 66 true 8),(oQ 68 (.pick (.t 66) (.t 67) cF)),(kQ 69 9 52 [(.t 68),(iQ 9)]),(oQ 70 (.bsl false 10 1 3 [zQ,zQ,zQ] [(0,1,(.t 45)),(1,1,(.t 58)),(2,1,(.t 69))])),(kQ 71 11 53 [(.t 70)]),(mQ 9 71)] [(1,6),(2,6),(1,18),(2,18),(6,18),(7,18),(12,18),(13,18),(15,18),(1,21),(2,21),(6,21),(7,21),(12,21),(13,21),(15,21),(18,21)] [])
 (.seq (.reg [(mQ 72 9),(cQ 73 .neq 72 0)])
 (.cond (.t 73) (.seq (.reg [(mQ 74 6),(mQ 75 9),(mQ 2 74),(mQ 3 75)])
 .ret) .skip))))))
 (.reg [(cQ 76 .add 25 1),(mQ 25 76)])))))))
 (.seq (.reg [(oQ 2 (.mv (iQ 0))),(oQ 3 (.mv (iQ 0)))])
 .ret)))))⟩
def A_Z6:Nat→Ty := tyAt [.un,.un,tQ,.un,.un,.un,.un,.un,.un,.un,tQ,.un]
abbrev P_Z6:List PSh := [.one (.sl (.pr tQ pQ))]
abbrev R_Z6:List PSh := [.one tQ,.one tQ]
theorem e_Z6:cFn Tryz.prog 107 = some F_Z6.erase := by kernel_rfl
theorem k_Z6:callable Tryz.prog 107 = true := by kernel_rfl
def F_Z1p:TFn := ⟨9,1,[.tmp 4],(.seq (.reg [(oQ 4 (.mv cF))])
 (.seq (.reg [(mQ 5 0),(mQ 6 1),(kQ 7 0 132 [(.t 5),(.t 6)]),(cQ 8 .geq 7 0),(mQ 4 8)])
 .ret))⟩
def A_Z1p:Nat→Ty := tyAt [.un]
abbrev P_Z1p:List PSh := [.one (.sl (.pr tQ pQ)),.fn 109 [(.sl pQ)]]
abbrev R_Z1p:List PSh := [.one .bool]
theorem e_Z1p:cFn Tryz.prog 108 = some F_Z1p.erase := by kernel_rfl
theorem k_Z1p:callable Tryz.prog 108 = true := by kernel_rfl
def F_Z2i:TFn := ⟨5,1,[.tmp 2],(.seq (.reg [(oQ 2 (.mv cF))])
 (.seq (.reg [(mQ 3 0),(kQ 4 0 21 [(.t 3),(iQ 1),(iQ 20)]),(mQ 2 4)])
 .ret))⟩
def A_Z2i:Nat→Ty := tyAt [.un]
abbrev P_Z2i:List PSh := [.one tQ]
abbrev R_Z2i:List PSh := [.one .bool]
theorem e_Z2i:cFn Tryz.prog 112 = some F_Z2i.erase := by kernel_rfl
theorem k_Z2i:callable Tryz.prog 112 = true := by kernel_rfl
def F_Z2j:TFn := ⟨5,1,[.tmp 2],(.seq (.reg [(oQ 2 (.mv cF))])
 (.seq (.reg [(mQ 3 0),(kQ 4 0 21 [(.t 3),(iQ 0),(iQ 10)]),(mQ 2 4)])
 .ret))⟩
def A_Z2j:Nat→Ty := tyAt [.un]
abbrev P_Z2j:List PSh := [.one tQ]
abbrev R_Z2j:List PSh := [.one .bool]
theorem e_Z2j:cFn Tryz.prog 113 = some F_Z2j.erase := by kernel_rfl
theorem k_Z2j:callable Tryz.prog 113 = true := by kernel_rfl
def F_Z16:TFn := ⟨13,0,[.tmp 4],(.seq (.reg [(oQ 4 (.mv (iQ 0)))])
 (.seq (.block 0 (.loop [.v 1 tQ,.v 0 tQ] [] [] (.seq (.seq (.reg [(mQ 5 1),(cQ 6 .neq 5 0)])
 (.cond (.t 6) .skip (.exit 0)))
 (.block 1 (.regd [(mQ 7 1),(mQ 8 0),(mQ 9 1),(bQ 10 .rem 8 9),(mQ 0 7),(mQ 1 10)] [] [])))))
 (.seq (.reg [(mQ 11 0),(oQ 12 (.mm true (.t 11) (iQ 1))),(mQ 4 12)])
 .ret)))⟩
def A_Z16:Nat→Ty := tyAt []
abbrev P_Z16:List PSh := [.one tQ,.one tQ]
abbrev R_Z16:List PSh := [.one tQ]
theorem e_Z16:cFn Tryz.prog 114 = some F_Z16.erase := by kernel_rfl
theorem k_Z16:callable Tryz.prog 114 = true := by kernel_rfl
def F_Zr:TFn := ⟨20,5,[.celln 2 2],(.seq (.reg [(oQ 2 (.newz 0 [zQ,(.p (.sl 0 [] true))]))])
 (.seq (.reg [(oQ 3 (.mv (iQ 1)))])
 (.seq (.seq (.reg [(mQ 5 0),(cQ 6 .lss 5 0)])
 (.cond (.t 6) (.reg [(oQ 3 (.mv (iQ (-1))))]) .skip))
 (.seq (.reg [(oQ 4 (.mv (.c (.p (.sl 0 [] true)))))])
 (.seq (.block 0 (.loop [.v 0 tQ,.o 4 3 tQ] [3] [3] (.seq (.seq (.reg [(mQ 7 0),(cQ 8 .neq 7 0)])
 (.cond (.t 8) .skip (.exit 0)))
 (.block 1 (.seq (.reg [(mQ 9 4),(mQ 10 0),(cQ 11 .rem 10 1000000000),(kQ 12 1 91 [(.t 11)]),(oQ 13 (.bsl false 2 1 1 [zQ] [(0,1,(.t 12))])),(oQ 14 (.app 3 1 8 (.t 9) (.t 13))),(mQ 4 14)])
 (.reg [(mQ 15 0),(cQ 16 .quo 15 1000000000),(mQ 0 16)]))))))
 (.seq (.reg [(mQ 17 3),(mQ 18 4),(kQ 19 4 124 [(.t 17),(.t 18)]),(sQ 2 2 19)])
 .ret))))))⟩
def A_Zr:Nat→Ty := tyAt [.un,.un,tQ,tQ,.un]
abbrev P_Zr:List PSh := [.one tQ]
abbrev R_Zr:List PSh := [.agg (.pr tQ (.sl tQ))]
theorem e_Zr:cFn Tryz.prog 116 = some F_Zr.erase := by kernel_rfl
theorem k_Zr:callable Tryz.prog 116 = true := by kernel_rfl
def F_Z1t:TFn := ⟨10,4,[.celln 4 4],(.seq (.reg [(oQ 4 (.newz 0 [zQ,(.p (.sl 0 [] true)),zQ,(.p (.sl 0 [] true))]))])
 (.seq (.reg [(mQ 5 0),(kQ 6 1 116 [(.t 5)]),(mQ 7 1),(kQ 8 2 116 [(.t 7)]),(kQ 9 3 136 [(.t 6),(.t 8)]),(sQ 4 4 9)])
 .ret))⟩
def A_Z1t:Nat→Ty := tyAt [.un,.un,.un,.un]
abbrev P_Z1t:List PSh := [.one tQ,.one tQ]
abbrev R_Z1t:List PSh := [.agg (.pr (.pr tQ (.sl tQ)) (.pr tQ (.sl tQ)))]
theorem e_Z1t:cFn Tryz.prog 119 = some F_Z1t.erase := by kernel_rfl
theorem k_Z1t:callable Tryz.prog 119 = true := by kernel_rfl
def F_Z1l:TFn := ⟨16,6,[.celln 4 4],(.seq (.reg [(oQ 2 (.box 0 (.t 0))),(oQ 3 (.box 1 (.t 1))),(oQ 4 (.newz 2 [zQ,(.p (.sl 0 [] true)),zQ,(.p (.sl 0 [] true))]))])
 (.seq (.regd [(fQ 5 0 2),(nQ 6 2 5),(fQ 7 0 3),(nQ 8 2 7),(kQ 9 3 101 [(.t 6),(.t 8)]),(fQ 10 2 2),(nQ 11 2 10),(fQ 12 2 3),(nQ 13 2 12),(kQ 14 4 101 [(.t 11),(.t 13)]),(kQ 15 5 136 [(.t 9),(.t 14)]),(sQ 4 4 15)] [(1,3),(1,6),(3,6),(4,6),(1,8),(3,8),(4,8),(6,8)] [])
 .ret))⟩
def A_Z1l:Nat→Ty := tyAt [.un,.un,.un,.un,.un,.un]
abbrev P_Z1l:List PSh := [.agg (.pr (.pr tQ (.sl tQ)) (.pr tQ (.sl tQ))),.agg (.pr (.pr tQ (.sl tQ)) (.pr tQ (.sl tQ)))]
abbrev R_Z1l:List PSh := [.agg (.pr (.pr tQ (.sl tQ)) (.pr tQ (.sl tQ)))]
theorem e_Z1l:cFn Tryz.prog 120 = some F_Z1l.erase := by kernel_rfl
theorem k_Z1l:callable Tryz.prog 120 = true := by kernel_rfl
def F_Z1m:TFn := ⟨22,8,[.celln 4 4],(.seq (.reg [(oQ 2 (.box 0 (.t 0))),(oQ 3 (.box 1 (.t 1))),(oQ 4 (.newz 2 [zQ,(.p (.sl 0 [] true)),zQ,(.p (.sl 0 [] true))]))])
 (.seq (.regd [(fQ 5 0 2),(nQ 6 2 5),(fQ 7 2 3),(nQ 8 2 7),(kQ 9 3 101 [(.t 6),(.t 8)]),(fQ 10 0 3),(nQ 11 2 10),(fQ 12 2 2),(nQ 13 2 12),(kQ 14 4 101 [(.t 11),(.t 13)]),(kQ 15 5 137 [(.t 9),(.t 14)]),(fQ 16 2 2),(nQ 17 2 16),(fQ 18 2 3),(nQ 19 2 18),(kQ 20 6 101 [(.t 17),(.t 19)]),(kQ 21 7 136 [(.t 15),(.t 20)]),(sQ 4 4 21)] [(1,3),(1,6),(3,6),(4,6),(1,8),(3,8),(4,8),(6,8),(1,12),(3,12),(4,12),(6,12),(8,12),(9,12),(10,12),(1,14),(3,14),(4,14),(6,14),(8,14),(9,14),(10,14),(12,14)] [])
 .ret))⟩
def A_Z1m:Nat→Ty := tyAt [.un,.un,.un,.un,.un,.un,.un,.un]
abbrev P_Z1m:List PSh := [.agg (.pr (.pr tQ (.sl tQ)) (.pr tQ (.sl tQ))),.agg (.pr (.pr tQ (.sl tQ)) (.pr tQ (.sl tQ)))]
abbrev R_Z1m:List PSh := [.agg (.pr (.pr tQ (.sl tQ)) (.pr tQ (.sl tQ)))]
theorem e_Z1m:cFn Tryz.prog 121 = some F_Z1m.erase := by kernel_rfl
theorem k_Z1m:callable Tryz.prog 121 = true := by kernel_rfl
def F_Z1u:TFn := ⟨16,6,[.celln 4 4],(.seq (.reg [(oQ 2 (.box 0 (.t 0))),(oQ 3 (.box 1 (.t 1))),(oQ 4 (.newz 2 [zQ,(.p (.sl 0 [] true)),zQ,(.p (.sl 0 [] true))]))])
 (.seq (.regd [(fQ 5 0 2),(nQ 6 2 5),(fQ 7 2 3),(nQ 8 2 7),(kQ 9 3 101 [(.t 6),(.t 8)]),(fQ 10 2 2),(nQ 11 2 10),(fQ 12 0 3),(nQ 13 2 12),(kQ 14 4 101 [(.t 11),(.t 13)]),(kQ 15 5 136 [(.t 9),(.t 14)]),(sQ 4 4 15)] [(1,3),(1,6),(3,6),(4,6),(1,8),(3,8),(4,8),(6,8)] [])
 .ret))⟩
def A_Z1u:Nat→Ty := tyAt [.un,.un,.un,.un,.un,.un]
abbrev P_Z1u:List PSh := [.agg (.pr (.pr tQ (.sl tQ)) (.pr tQ (.sl tQ))),.agg (.pr (.pr tQ (.sl tQ)) (.pr tQ (.sl tQ)))]
abbrev R_Z1u:List PSh := [.agg (.pr (.pr tQ (.sl tQ)) (.pr tQ (.sl tQ)))]
theorem e_Z1u:cFn Tryz.prog 122 = some F_Z1u.erase := by kernel_rfl
theorem k_Z1u:callable Tryz.prog 122 = true := by kernel_rfl
def F_Z1v:TFn := ⟨6,4,[.celln 2 4],(.seq (.reg [(oQ 1 (.box 0 (.t 0))),(oQ 2 (.newz 1 [zQ,(.p (.sl 0 [] true)),zQ,(.p (.sl 0 [] true))]))])
 (.seq (.regd [(nQ 3 4 1),(kQ 4 2 97 [(iQ 1000)]),(kQ 5 3 120 [(.t 3),(.t 4)]),(sQ 4 2 5)] [(0,1)] [])
 .ret))⟩
def A_Z1v:Nat→Ty := tyAt [.un,.un,.un,.un]
abbrev P_Z1v:List PSh := [.agg (.pr (.pr tQ (.sl tQ)) (.pr tQ (.sl tQ)))]
abbrev R_Z1v:List PSh := [.agg (.pr (.pr tQ (.sl tQ)) (.pr tQ (.sl tQ)))]
theorem e_Z1v:cFn Tryz.prog 117 = some F_Z1v.erase := by kernel_rfl
theorem k_Z1v:callable Tryz.prog 117 = true := by kernel_rfl
def F_Z1w:TFn := ⟨9,5,[.celln 4 4],(.seq (.reg [(oQ 2 (.box 0 (.t 0))),(oQ 3 (.box 1 (.t 1))),(oQ 4 (.newz 2 [zQ,(.p (.sl 0 [] true)),zQ,(.p (.sl 0 [] true))]))])
 (.seq (.regd [(nQ 5 4 2),(nQ 6 4 3),(kQ 7 3 135 [(.t 6)]),(kQ 8 4 121 [(.t 5),(.t 7)]),(sQ 4 4 8)] [(0,1),(0,2)] [])
 .ret))⟩
def A_Z1w:Nat→Ty := tyAt [.un,.un,.un,.un,.un]
abbrev P_Z1w:List PSh := [.agg (.pr (.pr tQ (.sl tQ)) (.pr tQ (.sl tQ))),.agg (.pr (.pr tQ (.sl tQ)) (.pr tQ (.sl tQ)))]
abbrev R_Z1w:List PSh := [.agg (.pr (.pr tQ (.sl tQ)) (.pr tQ (.sl tQ)))]
theorem e_Z1w:cFn Tryz.prog 118 = some F_Z1w.erase := by kernel_rfl
theorem k_Z1w:callable Tryz.prog 118 = true := by kernel_rfl
def F_Z1a:TFn := ⟨13,2,[.celln 4 2],(.seq (.reg [(oQ 4 (.newz 0 [zQ,(.p (.sl 0 [] true))]))])
 (.seq (.reg [(mQ 5 1),(kQ 6 1 139 [(.t 5)]),(mQ 1 6)])
 (.seq (.seq (.reg [(mQ 7 1),(hQ 8 7),(cQ 9 .eql 8 0)])
 (.cond (.t 9) (.reg [(oQ 0 (.mv (iQ 0)))]) .skip))
 (.seq (.reg [(mQ 10 0),(mQ 11 1),(oQ 12 (.build [zQ,(.p (.sl 0 [] true))] [(0,1,(.t 10)),(1,1,(.t 11))])),(sQ 2 4 12)])
 .ret))))⟩
def A_Z1a:Nat→Ty := tyAt [.un,.un]
abbrev P_Z1a:List PSh := [.one tQ,.one (.sl tQ)]
abbrev R_Z1a:List PSh := [.agg (.pr tQ (.sl tQ))]
theorem e_Z1a:cFn Tryz.prog 124 = some F_Z1a.erase := by kernel_rfl
theorem k_Z1a:callable Tryz.prog 124 = true := by kernel_rfl
def F_Z1d:TFn := ⟨9,5,[.celln 4 2],(.seq (.reg [(oQ 2 (.box 0 (.t 0))),(oQ 3 (.box 1 (.t 1))),(oQ 4 (.newz 2 [zQ,(.p (.sl 0 [] true))]))])
 (.seq (.regd [(nQ 5 2 2),(nQ 6 2 3),(kQ 7 3 138 [(.t 6)]),(kQ 8 4 137 [(.t 5),(.t 7)]),(sQ 2 4 8)] [(0,1),(0,2)] [])
 .ret))⟩
def A_Z1d:Nat→Ty := tyAt [.un,.un,.un,.un,.un]
abbrev P_Z1d:List PSh := [.agg (.pr tQ (.sl tQ)),.agg (.pr tQ (.sl tQ))]
abbrev R_Z1d:List PSh := [.agg (.pr tQ (.sl tQ))]
theorem e_Z1d:cFn Tryz.prog 123 = some F_Z1d.erase := by kernel_rfl
theorem k_Z1d:callable Tryz.prog 123 = true := by kernel_rfl
def F_Z25:TFn := ⟨5,1,[.tmp 2],(.seq (.reg [(oQ 2 (.mv cF))])
 (.seq (.reg [(mQ 3 0),(kQ 4 0 54 [(.t 3),(iQ 1),(iQ 20)]),(mQ 2 4)])
 .ret))⟩
def A_Z25:Nat→Ty := tyAt [.un]
abbrev P_Z25:List PSh := [.one tQ]
abbrev R_Z25:List PSh := [.one .bool]
theorem e_Z25:cFn Tryz.prog 126 = some F_Z25.erase := by kernel_rfl
theorem k_Z25:callable Tryz.prog 126 = true := by kernel_rfl
def F_Z26:TFn := ⟨5,1,[.tmp 2],(.seq (.reg [(oQ 2 (.mv cF))])
 (.seq (.reg [(mQ 3 0),(kQ 4 0 54 [(.t 3),(iQ 0),(iQ 10)]),(mQ 2 4)])
 .ret))⟩
def A_Z26:Nat→Ty := tyAt [.un]
abbrev P_Z26:List PSh := [.one tQ]
abbrev R_Z26:List PSh := [.one .bool]
theorem e_Z26:cFn Tryz.prog 127 = some F_Z26.erase := by kernel_rfl
theorem k_Z26:callable Tryz.prog 127 = true := by kernel_rfl
def F_Z11:TFn := ⟨38,5,[.tmp 4],(.seq (.reg [(oQ 4 (.mv (iQ 0)))])
 (.seq (.seq (.reg [(mQ 8 0),(hQ 9 8),(oQ 10 (.mv (iQ 0)))])
 (.block 0 (.loop [.v 10 tQ] [] [] (.seq (.reg [(bQ 11 .lss 10 9)])
 (.seq (.cond (.t 11) .skip (.exit 0))
 (.seq (.block 1 (.seq (.reg [(mQ 12 10),(jQ 13 1 8 10),(lQ 14 13),(mQ 5 12),(mQ 6 14)])
 (.seq (.reg [(mQ 15 1),(mQ 16 6),⟨some 17,none,(.callv 0 (.t 15) [(.t 16)])⟩,(kQ 18 1 52 [(.t 17),(iQ 2)]),(mQ 19 5),(cQ 20 .eql 19 0),(mQ 21 20),(vQ 22 21 false 6),(vQ 23 21 false 0),(vQ 24 21 false 5),(gQ 25 21 false (.bin .sub (.t 24) (iQ 1))),(gQ 26 21 false (.mm true (iQ 0) (.t 25))),(gQ 27 21 false (.ia 1 (.t 23) (.t 26))),(gQ 28 21 false (.ld1 (.t 27))),(gQ 29 21 false (.bin .gtr (.t 22) (.t 28))),(oQ 30 (.pick (.t 21) cT (.t 29))),(kQ 31 2 52 [(.t 30),(iQ 9)]),(oQ 32 (.bsl false 3 1 2 [zQ,zQ] [(0,1,(.t 18)),(1,1,(.t 31))])),(kQ 33 4 53 [(.t 32)]),(mQ 7 33)])
 (.seq (.reg [(mQ 34 7),(cQ 35 .neq 34 0)])
 (.cond (.t 35) (.seq (.reg [(mQ 36 7),(mQ 4 36)])
 .ret) .skip)))))
 (.reg [(cQ 37 .add 10 1),(mQ 10 37)])))))))
 (.seq (.reg [(oQ 4 (.mv (iQ 0)))])
 .ret)))⟩
def A_Z11:Nat→Ty := tyAt [.un,.un,.un,tQ,.un]
abbrev P_Z11:List PSh := [.one (.sl tQ),.fn 126 []]
abbrev R_Z11:List PSh := [.one tQ]
theorem e_Z11:cFn Tryz.prog 129 = some F_Z11.erase := by kernel_rfl
theorem k_Z11:callable Tryz.prog 129 = true := by kernel_rfl
def F_Z18:TFn := ⟨38,5,[.tmp 4],(.seq (.reg [(oQ 4 (.mv (iQ 0)))])
 (.seq (.seq (.reg [(mQ 8 0),(hQ 9 8),(oQ 10 (.mv (iQ 0)))])
 (.block 0 (.loop [.v 10 tQ] [] [] (.seq (.reg [(bQ 11 .lss 10 9)])
 (.seq (.cond (.t 11) .skip (.exit 0))
 (.seq (.block 1 (.seq (.reg [(mQ 12 10),(jQ 13 1 8 10),(lQ 14 13),(mQ 5 12),(mQ 6 14)])
 (.seq (.reg [(mQ 15 1),(mQ 16 6),⟨some 17,none,(.callv 0 (.t 15) [(.t 16)])⟩,(kQ 18 1 52 [(.t 17),(iQ 2)]),(mQ 19 5),(cQ 20 .eql 19 0),(mQ 21 20),(vQ 22 21 false 6),(vQ 23 21 false 0),(vQ 24 21 false 5),(gQ 25 21 false (.bin .sub (.t 24) (iQ 1))),(gQ 26 21 false (.mm true (iQ 0) (.t 25))),(gQ 27 21 false (.ia 1 (.t 23) (.t 26))),(gQ 28 21 false (.ld1 (.t 27))),(gQ 29 21 false (.bin .gtr (.t 22) (.t 28))),(oQ 30 (.pick (.t 21) cT (.t 29))),(kQ 31 2 52 [(.t 30),(iQ 9)]),(oQ 32 (.bsl false 3 1 2 [zQ,zQ] [(0,1,(.t 18)),(1,1,(.t 31))])),(kQ 33 4 53 [(.t 32)]),(mQ 7 33)])
 (.seq (.reg [(mQ 34 7),(cQ 35 .neq 34 0)])
 (.cond (.t 35) (.seq (.reg [(mQ 36 7),(mQ 4 36)])
 .ret) .skip)))))
 (.reg [(cQ 37 .add 10 1),(mQ 10 37)])))))))
 (.seq (.reg [(oQ 4 (.mv (iQ 0)))])
 .ret)))⟩
def A_Z18:Nat→Ty := tyAt [.un,.un,.un,tQ,.un]
abbrev P_Z18:List PSh := [.one (.sl tQ),.fn 127 []]
abbrev R_Z18:List PSh := [.one tQ]
theorem e_Z18:cFn Tryz.prog 129 = some F_Z18.erase := by kernel_rfl
theorem k_Z18:callable Tryz.prog 129 = true := by kernel_rfl
def F_Zu:TFn := ⟨26,0,[.tmp 4],(.seq (.reg [(oQ 4 (.mv cF))])
 (.seq (.seq (.reg [(mQ 6 0),(hQ 7 6),(mQ 8 1),(hQ 9 8),(bQ 10 .neq 7 9)])
 (.cond (.t 10) (.seq (.reg [(oQ 4 (.mv cF))])
 .ret) .skip))
 (.seq (.seq (.reg [(mQ 11 0),(hQ 12 11),(oQ 13 (.mv (iQ 0)))])
 (.block 0 (.loop [.v 13 tQ] [] [] (.seq (.reg [(bQ 14 .lss 13 12)])
 (.seq (.cond (.t 14) .skip (.exit 0))
 (.seq (.block 1 (.seq (.reg [(mQ 15 13),(mQ 5 15)])
 (.seq (.regd [(mQ 16 0),(mQ 17 5),(jQ 18 1 16 17),(lQ 19 18),(mQ 20 1),(mQ 21 5),(jQ 22 1 20 21),(lQ 23 22),(bQ 24 .neq 19 23)] [(3,7)] [])
 (.cond (.t 24) (.seq (.reg [(oQ 4 (.mv cF))])
 .ret) .skip))))
 (.reg [(cQ 25 .add 13 1),(mQ 13 25)])))))))
 (.seq (.reg [(oQ 4 (.mv cT))])
 .ret))))⟩
def A_Zu:Nat→Ty := tyAt []
abbrev P_Zu:List PSh := [.one (.sl tQ),.one (.sl tQ)]
abbrev R_Zu:List PSh := [.one .bool]
theorem e_Zu:cFn Tryz.prog 130 = some F_Zu.erase := by kernel_rfl
theorem k_Zu:callable Tryz.prog 130 = true := by kernel_rfl
def F_Z2c:TFn := ⟨5,1,[.tmp 2],(.seq (.reg [(oQ 2 (.mv cF))])
 (.seq (.reg [(mQ 3 0),(kQ 4 0 54 [(.t 3),(iQ 0),(iQ 100000)]),(mQ 2 4)])
 .ret))⟩
def A_Z2c:Nat→Ty := tyAt [.un]
abbrev P_Z2c:List PSh := [.one tQ]
abbrev R_Z2c:List PSh := [.one .bool]
theorem e_Z2c:cFn Tryz.prog 131 = some F_Z2c.erase := by kernel_rfl
theorem k_Z2c:callable Tryz.prog 131 = true := by kernel_rfl
def F_Z12:TFn := ⟨19,1,[.tmp 4],(.seq (.reg [(oQ 4 (.mv (iQ 0)))])
 (.seq (.seq (.reg [(mQ 6 0),(hQ 7 6),(oQ 8 (.mv (iQ 0)))])
 (.block 0 (.loop [.v 8 tQ] [] [] (.seq (.reg [(bQ 9 .lss 8 7)])
 (.seq (.cond (.t 9) .skip (.exit 0))
 (.seq (.block 1 (.seq (.reg [(mQ 10 8),(mQ 5 10)])
 (.seq (.reg [(mQ 11 1),(mQ 12 0),(mQ 13 5),(jQ 14 3 12 13),(nQ 15 3 14),⟨some 16,none,(.callv 0 (.t 11) [(.t 15)])⟩])
 (.cond (.t 16) (.seq (.reg [(mQ 17 5),(mQ 4 17)])
 .ret) .skip))))
 (.reg [(cQ 18 .add 8 1),(mQ 8 18)])))))))
 (.seq (.reg [(oQ 4 (.mv (iQ (-1))))])
 .ret)))⟩
def A_Z12:Nat→Ty := tyAt [.un]
abbrev P_Z12:List PSh := [.one (.sl (.pr tQ pQ)),.fn 109 [(.sl pQ)]]
abbrev R_Z12:List PSh := [.one tQ]
theorem e_Z12:cFn Tryz.prog 132 = some F_Z12.erase := by kernel_rfl
theorem k_Z12:callable Tryz.prog 132 = true := by kernel_rfl
def F_Zx:TFn := ⟨30,12,[.celln 4 4],(.seq (.reg [(oQ 2 (.box 0 (.t 0))),(oQ 3 (.box 1 (.t 1))),(oQ 4 (.newz 2 [zQ,(.p (.sl 0 [] true)),zQ,(.p (.sl 0 [] true))]))])
 (.seq (.seq (.reg [(nQ 6 2 3),(kQ 7 3 70 [(.t 6)]),(cQ 8 .lss 7 0)])
 (.cond (.t 8) (.regd [(nQ 9 2 2),(kQ 10 4 138 [(.t 9)]),(nQ 11 2 3),(kQ 12 5 138 [(.t 11)]),(sQ 2 2 10),(sQ 2 3 12)] [(0,2),(1,2)] []) .skip))
 (.seq (.reg [(nQ 13 2 2),(nQ 14 2 3),(kQ 15 6 141 [(.t 13),(.t 14)]),(oQ 5 (.newz 7 [zQ,(.p (.sl 0 [] true))])),(sQ 2 5 15)])
 (.seq (.seq (.regd [(nQ 16 2 5),(kQ 17 8 116 [(iQ 1)]),(kQ 18 9 100 [(.t 16),(.t 17)]),(cQ 19 .eql 18 0)] [(0,1)] [])
 (.cond (.t 19) (.seq (.reg [(nQ 20 2 2),(nQ 21 2 3),(oQ 22 (.build [zQ,(.p (.sl 0 [] true)),zQ,(.p (.sl 0 [] true))] [(0,2,(.t 20)),(2,2,(.t 21))])),(sQ 4 4 22)])
 .ret) .skip))
 (.seq (.regd [(nQ 23 2 2),(nQ 24 2 5),(kQ 25 10 142 [(.t 23),(.t 24)]),(nQ 26 2 3),(nQ 27 2 5),(kQ 28 11 142 [(.t 26),(.t 27)]),(oQ 29 (.build [zQ,(.p (.sl 0 [] true)),zQ,(.p (.sl 0 [] true))] [(0,2,(.t 25)),(2,2,(.t 28))])),(sQ 4 4 29)] [(0,1),(0,3),(1,3),(2,3),(0,4),(1,4),(2,4),(3,4)] [])
 .ret)))))⟩
def A_Zx:Nat→Ty := tyAt [.un,.un,.un,.un,.un,.un,.un,.un,.un,.un,.un,.un]
abbrev P_Zx:List PSh := [.agg (.pr tQ (.sl tQ)),.agg (.pr tQ (.sl tQ))]
abbrev R_Zx:List PSh := [.agg (.pr (.pr tQ (.sl tQ)) (.pr tQ (.sl tQ)))]
theorem e_Zx:cFn Tryz.prog 136 = some F_Zx.erase := by kernel_rfl
theorem k_Zx:callable Tryz.prog 136 = true := by kernel_rfl
def F_Z1n:TFn := ⟨53,10,[.celln 4 2],(.seq (.reg [(oQ 2 (.box 0 (.t 0))),(oQ 3 (.box 1 (.t 1))),(oQ 4 (.newz 2 [zQ,(.p (.sl 0 [] true))]))])
 (.seq (.seq (.reg [(fQ 6 0 2),(lQ 7 6),(cQ 8 .eql 7 0)])
 (.cond (.t 8) (.seq (.reg [(nQ 9 2 3),(sQ 2 4 9)])
 .ret) .skip))
 (.seq (.seq (.reg [(fQ 10 0 3),(lQ 11 10),(cQ 12 .eql 11 0)])
 (.cond (.t 12) (.seq (.reg [(nQ 13 2 2),(sQ 2 4 13)])
 .ret) .skip))
 (.seq (.seq (.reg [(fQ 14 0 2),(lQ 15 14),(fQ 16 0 3),(lQ 17 16),(bQ 18 .eql 15 17)])
 (.cond (.t 18) (.seq (.regd [(fQ 19 0 2),(lQ 20 19),(fQ 21 1 2),(lQ 22 21),(fQ 23 1 3),(lQ 24 23),(kQ 25 3 143 [(.t 22),(.t 24)]),(kQ 26 4 124 [(.t 20),(.t 25)]),(sQ 2 4 26)] [(1,3),(1,5),(3,5),(1,6)] [])
 .ret) .skip))
 (.seq (.reg [(fQ 27 1 2),(lQ 28 27),(fQ 29 1 3),(lQ 30 29),(kQ 31 5 144 [(.t 28),(.t 30)]),(mQ 5 31)])
 (.seq (.seq (.reg [(mQ 32 5),(cQ 33 .eql 32 0)])
 (.cond (.t 33) (.seq (.reg [(oQ 34 (.build [zQ,(.p (.sl 0 [] true))] [])),(sQ 2 4 34)])
 .ret) .skip))
 (.seq (.seq (.reg [(mQ 35 5),(cQ 36 .gtr 35 0)])
 (.cond (.t 36) (.seq (.regd [(fQ 37 0 2),(lQ 38 37),(fQ 39 1 2),(lQ 40 39),(fQ 41 1 3),(lQ 42 41),(kQ 43 6 145 [(.t 40),(.t 42)]),(kQ 44 7 124 [(.t 38),(.t 43)]),(sQ 2 4 44)] [(1,3),(1,5),(3,5),(1,6)] [])
 .ret) .skip))
 (.seq (.regd [(fQ 45 0 3),(lQ 46 45),(fQ 47 1 3),(lQ 48 47),(fQ 49 1 2),(lQ 50 49),(kQ 51 8 145 [(.t 48),(.t 50)]),(kQ 52 9 124 [(.t 46),(.t 51)]),(sQ 2 4 52)] [(1,3),(1,5),(3,5),(1,6)] [])
 .ret))))))))⟩
def A_Z1n:Nat→Ty := tyAt [.un,.un,.un,.un,.un,.un,.un,.un,.un,.un]
abbrev P_Z1n:List PSh := [.agg (.pr tQ (.sl tQ)),.agg (.pr tQ (.sl tQ))]
abbrev R_Z1n:List PSh := [.agg (.pr tQ (.sl tQ))]
theorem e_Z1n:cFn Tryz.prog 137 = some F_Z1n.erase := by kernel_rfl
theorem k_Z1n:callable Tryz.prog 137 = true := by kernel_rfl
def F_Z1x:TFn := ⟨9,3,[.celln 2 4],(.seq (.reg [(oQ 1 (.box 0 (.t 0))),(oQ 2 (.newz 1 [zQ,(.p (.sl 0 [] true)),zQ,(.p (.sl 0 [] true))]))])
 (.seq (.regd [(fQ 3 0 1),(nQ 4 2 3),(kQ 5 2 138 [(.t 4)]),(fQ 6 2 1),(nQ 7 2 6),(oQ 8 (.build [zQ,(.p (.sl 0 [] true)),zQ,(.p (.sl 0 [] true))] [(0,2,(.t 5)),(2,2,(.t 7))])),(sQ 4 2 8)] [(1,4),(2,4)] [])
 .ret))⟩
def A_Z1x:Nat→Ty := tyAt [.un,.un,.un]
abbrev P_Z1x:List PSh := [.agg (.pr (.pr tQ (.sl tQ)) (.pr tQ (.sl tQ)))]
abbrev R_Z1x:List PSh := [.agg (.pr (.pr tQ (.sl tQ)) (.pr tQ (.sl tQ)))]
theorem e_Z1x:cFn Tryz.prog 135 = some F_Z1x.erase := by kernel_rfl
theorem k_Z1x:callable Tryz.prog 135 = true := by kernel_rfl
def F_Zy:TFn := ⟨21,0,[.tmp 2],(.seq (.reg [(oQ 2 (.mv (.c (.p (.sl 0 [] true)))))])
 (.seq (.reg [(mQ 4 0),(hQ 5 4),(mQ 3 5)])
 (.seq (.block 0 (.loop [.v 3 tQ] [] [] (.seq (.seq (.reg [(mQ 6 3),(cQ 7 .gtr 6 0),(mQ 8 7),(vQ 9 8 true 0),(vQ 10 8 true 3),(gQ 11 8 true (.bin .sub (.t 10) (iQ 1))),(gQ 12 8 true (.ia 1 (.t 9) (.t 11))),(gQ 13 8 true (.ld1 (.t 12))),(gQ 14 8 true (.bin .eql (.t 13) (iQ 0))),(oQ 15 (.pick (.t 8) (.t 14) cF))])
 (.cond (.t 15) .skip (.exit 0)))
 (.block 1 (.reg [(mQ 16 3),(cQ 17 .sub 16 1),(mQ 3 17)])))))
 (.seq (.reg [(mQ 18 0),(mQ 19 3),(oQ 20 (.sl 1 (.t 18) none (some (.t 19)))),(mQ 2 20)])
 .ret))))⟩
def A_Zy:Nat→Ty := tyAt []
abbrev P_Zy:List PSh := [.one (.sl tQ)]
abbrev R_Zy:List PSh := [.one (.sl tQ)]
theorem e_Zy:cFn Tryz.prog 139 = some F_Zy.erase := by kernel_rfl
theorem k_Zy:callable Tryz.prog 139 = true := by kernel_rfl
def F_Z1b:TFn := ⟨9,2,[.celln 2 2],(.seq (.reg [(oQ 1 (.box 0 (.t 0))),(oQ 2 (.newz 1 [zQ,(.p (.sl 0 [] true))]))])
 (.seq (.reg [(fQ 3 0 1),(lQ 4 3),(oQ 5 (.uneg (.t 4))),(fQ 6 1 1),(lQ 7 6),(oQ 8 (.build [zQ,(.p (.sl 0 [] true))] [(0,1,(.t 5)),(1,1,(.t 7))])),(sQ 2 2 8)])
 .ret))⟩
def A_Z1b:Nat→Ty := tyAt [.un,.un]
abbrev P_Z1b:List PSh := [.agg (.pr tQ (.sl tQ))]
abbrev R_Z1b:List PSh := [.agg (.pr tQ (.sl tQ))]
theorem e_Z1b:cFn Tryz.prog 138 = some F_Z1b.erase := by kernel_rfl
theorem k_Z1b:callable Tryz.prog 138 = true := by kernel_rfl
def F_Z23:TFn := ⟨8,2,[.tmp 3],(.seq (.reg [(oQ 2 (.box 0 (.t 0))),(oQ 3 (.mv cF))])
 (.seq (.reg [(nQ 4 1 1),(nQ 5 3 2),(kQ 6 1 110 [(.t 4),(.t 5)]),(oQ 7 (.unot (.t 6))),(mQ 3 7)])
 .ret))⟩
def A_Z23:Nat→Ty := tyAt [.un,.un]
abbrev P_Z23:List PSh := [.agg (.pr tQ pQ),.ptr (.sl pQ)]
abbrev R_Z23:List PSh := [.one .bool]
theorem e_Z23:cFn Tryz.prog 109 = some F_Z23.erase := by kernel_rfl
theorem k_Z23:callable Tryz.prog 109 = true := by kernel_rfl
def F_Zk:TFn := ⟨23,10,[.celln 4 2],(.seq (.reg [(oQ 2 (.box 0 (.t 0))),(oQ 3 (.box 1 (.t 1))),(oQ 4 (.newz 2 [zQ,(.p (.sl 0 [] true))]))])
 (.seq (.regd [(nQ 6 2 2),(kQ 7 3 146 [(.t 6)]),(nQ 8 2 3),(kQ 9 4 146 [(.t 8)]),(sQ 2 2 7),(sQ 2 3 9)] [(0,2),(1,2)] [])
 (.seq (.block 0 (.loop [.c 0 (.pr tQ (.sl tQ)),.c 1 (.pr tQ (.sl tQ))] [0,1,9] [9] (.seq (.seq (.reg [(nQ 10 2 3),(kQ 11 5 70 [(.t 10)]),(cQ 12 .neq 11 0)])
 (.cond (.t 12) .skip (.exit 0)))
 (.block 1 (.seq (.regd [(nQ 13 2 2),(nQ 14 2 2),(nQ 15 2 3),(kQ 16 6 142 [(.t 14),(.t 15)]),(nQ 17 2 3),(kQ 18 7 101 [(.t 16),(.t 17)]),(kQ 19 8 123 [(.t 13),(.t 18)]),(oQ 5 (.newz 9 [zQ,(.p (.sl 0 [] true))])),(sQ 2 5 19)] [(0,1),(0,2),(1,2),(0,3),(0,4),(1,4),(2,4),(3,4),(0,5),(0,7),(1,7),(2,7),(3,7),(4,7),(5,7),(6,7)] [])
 (.regd [(nQ 20 2 3),(nQ 21 2 5),(sQ 2 2 20),(sQ 2 3 21)] [(0,1),(1,2)] []))))))
 (.seq (.reg [(nQ 22 2 2),(sQ 2 4 22)])
 .ret))))⟩
def A_Zk:Nat→Ty := tyAt [.un,.un,.un,.un,.un,.un,.un,.un,.un,.un]
abbrev P_Zk:List PSh := [.agg (.pr tQ (.sl tQ)),.agg (.pr tQ (.sl tQ))]
abbrev R_Zk:List PSh := [.agg (.pr tQ (.sl tQ))]
theorem e_Zk:cFn Tryz.prog 141 = some F_Zk.erase := by kernel_rfl
theorem k_Zk:callable Tryz.prog 141 = true := by kernel_rfl
def F_Zg:TFn := ⟨88,20,[.celln 4 2],(.seq (.reg [(oQ 2 (.box 0 (.t 0))),(oQ 3 (.box 1 (.t 1))),(oQ 4 (.newz 2 [zQ,(.p (.sl 0 [] true))]))])
 (.seq (.seq (.reg [(fQ 12 0 2),(lQ 13 12),(cQ 14 .eql 13 0)])
 (.cond (.t 14) (.seq (.reg [(oQ 15 (.build [zQ,(.p (.sl 0 [] true))] [])),(sQ 2 4 15)])
 .ret) .skip))
 (.seq (.reg [(fQ 16 1 2),(lQ 17 16),(hQ 18 17),(oQ 19 (.mk 3 1 8 [zQ] (.t 18))),(oQ 20 (.bsl false 4 1 0 [] [])),(mQ 5 19),(mQ 6 20)])
 (.seq (.seq (.reg [(fQ 21 1 2),(lQ 22 21),(hQ 23 22),(cQ 24 .sub 23 1),(mQ 7 24)])
 (.block 0 (.loop [.v 7 tQ,.v 6 (.sl tQ),.d 3 tQ] [3,5] [5] (.seq (.seq (.reg [(mQ 25 7),(cQ 26 .geq 25 0)])
 (.cond (.t 26) .skip (.exit 0)))
 (.seq (.block 1 (.seq (.reg [(fQ 29 1 2),(lQ 30 29),(mQ 31 7),(jQ 32 1 30 31),(lQ 33 32),(oQ 34 (.bsl true 5 1 1 [zQ] [(0,1,(.t 33))])),(mQ 35 6),(oQ 36 (.app 6 1 8 (.t 34) (.t 35))),(kQ 37 7 139 [(.t 36)]),(mQ 6 37)])
 (.seq (.reg [(oQ 8 (.mv (iQ 0))),(oQ 9 (.mv (iQ 999999999)))])
 (.seq (.block 2 (.loop [.v 9 tQ,.v 8 tQ] [] [] (.seq (.seq (.reg [(mQ 38 8),(mQ 39 9),(bQ 40 .lss 38 39)])
 (.cond (.t 40) .skip (.exit 2)))
 (.block 3 (.seq (.reg [(mQ 41 8),(mQ 42 9),(bQ 43 .add 41 42),(cQ 44 .add 43 1),(cQ 45 .quo 44 2),(mQ 10 45)])
 (.seq (.reg [(fQ 46 1 3),(lQ 47 46),(kQ 48 8 124 [(iQ 1),(.t 47)]),(mQ 49 10),(kQ 50 9 116 [(.t 49)]),(kQ 51 10 101 [(.t 48),(.t 50)]),(oQ 52 (.prt 1 none (.t 51))),(mQ 53 6),(kQ 54 11 144 [(.t 52),(.t 53)]),(cQ 55 .leq 54 0)])
 (.cond (.t 55) (.reg [(mQ 56 10),(mQ 8 56)]) (.reg [(mQ 57 10),(cQ 58 .sub 57 1),(mQ 9 58)]))))))))
 (.seq (.reg [(mQ 59 5),(mQ 60 7),(mQ 61 8),(jQ 62 1 59 60),(sQ 1 62 61)])
 (.reg [(mQ 63 6),(fQ 64 1 3),(lQ 65 64),(kQ 66 12 124 [(iQ 1),(.t 65)]),(mQ 67 8),(kQ 68 13 116 [(.t 67)]),(kQ 69 14 101 [(.t 66),(.t 68)]),(oQ 70 (.prt 1 none (.t 69))),(kQ 71 15 145 [(.t 63),(.t 70)]),(mQ 6 71)]))))))
 (.reg [(mQ 27 7),(cQ 28 .sub 27 1),(mQ 7 28)]))))))
 (.seq (.reg [(fQ 72 0 2),(lQ 73 72),(mQ 74 5),(kQ 75 16 124 [(.t 73),(.t 74)]),(oQ 11 (.newz 17 [zQ,(.p (.sl 0 [] true))])),(sQ 2 11 75)])
 (.seq (.seq (.reg [(fQ 76 0 2),(lQ 77 76),(cQ 78 .lss 77 0),(mQ 79 78),(vQ 80 79 true 6),(gQ 81 79 true (.len false (.t 80))),(gQ 82 79 true (.bin .gtr (.t 81) (iQ 0))),(oQ 83 (.pick (.t 79) (.t 82) cF))])
 (.cond (.t 83) (.regd [(nQ 84 2 11),(kQ 85 18 116 [(iQ 1)]),(kQ 86 19 123 [(.t 84),(.t 85)]),(sQ 2 11 86)] [(0,1)] []) .skip))
 (.seq (.reg [(nQ 87 2 11),(sQ 2 4 87)])
 .ret)))))))⟩
def A_Zg:Nat→Ty := tyAt [.un,.un,.un,tQ,tQ,tQ,tQ,.un,.un,.un,.un,.un,.un,.un,.un,.un,.un,.un,.un,.un]
abbrev P_Zg:List PSh := [.agg (.pr tQ (.sl tQ)),.agg (.pr tQ (.sl tQ))]
abbrev R_Zg:List PSh := [.agg (.pr tQ (.sl tQ))]
theorem e_Zg:cFn Tryz.prog 142 = some F_Zg.erase := by kernel_rfl
theorem k_Zg:callable Tryz.prog 142 = true := by kernel_rfl
def F_Zn:TFn := ⟨42,4,[.tmp 4],(.seq (.reg [(oQ 4 (.mv (.c (.p (.sl 0 [] true)))))])
 (.seq (.reg [(oQ 5 (.mv (.c (.p (.sl 0 [] true)))))])
 (.seq (.reg [(oQ 6 (.mv (iQ 0)))])
 (.seq (.seq (.reg [(oQ 7 (.mv (iQ 0)))])
 (.block 0 (.loop [.v 7 tQ,.o 5 3 tQ,.v 6 tQ] [3] [3] (.seq (.seq (.reg [(mQ 9 7),(mQ 10 0),(hQ 11 10),(bQ 12 .lss 9 11),(mQ 13 12),(vQ 14 13 false 7),(vQ 15 13 false 1),(gQ 16 13 false (.len false (.t 15))),(gQ 17 13 false (.bin .lss (.t 14) (.t 16))),(oQ 18 (.pick (.t 13) cT (.t 17))),(mQ 19 18),(vQ 20 19 false 6),(gQ 21 19 false (.bin .gtr (.t 20) (iQ 0))),(oQ 22 (.pick (.t 19) cT (.t 21)))])
 (.cond (.t 22) .skip (.exit 0)))
 (.seq (.block 1 (.seq (.reg [(mQ 25 0),(mQ 26 7),(kQ 27 0 147 [(.t 25),(.t 26)]),(mQ 28 1),(mQ 29 7),(kQ 30 1 147 [(.t 28),(.t 29)]),(bQ 31 .add 27 30),(mQ 32 6),(bQ 33 .add 31 32),(mQ 8 33)])
 (.reg [(mQ 34 5),(mQ 35 8),(cQ 36 .rem 35 1000000000),(oQ 37 (.bsl false 2 1 1 [zQ] [(0,1,(.t 36))])),(oQ 38 (.app 3 1 8 (.t 34) (.t 37))),(mQ 39 8),(cQ 40 .quo 39 1000000000),(mQ 5 38),(mQ 6 40)])))
 (.reg [(mQ 23 7),(cQ 24 .add 23 1),(mQ 7 24)]))))))
 (.seq (.reg [(mQ 41 5),(mQ 4 41)])
 .ret)))))⟩
def A_Zn:Nat→Ty := tyAt [.un,.un,tQ,tQ]
abbrev P_Zn:List PSh := [.one (.sl tQ),.one (.sl tQ)]
abbrev R_Zn:List PSh := [.one (.sl tQ)]
theorem e_Zn:cFn Tryz.prog 143 = some F_Zn.erase := by kernel_rfl
theorem k_Zn:callable Tryz.prog 143 = true := by kernel_rfl
def F_Zz:TFn := ⟨41,0,[.tmp 4],(.seq (.reg [(oQ 4 (.mv (iQ 0)))])
 (.seq (.seq (.reg [(mQ 6 0),(hQ 7 6),(mQ 8 1),(hQ 9 8),(bQ 10 .neq 7 9)])
 (.cond (.t 10) (.seq (.seq (.reg [(mQ 11 0),(hQ 12 11),(mQ 13 1),(hQ 14 13),(bQ 15 .lss 12 14)])
 (.cond (.t 15) (.seq (.reg [(oQ 4 (.mv (iQ (-1))))])
 .ret) .skip))
 (.seq (.reg [(oQ 4 (.mv (iQ 1)))])
 .ret)) .skip))
 (.seq (.seq (.reg [(mQ 16 0),(hQ 17 16),(cQ 18 .sub 17 1),(mQ 5 18)])
 (.block 0 (.loop [.v 5 tQ] [] [] (.seq (.seq (.reg [(mQ 19 5),(cQ 20 .geq 19 0)])
 (.cond (.t 20) .skip (.exit 0)))
 (.seq (.block 1 (.seq (.seq (.regd [(mQ 23 0),(mQ 24 5),(jQ 25 1 23 24),(lQ 26 25),(mQ 27 1),(mQ 28 5),(jQ 29 1 27 28),(lQ 30 29),(bQ 31 .lss 26 30)] [(3,7)] [])
 (.cond (.t 31) (.seq (.reg [(oQ 4 (.mv (iQ (-1))))])
 .ret) .skip))
 (.seq (.regd [(mQ 32 0),(mQ 33 5),(jQ 34 1 32 33),(lQ 35 34),(mQ 36 1),(mQ 37 5),(jQ 38 1 36 37),(lQ 39 38),(bQ 40 .gtr 35 39)] [(3,7)] [])
 (.cond (.t 40) (.seq (.reg [(oQ 4 (.mv (iQ 1)))])
 .ret) .skip))))
 (.reg [(mQ 21 5),(cQ 22 .sub 21 1),(mQ 5 22)]))))))
 (.seq (.reg [(oQ 4 (.mv (iQ 0)))])
 .ret))))⟩
def A_Zz:Nat→Ty := tyAt []
abbrev P_Zz:List PSh := [.one (.sl tQ),.one (.sl tQ)]
abbrev R_Zz:List PSh := [.one tQ]
theorem e_Zz:cFn Tryz.prog 144 = some F_Zz.erase := by kernel_rfl
theorem k_Zz:callable Tryz.prog 144 = true := by kernel_rfl
def F_Zo:TFn := ⟨35,4,[.tmp 4],(.seq (.reg [(oQ 4 (.mv (.c (.p (.sl 0 [] true)))))])
 (.seq (.reg [(oQ 5 (.mv (.c (.p (.sl 0 [] true)))))])
 (.seq (.reg [(oQ 6 (.mv (iQ 0)))])
 (.seq (.seq (.reg [(oQ 7 (.mv (iQ 0)))])
 (.block 0 (.loop [.v 7 tQ,.o 5 2 tQ,.v 6 tQ] [2] [2] (.seq (.seq (.reg [(mQ 9 7),(mQ 10 0),(hQ 11 10),(bQ 12 .lss 9 11)])
 (.cond (.t 12) .skip (.exit 0)))
 (.seq (.block 1 (.seq (.regd [(mQ 15 0),(mQ 16 7),(jQ 17 1 15 16),(lQ 18 17),(mQ 19 1),(mQ 20 7),(kQ 21 0 147 [(.t 19),(.t 20)]),(bQ 22 .sub 18 21),(mQ 23 6),(bQ 24 .sub 22 23),(mQ 8 24)] [(3,6)] [])
 (.seq (.reg [(oQ 6 (.mv (iQ 0)))])
 (.seq (.seq (.reg [(mQ 25 8),(cQ 26 .lss 25 0)])
 (.cond (.t 26) (.reg [(mQ 27 8),(cQ 28 .add 27 1000000000),(mQ 8 28),(oQ 6 (.mv (iQ 1)))]) .skip))
 (.reg [(mQ 29 5),(mQ 30 8),(oQ 31 (.bsl false 1 1 1 [zQ] [(0,1,(.t 30))])),(oQ 32 (.app 2 1 8 (.t 29) (.t 31))),(mQ 5 32)])))))
 (.reg [(mQ 13 7),(cQ 14 .add 13 1),(mQ 7 14)]))))))
 (.seq (.reg [(mQ 33 5),(kQ 34 3 139 [(.t 33)]),(mQ 4 34)])
 .ret)))))⟩
def A_Zo:Nat→Ty := tyAt [.un,tQ,tQ,.un]
abbrev P_Zo:List PSh := [.one (.sl tQ),.one (.sl tQ)]
abbrev R_Zo:List PSh := [.one (.sl tQ)]
theorem e_Zo:cFn Tryz.prog 145 = some F_Zo.erase := by kernel_rfl
theorem k_Zo:callable Tryz.prog 145 = true := by kernel_rfl
def F_Z1q:TFn := ⟨21,6,[.tmp 4],(.seq (.reg [(oQ 2 (.box 0 (.t 0))),(oQ 3 (.box 1 (.t 1))),(oQ 4 (.mv cF))])
 (.seq (.reg [(fQ 6 0 2),(lQ 7 6),(fQ 8 0 3),(lQ 9 8),(kQ 10 2 82 [(.t 7),(.t 9)]),(oQ 5 (.newz 3 [zQ,zQ])),(sQ 2 5 10)])
 (.seq (.reg [(nQ 11 2 5),(nQ 12 3 3),(kQ 13 4 133 [(.t 11),(.t 12)]),(oQ 14 (.unot (.t 13))),(mQ 15 14),(gQ 16 15 true (.ldn 2 (.t 5))),(gQ 17 15 true (.ldn 3 (.t 3))),⟨some 18,some (some 15,true),(.call 5 134 [(.t 16),(.t 17)])⟩,(gQ 19 15 true (.unot (.t 18))),(oQ 20 (.pick (.t 15) (.t 19) cF)),(mQ 4 20)])
 .ret)))⟩
def A_Z1q:Nat→Ty := tyAt [.un,.un,.un,.un,.un,.un]
abbrev P_Z1q:List PSh := [.agg (.sl pQ),.agg (.pr tQ pQ)]
abbrev R_Z1q:List PSh := [.one .bool]
theorem e_Z1q:cFn Tryz.prog 110 = some F_Z1q.erase := by kernel_rfl
theorem k_Z1q:callable Tryz.prog 110 = true := by kernel_rfl
def F_Z1y:TFn := ⟨9,3,[.celln 2 2],(.seq (.reg [(oQ 1 (.box 0 (.t 0))),(oQ 2 (.newz 1 [zQ,(.p (.sl 0 [] true))]))])
 (.seq (.seq (.reg [(fQ 3 0 1),(lQ 4 3),(cQ 5 .lss 4 0)])
 (.cond (.t 5) (.seq (.reg [(nQ 6 2 1),(kQ 7 2 138 [(.t 6)]),(sQ 2 2 7)])
 .ret) .skip))
 (.seq (.reg [(nQ 8 2 1),(sQ 2 2 8)])
 .ret)))⟩
def A_Z1y:Nat→Ty := tyAt [.un,.un,.un]
abbrev P_Z1y:List PSh := [.agg (.pr tQ (.sl tQ))]
abbrev R_Z1y:List PSh := [.agg (.pr tQ (.sl tQ))]
theorem e_Z1y:cFn Tryz.prog 146 = some F_Z1y.erase := by kernel_rfl
theorem k_Z1y:callable Tryz.prog 146 = true := by kernel_rfl
def F_Z1o:TFn := ⟨13,0,[.tmp 4],(.seq (.reg [(oQ 4 (.mv (iQ 0)))])
 (.seq (.seq (.reg [(mQ 5 1),(mQ 6 0),(hQ 7 6),(bQ 8 .lss 5 7)])
 (.cond (.t 8) (.seq (.reg [(mQ 9 0),(mQ 10 1),(jQ 11 1 9 10),(lQ 12 11),(mQ 4 12)])
 .ret) .skip))
 (.seq (.reg [(oQ 4 (.mv (iQ 0)))])
 .ret)))⟩
def A_Z1o:Nat→Ty := tyAt []
abbrev P_Z1o:List PSh := [.one (.sl tQ),.one tQ]
abbrev R_Z1o:List PSh := [.one tQ]
theorem e_Z1o:cFn Tryz.prog 147 = some F_Z1o.erase := by kernel_rfl
theorem k_Z1o:callable Tryz.prog 147 = true := by kernel_rfl
def F_Z1h:TFn := ⟨15,2,[.tmp 4],(.seq (.reg [(oQ 2 (.box 0 (.t 0))),(oQ 3 (.box 1 (.t 1))),(oQ 4 (.mv cF))])
 (.seq (.reg [(fQ 5 0 2),(lQ 6 5),(oQ 7 (.bin .mul (iQ 1000) (.t 6))),(fQ 8 1 3),(fQ 9 0 8),(lQ 10 9),(fQ 11 1 2),(lQ 12 11),(bQ 13 .mul 10 12),(bQ 14 .lss 7 13),(mQ 4 14)])
 .ret))⟩
def A_Z1h:Nat→Ty := tyAt [.un,.un]
abbrev P_Z1h:List PSh := [.agg pQ,.agg (.pr tQ pQ)]
abbrev R_Z1h:List PSh := [.one .bool]
theorem e_Z1h:cFn Tryz.prog 133 = some F_Z1h.erase := by kernel_rfl
theorem k_Z1h:callable Tryz.prog 133 = true := by kernel_rfl
def F_Z1i:TFn := ⟨15,2,[.tmp 4],(.seq (.reg [(oQ 2 (.box 0 (.t 0))),(oQ 3 (.box 1 (.t 1))),(oQ 4 (.mv cF))])
 (.seq (.reg [(fQ 5 0 2),(lQ 6 5),(oQ 7 (.bin .mul (iQ 1000) (.t 6))),(fQ 8 1 3),(fQ 9 1 8),(lQ 10 9),(fQ 11 1 2),(lQ 12 11),(bQ 13 .mul 10 12),(bQ 14 .gtr 7 13),(mQ 4 14)])
 .ret))⟩
def A_Z1i:Nat→Ty := tyAt [.un,.un]
abbrev P_Z1i:List PSh := [.agg pQ,.agg (.pr tQ pQ)]
abbrev R_Z1i:List PSh := [.one .bool]
theorem e_Z1i:cFn Tryz.prog 134 = some F_Z1i.erase := by kernel_rfl
theorem k_Z1i:callable Tryz.prog 134 = true := by kernel_rfl
end Go.Proofs.YtehblgccaiiikaaGreat
