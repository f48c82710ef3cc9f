/- The code of the functions that MagnetBest reaches, as it is walked: each equals what the given program's text gives. -/
import Derived.Test.YtcdbaepeabefnaaGm3MagnetBest
import Derived.Test.YtcdbaepeabefnaaProg
import Derived.KernelRfl
namespace Go.Proofs.Ytcdbaepeabefnaa
open Go Go.Mx
set_option maxRecDepth 100000
abbrev mQ (d x:Nat):AIns := ⟨some d,none,.op (.mv (.t x))⟩
abbrev fQ (d f x:Nat):AIns := ⟨some d,none,.op (.fa f (.t x))⟩
abbrev lQ (d x:Nat):AIns := ⟨some d,none,.op (.ld1 (.t x))⟩
abbrev nQ (d n x:Nat):AIns := ⟨some d,none,.op (.ldn n (.t x))⟩
abbrev hQ (d x:Nat):AIns := ⟨some d,none,.op (.len false (.t x))⟩
abbrev sQ (n x v:Nat):AIns := ⟨none,none,.op (.st n (.t x) (.t v))⟩
abbrev jQ (d k x i:Nat):AIns := ⟨some d,none,.op (.ia k (.t x) (.t i))⟩
abbrev bQ (d:Nat) (b:BinOp) (x y:Nat):AIns := ⟨some d,none,.op (.bin b (.t x) (.t y))⟩
abbrev cQ (d:Nat) (b:BinOp) (x:Nat) (n:Int):AIns := ⟨some d,none,.op (.bin b (.t x) (.c (.p (.int .i64 n))))⟩
abbrev vQ (d g:Nat) (b:Bool) (x:Nat):AIns := ⟨some d,some (some g,b),.op (.mv (.t x))⟩
abbrev cF:Opd := .c (.p (.bool false))
abbrev cT:Opd := .c (.p (.bool true))
abbrev oQ (d:Nat) (o:AOp):AIns := ⟨some d,none,.op o⟩
abbrev uQ (o:AOp):AIns := ⟨none,none,.op o⟩
abbrev gQ (d g:Nat) (b:Bool) (o:AOp):AIns := ⟨some d,some (some g,b),.op o⟩
abbrev kQ (d s f:Nat) (a:List Opd):AIns := ⟨some d,none,.call s f a⟩
abbrev iQ (n:Int):Opd := .c (.p (.int .i64 n))
abbrev zQ:V := .p (.int .i64 0)
abbrev tQ:Ty := .int .i64
abbrev pQ:Ty := .pr tQ tQ
def F_Z1:TFn := ⟨204,25,[.tmp 6],(.seq (.reg [(oQ 5 (.box 0 (.t 2))),(oQ 6 (.mv cF))])
 (.seq (.seq (.reg [(kQ 23 1 4 []),(oQ 24 (.unot (.t 23)))])
 (.cond (.t 24) (.seq (.reg [(oQ 6 (.mv cF))])
 .ret) .skip))
 (.seq (.seq (.reg [(mQ 25 0),(kQ 26 2 5 [(.t 25)]),(oQ 27 (.unot (.t 26))),(mQ 28 27),(vQ 29 28 false 0),(vQ 30 28 false 1),⟨some 31,some (some 28,false),(.call 3 6 [(.t 29),(.t 30)])⟩,(gQ 32 28 false (.bin .neq (.t 31) (iQ 0))),(oQ 33 (.pick (.t 28) cT (.t 32)))])
 (.cond (.t 33) (.seq (.reg [(oQ 6 (.mv cT))])
 .ret) .skip))
 (.seq (.reg [(mQ 35 0),(kQ 36 4 8 [(.t 35)]),(mQ 37 1),(kQ 38 5 7 [(.t 36),(.t 37)]),(mQ 34 38),(oQ 39 (.ext 0 (.t 34))),(oQ 40 (.ext 1 (.t 34))),(oQ 7 (.newz 6 [zQ,zQ,zQ,zQ,zQ,zQ,zQ,zQ,zQ])),(sQ 9 7 39),(mQ 8 40)])
 (.seq (.seq (.reg [(mQ 41 8),(cQ 42 .neq 41 0)])
 (.cond (.t 42) (.seq (.reg [(mQ 43 8),(cQ 44 .eql 43 12),(mQ 45 44),(vQ 46 45 false 8),(gQ 47 45 false (.bin .eql (.t 46) (iQ 8))),(oQ 48 (.pick (.t 45) cT (.t 47))),(mQ 6 48)])
 .ret) .skip))
 (.seq (.seq (.regd [(mQ 50 0),(kQ 51 7 8 [(.t 50)]),(mQ 52 1),(nQ 53 9 7),(kQ 54 8 9 [(.t 51),(.t 52),(.t 53)]),(mQ 49 54),(oQ 55 (.ext 0 (.t 49))),(oQ 56 (.ext 1 (.t 49))),(mQ 9 55),(mQ 10 56)] [(1,3)] [])
 (.seq (.reg [(mQ 57 10),(cQ 58 .neq 57 0),(mQ 59 58),(vQ 60 59 false 9),(gQ 61 59 false (.bin .neq (.t 60) (iQ 0))),(oQ 62 (.pick (.t 59) cT (.t 61))),(mQ 63 62),(gQ 64 63 false (.ldn 9 (.t 7))),⟨some 65,some (some 63,false),(.call 9 10 [(.t 64)])⟩,(gQ 66 63 false (.bin .neq (.t 65) (iQ 0))),(oQ 67 (.pick (.t 63) cT (.t 66)))])
 (.cond (.t 67) (.seq (.reg [(oQ 6 (.mv cF))])
 .ret) .skip)))
 (.seq (.reg [(nQ 68 9 7),(oQ 11 (.newz 10 [zQ,zQ,zQ,zQ,zQ,zQ,zQ,zQ,zQ])),(sQ 9 11 68)])
 (.seq (.reg [(mQ 69 0),(kQ 70 11 8 [(.t 69)]),(mQ 12 70)])
 (.seq (.seq (.reg [(oQ 13 (.mv (iQ 0)))])
 (.block 0 (.loop [.v 13 tQ,.d 11 (.pr tQ (.pr tQ (.pr tQ pQ)))] [11] [] (.seq (.seq (.reg [(mQ 71 13),(mQ 72 12),(hQ 73 72),(bQ 74 .lss 71 73)])
 (.cond (.t 74) .skip (.exit 0)))
 (.seq (.block 1 (.reg [(mQ 77 12),(mQ 78 13),(jQ 79 5 77 78),(fQ 80 4 79),(uQ (.st 1 (.t 80) (iQ 0)))]))
 (.reg [(mQ 75 13),(cQ 76 .add 75 1),(mQ 13 76)]))))))
 (.seq (.seq (.reg [(oQ 14 (.mv (iQ 0)))])
 (.block 2 (.loop [.v 14 tQ,.c 10 (.pr tQ (.pr tQ (.pr tQ (.pr tQ (.pr tQ (.pr tQ (.pr tQ pQ))))))),.d 11 (.pr tQ (.pr tQ (.pr tQ pQ)))] [10,11] [] (.seq (.seq (.reg [(mQ 81 14),(cQ 82 .lss 81 8)])
 (.cond (.t 82) .skip (.exit 2)))
 (.seq (.block 3 (.seq (.seq (.reg [(mQ 85 1),(mQ 86 14),(oQ 87 (.sh false (.t 85) (.t 86))),(cQ 88 .and 87 1),(cQ 89 .eql 88 0),(mQ 90 89),(vQ 91 90 false 14),(gQ 92 90 false (.iaa 1 8 (.t 5) (.t 91))),(gQ 93 90 false (.ld1 (.t 92))),⟨some 94,some (some 90,false),(.call 12 11 [(.t 93),(iQ (-20)),(iQ 20)])⟩,(gQ 95 90 false (.unot (.t 94))),(oQ 96 (.pick (.t 90) cT (.t 95)))])
 (.cond (.t 96) (.exit 3) .skip))
 (.seq (.regd [(mQ 97 14),(mQ 98 14),(fQ 99 1 11),(oQ 100 (.iaa 1 8 (.t 99) (.t 98))),(lQ 101 100),(mQ 102 14),(oQ 103 (.iaa 1 8 (.t 5) (.t 102))),(lQ 104 103),(bQ 105 .add 101 104),(fQ 106 1 11),(oQ 107 (.iaa 1 8 (.t 106) (.t 97))),(sQ 1 107 105)] [(4,7)] [])
 (.seq (.reg [(oQ 15 (.mv (iQ 0)))])
 (.block 4 (.loop [.v 15 tQ,.d 11 (.pr tQ (.pr tQ (.pr tQ pQ)))] [11] [] (.seq (.seq (.reg [(mQ 108 15),(mQ 109 12),(hQ 110 109),(bQ 111 .lss 108 110)])
 (.cond (.t 111) .skip (.exit 4)))
 (.seq (.block 5 (.regd [(mQ 114 12),(mQ 115 15),(mQ 116 12),(mQ 117 15),(jQ 118 5 116 117),(fQ 119 4 118),(lQ 120 119),(mQ 121 14),(oQ 122 (.iaa 1 8 (.t 5) (.t 121))),(lQ 123 122),(mQ 124 0),(mQ 125 15),(kQ 126 13 12 [(.t 124),(.t 125)]),(mQ 127 14),(oQ 128 (.idx 1 8 false (.t 126) (.t 127))),(bQ 129 .mul 123 128),(bQ 130 .add 120 129),(jQ 131 5 114 115),(fQ 132 4 131),(sQ 1 132 130)] [(6,9),(6,12),(9,12)] []))
 (.reg [(mQ 112 15),(cQ 113 .add 112 1),(mQ 15 113)])))))))))
 (.reg [(mQ 83 14),(cQ 84 .add 83 1),(mQ 14 84)]))))))
 (.seq (.seq (.reg [(nQ 133 9 11),(nQ 134 9 7),(oQ 135 (.eqa true 9 [(true,0),(true,1),(true,2),(true,3),(true,4),(true,5),(true,6),(true,7),(true,8)] (.t 133) (.t 134))),(mQ 136 135),(gQ 137 136 true (.ldn 9 (.t 11))),⟨some 138,some (some 136,true),(.call 14 10 [(.t 137)])⟩,(gQ 139 136 true (.bin .eql (.t 138) (iQ 0))),(oQ 140 (.pick (.t 136) (.t 139) cF))])
 (.cond (.t 140) (.seq (.seq (.regd [(mQ 142 0),(kQ 143 15 8 [(.t 142)]),(mQ 144 1),(nQ 145 9 11),(kQ 146 16 9 [(.t 143),(.t 144),(.t 145)]),(mQ 141 146),(oQ 147 (.ext 0 (.t 141))),(oQ 148 (.ext 1 (.t 141))),(mQ 16 147),(mQ 17 148)] [(1,3)] [])
 (.seq (.reg [(mQ 149 17),(cQ 150 .neq 149 3),(mQ 151 150),(vQ 152 151 true 17),(gQ 153 151 true (.bin .neq (.t 152) (iQ 19))),(oQ 154 (.pick (.t 151) (.t 153) cF))])
 (.cond (.t 154) (.seq (.reg [(oQ 6 (.mv cF))])
 .ret) .skip)))
 (.seq (.regd [(mQ 155 0),(nQ 156 9 7),(kQ 157 17 14 [(.t 155),(.t 156)]),(mQ 158 0),(nQ 159 9 11),(kQ 160 18 14 [(.t 158),(.t 159)]),(kQ 161 19 13 [(.t 157),(.t 160)]),(cQ 162 .gtr 161 0)] [(1,4),(2,4)] [])
 (.cond (.t 162) (.seq (.reg [(oQ 6 (.mv cF))])
 .ret) .skip))) .skip))
 (.seq (.reg [(mQ 164 12),(kQ 165 20 8 [(.t 164)]),(mQ 166 1),(kQ 167 21 7 [(.t 165),(.t 166)]),(mQ 163 167),(oQ 168 (.ext 0 (.t 163))),(oQ 169 (.ext 1 (.t 163))),(oQ 18 (.newz 22 [zQ,zQ,zQ,zQ,zQ,zQ,zQ,zQ,zQ])),(sQ 9 18 168),(mQ 19 169)])
 (.seq (.seq (.reg [(mQ 170 19),(cQ 171 .neq 170 0),(mQ 172 171),(gQ 173 172 false (.ldn 9 (.t 18))),⟨some 174,some (some 172,false),(.call 23 10 [(.t 173)])⟩,(gQ 175 172 false (.bin .neq (.t 174) (iQ 0))),(oQ 176 (.pick (.t 172) cT (.t 175)))])
 (.cond (.t 176) (.seq (.reg [(oQ 6 (.mv cF))])
 .ret) .skip))
 (.seq (.reg [(mQ 178 12),(nQ 179 9 18),(kQ 180 24 15 [(.t 178),(.t 179)]),(mQ 177 180),(oQ 181 (.ext 0 (.t 177))),(oQ 182 (.ext 1 (.t 177))),(mQ 20 181),(mQ 21 182)])
 (.seq (.seq (.reg [(mQ 183 21),(cQ 184 .neq 183 0),(mQ 185 184),(vQ 186 185 false 20),(gQ 187 185 false (.len false (.t 186))),(vQ 188 185 false 0),(gQ 189 185 false (.len false (.t 188))),(gQ 190 185 false (.bin .neq (.t 187) (.t 189))),(oQ 191 (.pick (.t 185) cT (.t 190)))])
 (.cond (.t 191) (.seq (.reg [(oQ 6 (.mv cF))])
 .ret) .skip))
 (.seq (.seq (.reg [(oQ 22 (.mv (iQ 0)))])
 (.block 6 (.loop [.v 22 tQ] [] [] (.seq (.seq (.reg [(mQ 192 22),(mQ 193 20),(hQ 194 193),(bQ 195 .lss 192 194)])
 (.cond (.t 195) .skip (.exit 6)))
 (.seq (.block 7 (.seq (.reg [(mQ 198 20),(mQ 199 22),(jQ 200 2 198 199),(nQ 201 2 200),(oQ 202 (.build [zQ,zQ] [])),(oQ 203 (.eqa true 2 [(true,0),(true,1)] (.t 201) (.t 202)))])
 (.cond (.t 203) (.seq (.reg [(oQ 6 (.mv cF))])
 .ret) .skip)))
 (.reg [(mQ 196 22),(cQ 197 .add 196 1),(mQ 22 197)]))))))
 (.seq (.reg [(oQ 6 (.mv cT))])
 .ret)))))))))))))))))⟩
def A_Z1:Nat→Ty := tyAt [.un,.un,.un,.un,.un,.un,.un,.un,.un,.un,.un,.un,.un,.un,.un,.un,.un,.un,.un,.un,.un,.un,.un,.un,.un]
abbrev P_Z1:List PSh := [.one (.sl (.pr tQ (.pr tQ (.pr tQ pQ)))),.one tQ,.agg (.pr tQ (.pr tQ (.pr tQ (.pr tQ (.pr tQ (.pr tQ pQ))))))]
abbrev R_Z1:List PSh := [.one .bool]
theorem e_Z1:cFn Try.prog 3 = some F_Z1.erase := by kernel_rfl
theorem k_Z1:jan Try.prog 3 = true := by kernel_rfl
def jkm:TFn := ⟨85,19,[.tmp 0],(.seq (.reg [(oQ 0 (.mv cF))])
 (.seq (.reg [(kQ 12 0 16 []),(kQ 13 1 7 [(.t 12),(iQ 3)]),(mQ 11 13),(oQ 14 (.ext 0 (.t 11))),(oQ 15 (.ext 1 (.t 11))),(oQ 1 (.newz 2 [zQ,zQ,zQ,zQ,zQ,zQ,zQ,zQ,zQ])),(sQ 9 1 14),(mQ 2 15)])
 (.seq (.reg [(kQ 17 3 16 []),(kQ 18 4 18 []),(kQ 19 5 17 [(.t 17),(.t 18)]),(mQ 16 19),(oQ 20 (.ext 0 (.t 16))),(oQ 21 (.ext 1 (.t 16))),(mQ 3 20),(mQ 4 21)])
 (.seq (.reg [(kQ 23 6 20 []),(kQ 24 7 19 [(.t 23),(iQ 5)]),(mQ 22 24),(oQ 25 (.ext 0 (.t 22))),(oQ 26 (.ext 1 (.t 22))),(oQ 5 (.newz 8 [zQ,zQ])),(sQ 2 5 25),(mQ 6 26)])
 (.seq (.reg [(kQ 28 9 20 []),(oQ 29 (.build [zQ,zQ] [(0,1,(iQ 15)),(1,1,(iQ 6))])),(kQ 30 10 21 [(.t 28),(.t 29)]),(mQ 27 30),(oQ 31 (.ext 0 (.t 27))),(oQ 32 (.ext 1 (.t 27))),(mQ 7 31),(mQ 8 32)])
 (.seq (.reg [(oQ 34 (.bsl false 11 1 5 [zQ,zQ,zQ,zQ,zQ] [(0,1,(iQ 0)),(1,1,(iQ 0)),(2,1,(iQ 5)),(3,1,(iQ 0)),(4,1,(iQ 0))])),(oQ 35 (.bsl false 12 1 5 [zQ,zQ,zQ,zQ,zQ] [(0,1,(iQ 5)),(1,1,(iQ 0)),(2,1,(iQ 0)),(3,1,(iQ 0)),(4,1,(iQ 0))])),(kQ 36 13 22 [(.t 34),(.t 35)]),(mQ 33 36),(oQ 37 (.ext 0 (.t 33))),(oQ 38 (.ext 1 (.t 33))),(mQ 9 37),(mQ 10 38)])
 (.seq (.regd [(mQ 39 2),(cQ 40 .eql 39 0),(mQ 41 40),(gQ 42 41 true (.ldn 9 (.t 1))),⟨some 43,some (some 41,true),(.call 14 18 [])⟩,(gQ 44 41 true (.eqa false 9 [(true,0),(true,1),(true,2),(true,3),(true,4),(true,5),(true,6),(true,7),(true,8)] (.t 42) (.t 43))),(oQ 45 (.pick (.t 41) (.t 44) cF)),(mQ 46 45),(vQ 47 46 true 4),(gQ 48 46 true (.bin .eql (.t 47) (iQ 0))),(oQ 49 (.pick (.t 46) (.t 48) cF)),(mQ 50 49),(vQ 51 50 true 3),(gQ 52 50 true (.build [zQ,zQ] [(0,1,(iQ 7)),(1,1,(iQ 7))])),(gQ 53 50 true (.build [zQ,zQ] [(0,1,(iQ 7)),(1,1,(iQ 7))])),(gQ 54 50 true (.build [zQ,zQ] [(0,1,(iQ 9)),(1,1,(iQ 9))])),(gQ 55 50 true (.bsl false 15 2 3 [zQ,zQ,zQ,zQ,zQ,zQ] [(0,2,(.t 52)),(2,2,(.t 53)),(4,2,(.t 54))])),⟨some 56,some (some 50,true),(.call 16 23 [(.t 51),(.t 55)])⟩,(oQ 57 (.pick (.t 50) (.t 56) cF)),(mQ 58 57),(vQ 59 58 true 6),(gQ 60 58 true (.bin .eql (.t 59) (iQ 0))),(oQ 61 (.pick (.t 58) (.t 60) cF)),(mQ 62 61),(gQ 63 62 true (.ldn 2 (.t 5))),(gQ 64 62 true (.build [zQ,zQ] [(0,1,(iQ 7)),(1,1,(iQ 7))])),(gQ 65 62 true (.eqa false 2 [(true,0),(true,1)] (.t 63) (.t 64))),(oQ 66 (.pick (.t 62) (.t 65) cF)),(mQ 67 66),(vQ 68 67 true 8),(gQ 69 67 true (.bin .eql (.t 68) (iQ 0))),(oQ 70 (.pick (.t 67) (.t 69) cF)),(mQ 71 70),(vQ 72 71 true 7),(gQ 73 71 true (.build [zQ,zQ] [(0,1,(iQ 4)),(1,1,(iQ 10))])),(gQ 74 71 true (.bsl false 17 2 1 [zQ,zQ] [(0,2,(.t 73))])),⟨some 75,some (some 71,true),(.call 18 23 [(.t 72),(.t 74)])⟩,(oQ 76 (.pick (.t 71) (.t 75) cF)),(mQ 77 76),(vQ 78 77 true 10),(gQ 79 77 true (.bin .eql (.t 78) (iQ 0))),(oQ 80 (.pick (.t 77) (.t 79) cF)),(mQ 81 80),(vQ 82 81 true 9),(gQ 83 81 true (.bin .eql (.t 82) (iQ 1))),(oQ 84 (.pick (.t 81) (.t 83) cF)),(mQ 0 84)] [(3,4)] [])
 .ret)))))))⟩
abbrev jwu:List PSh := []
abbrev jwv:List PSh := [.one .bool]
theorem jww:cFn Try.prog 4 = some jkm.erase := by kernel_rfl
theorem jwx:jan Try.prog 4 = true := by kernel_rfl
def joU:TFn := ⟨6,0,[.tmp 2],(.seq (.reg [(oQ 2 (.mv cF))])
 (.seq (.reg [(mQ 3 0),(hQ 4 3),(cQ 5 .leq 4 22),(mQ 2 5)])
 .ret))⟩
def jwy:Nat→Ty := tyAt []
abbrev joV:List PSh := [.one (.sl (.pr tQ (.pr tQ (.pr tQ pQ))))]
abbrev joW:List PSh := [.one .bool]
theorem jwz:cFn Try.prog 5 = some joU.erase := by kernel_rfl
theorem jwA:jan Try.prog 5 = true := by kernel_rfl
def joX:TFn := ⟨13,2,[.tmp 4],(.seq (.reg [(oQ 4 (.mv (iQ 0)))])
 (.seq (.seq (.reg [(mQ 6 0),(kQ 7 0 24 [(.t 6)]),(mQ 5 7)])
 (.seq (.reg [(mQ 8 5),(cQ 9 .neq 8 0)])
 (.cond (.t 9) (.seq (.reg [(mQ 10 5),(mQ 4 10)])
 .ret) .skip)))
 (.seq (.reg [(mQ 11 1),(kQ 12 1 25 [(.t 11)]),(mQ 4 12)])
 .ret)))⟩
def jwB:Nat→Ty := tyAt [.un,.un]
abbrev joY:List PSh := [.one (.sl (.pr tQ (.pr tQ (.pr tQ pQ)))),.one tQ]
abbrev joZ:List PSh := [.one tQ]
theorem jwC:cFn Try.prog 6 = some joX.erase := by kernel_rfl
theorem jwD:jan Try.prog 6 = true := by kernel_rfl
def jo0:TFn := ⟨6,2,[.tmp 2],(.seq (.reg [(oQ 2 (.mv (.c (.p (.sl 0 [] true)))))])
 (.seq (.reg [(oQ 3 (.bsl true 0 5 0 [] [])),(mQ 4 0),(oQ 5 (.app 1 5 40 (.t 3) (.t 4))),(mQ 2 5)])
 .ret))⟩
def jwE:Nat→Ty := tyAt [(.pr tQ (.pr tQ (.pr tQ pQ))),(.pr tQ (.pr tQ (.pr tQ pQ)))]
abbrev jkn:List PSh := [.one (.sl (.pr tQ (.pr tQ (.pr tQ pQ))))]
abbrev jko:Ty := (.pr tQ (.pr tQ (.pr tQ pQ)))
theorem jwF:cFn Try.prog 8 = some jo0.erase := by kernel_rfl
theorem jwG:jan Try.prog 8 = true := by kernel_rfl
def F_Z0:TFn := ⟨157,24,[.celln 4 9,.tmp 5],(.seq (.reg [(oQ 4 (.newz 0 [zQ,zQ,zQ,zQ,zQ,zQ,zQ,zQ,zQ])),(oQ 5 (.mv (iQ 0)))])
 (.seq (.seq (.reg [(mQ 31 0),(kQ 32 1 27 [(.t 31)]),(mQ 33 1),(kQ 34 2 28 [(.t 33)]),(oQ 35 (.bsl false 3 1 2 [zQ,zQ] [(0,1,(.t 32)),(1,1,(.t 34))])),(kQ 36 4 26 [(.t 35)]),(mQ 6 36)])
 (.seq (.reg [(mQ 37 6),(cQ 38 .neq 37 0)])
 (.cond (.t 38) (.seq (.reg [(oQ 39 (.build [zQ,zQ,zQ,zQ,zQ,zQ,zQ,zQ,zQ] [])),(mQ 40 6),(sQ 9 4 39),(mQ 5 40)])
 .ret) .skip)))
 (.seq (.reg [(mQ 41 1),(kQ 42 5 29 [(.t 41)]),(mQ 7 42)])
 (.seq (.reg [(mQ 44 0),(mQ 45 7),(kQ 46 6 30 [(.t 44),(.t 45)]),(mQ 43 46),(oQ 47 (.ext 0 (.t 43))),(oQ 48 (.ext 1 (.t 43))),(oQ 8 (.newz 7 [zQ,zQ,zQ,zQ,zQ,zQ,zQ,zQ,zQ,zQ,zQ,zQ,zQ,zQ,zQ,zQ])),(oQ 9 (.newz 8 [zQ,zQ,zQ,zQ])),(sQ 16 8 47),(sQ 4 9 48)])
 (.seq (.reg [(nQ 50 16 8),(kQ 51 9 31 [(.t 50)]),(kQ 52 10 32 [(.t 51)]),(mQ 49 52),(oQ 53 (.ext 0 (.t 49))),(oQ 54 (.ext 1 (.t 49))),(oQ 11 (.newz 11 [(.p (.int .u64 0)),(.p (.int .u64 0))])),(mQ 10 53),(sQ 2 11 54)])
 (.seq (.seq (.reg [(nQ 55 2 11),(oQ 56 (.build [(.p (.int .u64 0)),(.p (.int .u64 0))] [])),(oQ 57 (.eqa false 2 [(true,0),(true,1)] (.t 55) (.t 56)))])
 (.cond (.t 57) (.seq (.reg [(oQ 58 (.build [zQ,zQ,zQ,zQ,zQ,zQ,zQ,zQ,zQ] [])),(sQ 9 4 58),(oQ 5 (.mv (iQ 12)))])
 .ret) .skip))
 (.seq (.reg [(fQ 59 1 11),(lQ 60 59),(mQ 12 60)])
 (.seq (.reg [(mQ 61 12),(mQ 13 61)])
 (.seq (.reg [(oQ 14 (.newz 12 [(.p (.int .u64 0)),(.p (.int .u64 0)),(.p (.int .u64 0)),(.p (.int .u64 0)),(.p (.int .u64 0)),(.p (.int .u64 0)),(.p (.int .u64 0)),(.p (.int .u64 0))]))])
 (.seq (.seq (.reg [(mQ 62 7),(hQ 63 62),(oQ 64 (.mv (iQ 0)))])
 (.block 0 (.loop [.v 64 tQ,.v 13 (.int .u64),.c 12 (.pr (.int .u64) (.pr (.int .u64) (.pr (.int .u64) (.pr (.int .u64) (.pr (.int .u64) (.pr (.int .u64) (.pr (.int .u64) (.int .u64))))))))] [12,13,16] [13,16] (.seq (.reg [(bQ 65 .lss 64 63)])
 (.seq (.cond (.t 65) .skip (.exit 0))
 (.seq (.block 1 (.seq (.reg [(mQ 66 64),(mQ 15 66)])
 (.seq (.reg [(nQ 67 16 8),(oQ 16 (.newz 13 [zQ,zQ,zQ,zQ,zQ,zQ,zQ,zQ,zQ,zQ,zQ,zQ,zQ,zQ,zQ,zQ])),(sQ 16 16 67)])
 (.seq (.seq (.reg [(mQ 68 7),(hQ 69 68),(oQ 70 (.mv (iQ 0)))])
 (.block 2 (.loop [.v 70 tQ,.c 13 (.pr tQ (.pr tQ (.pr tQ (.pr tQ (.pr tQ (.pr tQ (.pr tQ (.pr tQ (.pr tQ (.pr tQ (.pr tQ (.pr tQ (.pr tQ (.pr tQ pQ))))))))))))))] [13] [] (.seq (.reg [(bQ 71 .lss 70 69)])
 (.seq (.cond (.t 71) .skip (.exit 2))
 (.seq (.block 3 (.seq (.reg [(mQ 72 70),(mQ 17 72)])
 (.regd [(mQ 73 17),(mQ 74 15),(mQ 75 17),(oQ 76 (.iaa 1 4 (.t 9) (.t 75))),(lQ 77 76),(oQ 78 (.iaa 4 4 (.t 16) (.t 73))),(oQ 79 (.iaa 1 4 (.t 78) (.t 74))),(sQ 1 79 77)] [] [])))
 (.reg [(cQ 80 .add 70 1),(mQ 70 80)])))))))
 (.seq (.reg [(mQ 81 15),(nQ 82 16 16),(kQ 83 14 31 [(.t 82)]),(oQ 84 (.iaa 2 4 (.t 14) (.t 81))),(sQ 2 84 83)])
 (.seq (.reg [(mQ 86 15),(oQ 87 (.iaa 2 4 (.t 14) (.t 86))),(nQ 88 2 87),(kQ 89 15 32 [(.t 88)]),(mQ 85 89),(oQ 90 (.ext 0 (.t 85))),(oQ 91 (.ext 1 (.t 85))),(oQ 19 (.newz 16 [(.p (.int .u64 0)),(.p (.int .u64 0))])),(mQ 18 90),(sQ 2 19 91)])
 (.seq (.regd [(fQ 93 0 19),(lQ 94 93),(mQ 95 12),(bQ 96 .rem 94 95),(fQ 97 1 19),(lQ 98 97),(mQ 99 12),(kQ 100 17 33 [(.t 96),(.t 98),(.t 99)]),(mQ 92 100),(oQ 101 (.ext 0 (.t 92))),(oQ 102 (.ext 1 (.t 92))),(mQ 20 101),(mQ 21 102)] [(1,5)] [])
 (.reg [(mQ 103 13),(mQ 104 21),(kQ 105 18 34 [(.t 103),(.t 104)]),(mQ 13 105)]))))))))
 (.reg [(cQ 106 .add 64 1),(mQ 64 106)])))))))
 (.seq (.reg [(nQ 108 2 11),(mQ 109 13),(kQ 110 19 35 [(.t 108),(.t 109)]),(mQ 107 110),(oQ 111 (.ext 0 (.t 107))),(oQ 112 (.ext 1 (.t 107))),(mQ 22 111),(mQ 23 112)])
 (.seq (.reg [(mQ 113 22),(oQ 114 (.conv .i64 (.t 113))),(oQ 115 (.build [zQ,zQ,zQ,zQ,zQ,zQ,zQ,zQ,zQ] [(0,1,(.t 114))])),(oQ 24 (.newz 20 [zQ,zQ,zQ,zQ,zQ,zQ,zQ,zQ,zQ])),(sQ 9 24 115)])
 (.seq (.seq (.reg [(mQ 116 7),(hQ 117 116),(oQ 118 (.mv (iQ 0)))])
 (.block 4 (.loop [.v 118 tQ,.v 23 .bool,.c 20 (.pr tQ (.pr tQ (.pr tQ (.pr tQ (.pr tQ (.pr tQ (.pr tQ pQ)))))))] [20,22] [22] (.seq (.reg [(bQ 119 .lss 118 117)])
 (.seq (.cond (.t 119) .skip (.exit 4))
 (.seq (.block 5 (.seq (.reg [(mQ 120 118),(jQ 121 1 116 118),(lQ 122 121),(mQ 25 120),(mQ 26 122)])
 (.seq (.reg [(mQ 124 25),(oQ 125 (.iaa 2 4 (.t 14) (.t 124))),(nQ 126 2 125),(kQ 127 21 32 [(.t 126)]),(mQ 123 127),(oQ 128 (.ext 0 (.t 123))),(oQ 129 (.ext 1 (.t 123))),(oQ 28 (.newz 22 [(.p (.int .u64 0)),(.p (.int .u64 0))])),(mQ 27 128),(sQ 2 28 129)])
 (.seq (.reg [(nQ 131 2 28),(mQ 132 13),(kQ 133 23 35 [(.t 131),(.t 132)]),(mQ 130 133),(oQ 134 (.ext 0 (.t 130))),(oQ 135 (.ext 1 (.t 130))),(mQ 29 134),(mQ 30 135)])
 (.seq (.reg [(mQ 136 26),(mQ 137 29),(oQ 138 (.conv .i64 (.t 137))),(mQ 139 23),(mQ 140 139),(vQ 141 140 true 30),(oQ 142 (.pick (.t 140) (.t 141) cF)),(fQ 143 1 24),(oQ 144 (.iaa 1 8 (.t 143) (.t 136))),(sQ 1 144 138),(mQ 23 142)])
 (.seq (.reg [(mQ 145 27)])
 (.cond (.t 145) (.reg [(mQ 146 26),(mQ 147 29),(oQ 148 (.conv .i64 (.t 147))),(oQ 149 (.uneg (.t 148))),(fQ 150 1 24),(oQ 151 (.iaa 1 8 (.t 150) (.t 146))),(sQ 1 151 149)]) .skip)))))))
 (.reg [(cQ 152 .add 118 1),(mQ 118 152)])))))))
 (.seq (.seq (.reg [(mQ 153 23),(oQ 154 (.unot (.t 153)))])
 (.cond (.t 154) (.seq (.reg [(oQ 155 (.build [zQ,zQ,zQ,zQ,zQ,zQ,zQ,zQ,zQ] [])),(sQ 9 4 155),(oQ 5 (.mv (iQ 8)))])
 .ret) .skip))
 (.seq (.reg [(nQ 156 9 24),(sQ 9 4 156),(oQ 5 (.mv (iQ 0)))])
 .ret)))))))))))))))⟩
def A_Z0:Nat→Ty := tyAt [.un,.un,.un,tQ,.un,.un,.un,.un,.un,.un,.un,.un,.un,.un,.un,.un,.un,.un,.un,.un,.un,.un,.un,.un]
abbrev P_Z0:List PSh := [.one (.sl (.pr tQ (.pr tQ (.pr tQ pQ)))),.one tQ]
abbrev R_Z0:List PSh := [.agg (.pr tQ (.pr tQ (.pr tQ (.pr tQ (.pr tQ (.pr tQ (.pr tQ pQ))))))),.one tQ]
theorem e_Z0:cFn Try.prog 7 = some F_Z0.erase := by kernel_rfl
theorem k_Z0:jan Try.prog 7 = true := by kernel_rfl
def F_Z7:TFn := ⟨83,12,[.tmp 6,.tmp 7],(.seq (.reg [(oQ 5 (.box 0 (.t 2))),(oQ 6 (.mv (iQ 0))),(oQ 7 (.mv (iQ 0)))])
 (.seq (.reg [(mQ 17 1),(mQ 8 17)])
 (.seq (.seq (.regd [(mQ 18 0),(kQ 19 1 27 [(.t 18)]),(mQ 20 8),(kQ 21 2 28 [(.t 20)]),(nQ 22 9 5),(kQ 23 3 36 [(.t 22)]),(oQ 24 (.bsl false 4 1 3 [zQ,zQ,zQ] [(0,1,(.t 19)),(1,1,(.t 21)),(2,1,(.t 23))])),(kQ 25 5 26 [(.t 24)]),(mQ 9 25)] [(1,4),(3,4)] [])
 (.seq (.reg [(mQ 26 9),(cQ 27 .neq 26 0)])
 (.cond (.t 27) (.seq (.reg [(mQ 28 9),(oQ 6 (.mv (iQ 0))),(mQ 7 28)])
 .ret) .skip)))
 (.seq (.reg [(fQ 29 0 5),(lQ 30 29),(oQ 31 (.conv .u64 (.t 30))),(mQ 10 31)])
 (.seq (.seq (.reg [(fQ 32 1 5),(nQ 33 8 32),(oQ 34 (.mv (iQ 0)))])
 (.block 0 (.loop [.v 34 tQ,.v 10 (.int .u64)] [] [] (.seq (.reg [(cQ 35 .lss 34 8)])
 (.seq (.cond (.t 35) .skip (.exit 0))
 (.seq (.block 1 (.seq (.reg [(mQ 36 34),(oQ 37 (.idx 1 8 false (.t 33) (.t 34))),(mQ 11 36),(mQ 12 37)])
 (.seq (.seq (.reg [(mQ 38 12),(cQ 39 .neq 38 0),(mQ 40 39),(vQ 41 40 true 8),(vQ 42 40 true 11),⟨some 43,some (some 40,true),(.call 6 37 [(.t 41),(.t 42)])⟩,(gQ 44 40 true (.unot (.t 43))),(oQ 45 (.pick (.t 40) (.t 44) cF))])
 (.cond (.t 45) (.seq (.reg [(mQ 46 11),(mQ 6 46),(oQ 7 (.mv (iQ 3)))])
 .ret) .skip))
 (.reg [(mQ 47 10),(mQ 48 12),(kQ 49 7 38 [(.t 48)]),(kQ 50 8 34 [(.t 47),(.t 49)]),(mQ 10 50)]))))
 (.reg [(cQ 51 .add 34 1),(mQ 34 51)])))))))
 (.seq (.seq (.reg [(mQ 52 10),(oQ 53 (.bin .neq (.t 52) (.c (.p (.int .u64 1)))))])
 (.cond (.t 53) (.seq (.reg [(oQ 6 (.mv (iQ 0))),(oQ 7 (.mv (iQ 3)))])
 .ret) .skip))
 (.seq (.seq (.reg [(mQ 54 8),(kQ 55 9 29 [(.t 54)]),(hQ 56 55),(oQ 57 (.mv (iQ 0)))])
 (.block 2 (.loop [.v 57 tQ] [] [] (.seq (.reg [(bQ 58 .lss 57 56)])
 (.seq (.cond (.t 58) .skip (.exit 2))
 (.seq (.block 3 (.seq (.reg [(jQ 59 1 55 57),(lQ 60 59),(mQ 14 60)])
 (.seq (.reg [(oQ 15 (.mv (iQ 0)))])
 (.seq (.seq (.reg [(mQ 61 0),(hQ 62 61),(oQ 63 (.mv (iQ 0)))])
 (.block 4 (.loop [.v 63 tQ,.v 15 tQ] [] [] (.seq (.reg [(bQ 64 .lss 63 62)])
 (.seq (.cond (.t 64) .skip (.exit 4))
 (.seq (.block 5 (.seq (.reg [(mQ 65 63),(mQ 16 65)])
 (.regd [(mQ 66 15),(mQ 67 0),(mQ 68 16),(kQ 69 10 39 [(.t 67),(.t 68)]),(mQ 70 14),(oQ 71 (.idx 1 8 false (.t 69) (.t 70))),(mQ 72 0),(mQ 73 16),(nQ 74 9 5),(kQ 75 11 40 [(.t 72),(.t 73),(iQ 0),(.t 74)]),(bQ 76 .mul 71 75),(bQ 77 .add 66 76),(mQ 15 77)] [(3,8)] [])))
 (.reg [(cQ 78 .add 63 1),(mQ 63 78)])))))))
 (.seq (.reg [(mQ 79 15),(cQ 80 .neq 79 0)])
 (.cond (.t 80) (.seq (.reg [(mQ 81 14),(mQ 6 81),(oQ 7 (.mv (iQ 19)))])
 .ret) .skip))))))
 (.reg [(cQ 82 .add 57 1),(mQ 57 82)])))))))
 (.seq (.reg [(oQ 6 (.mv (iQ 0))),(oQ 7 (.mv (iQ 0)))])
 .ret))))))))⟩
def A_Z7:Nat→Ty := tyAt [.un,.un,.un,.un,tQ,.un,.un,.un,.un,.un,.un,.un]
abbrev P_Z7:List PSh := [.one (.sl (.pr tQ (.pr tQ (.pr tQ pQ)))),.one tQ,.agg (.pr tQ (.pr tQ (.pr tQ (.pr tQ (.pr tQ (.pr tQ (.pr tQ pQ)))))))]
abbrev R_Z7:List PSh := [.one tQ,.one tQ]
theorem e_Z7:cFn Try.prog 9 = some F_Z7.erase := by kernel_rfl
theorem k_Z7:jan Try.prog 9 = true := by kernel_rfl
def jo1:TFn := ⟨18,3,[.tmp 2],(.seq (.reg [(oQ 1 (.box 0 (.t 0))),(oQ 2 (.mv (iQ 0)))])
 (.seq (.seq (.reg [(fQ 4 0 1),(lQ 5 4),(kQ 6 1 11 [(.t 5),(iQ 1),(iQ 1000000000)]),(oQ 7 (.unot (.t 6)))])
 (.cond (.t 7) (.seq (.reg [(oQ 2 (.mv (iQ 2)))])
 .ret) .skip))
 (.seq (.seq (.reg [(oQ 3 (.mv (iQ 0)))])
 (.block 0 (.loop [.v 3 tQ] [] [] (.seq (.seq (.reg [(mQ 8 3),(cQ 9 .lss 8 8)])
 (.cond (.t 9) .skip (.exit 0)))
 (.seq (.block 1 (.seq (.reg [(mQ 12 3),(fQ 13 1 1),(oQ 14 (.iaa 1 8 (.t 13) (.t 12))),(lQ 15 14),(kQ 16 2 11 [(.t 15),(iQ (-1000000000)),(iQ 1000000000)]),(oQ 17 (.unot (.t 16)))])
 (.cond (.t 17) (.seq (.reg [(oQ 2 (.mv (iQ 2)))])
 .ret) .skip)))
 (.reg [(mQ 10 3),(cQ 11 .add 10 1),(mQ 3 11)]))))))
 (.seq (.reg [(oQ 2 (.mv (iQ 0)))])
 .ret))))⟩
def jwH:Nat→Ty := tyAt [.un,.un,.un]
abbrev jo2:List PSh := [.agg (.pr tQ (.pr tQ (.pr tQ (.pr tQ (.pr tQ (.pr tQ (.pr tQ pQ)))))))]
abbrev jo3:List PSh := [.one tQ]
theorem jwI:cFn Try.prog 10 = some jo1.erase := by kernel_rfl
theorem jwJ:jan Try.prog 10 = true := by kernel_rfl
def F_Z5:TFn := ⟨15,0,[.tmp 6],(.seq (.reg [(oQ 6 (.mv cF))])
 (.seq (.reg [(mQ 7 1),(mQ 8 0),(bQ 9 .leq 7 8),(mQ 10 9),(vQ 11 10 true 0),(vQ 12 10 true 2),(gQ 13 10 true (.bin .leq (.t 11) (.t 12))),(oQ 14 (.pick (.t 10) (.t 13) cF)),(mQ 6 14)])
 .ret))⟩
def A_Z5:Nat→Ty := tyAt []
abbrev P_Z5:List PSh := [.one tQ,.one tQ,.one tQ]
abbrev R_Z5:List PSh := [.one .bool]
theorem e_Z5:cFn Try.prog 11 = some F_Z5.erase := by kernel_rfl
theorem k_Z5:jan Try.prog 11 = true := by kernel_rfl
def F_Zi:TFn := ⟨51,3,[.celln 4 8],(.seq (.reg [(oQ 4 (.newz 0 [zQ,zQ,zQ,zQ,zQ,zQ,zQ,zQ]))])
 (.seq (.reg [(mQ 7 0),(mQ 8 1),(jQ 9 5 7 8),(nQ 10 5 9),(oQ 5 (.newz 1 [zQ,zQ,zQ,zQ,zQ])),(sQ 5 5 10)])
 (.seq (.reg [(fQ 11 1 5),(lQ 12 11),(fQ 13 2 5),(lQ 14 13),(fQ 15 3 5),(lQ 16 15),(fQ 17 1 5),(lQ 18 17),(fQ 19 1 5),(lQ 20 19),(bQ 21 .mul 18 20),(fQ 22 1 5),(lQ 23 22),(fQ 24 2 5),(lQ 25 24),(bQ 26 .mul 23 25),(oQ 27 (.build [zQ,zQ,zQ,zQ,zQ,zQ,zQ,zQ] [(0,1,(iQ 1)),(1,1,(.t 12)),(2,1,(.t 14)),(3,1,(.t 16)),(4,1,(.t 21)),(5,1,(.t 26)),(6,1,(iQ 0)),(7,1,(iQ 0))])),(oQ 6 (.newz 2 [zQ,zQ,zQ,zQ,zQ,zQ,zQ,zQ])),(sQ 8 6 27)])
 (.seq (.seq (.reg [(mQ 28 1),(cQ 29 .gtr 28 0)])
 (.cond (.t 29) (.regd [(fQ 30 1 5),(lQ 31 30),(mQ 32 0),(mQ 33 1),(cQ 34 .sub 33 1),(jQ 35 5 32 34),(fQ 36 1 35),(lQ 37 36),(bQ 38 .sub 31 37),(fQ 39 2 5),(lQ 40 39),(mQ 41 0),(mQ 42 1),(cQ 43 .sub 42 1),(jQ 44 5 41 43),(fQ 45 2 44),(lQ 46 45),(bQ 47 .sub 40 46),(oQ 48 (.iaa 1 8 (.t 6) (iQ 6))),(sQ 1 48 38),(oQ 49 (.iaa 1 8 (.t 6) (iQ 7))),(sQ 1 49 47)] [(1,7),(1,10),(7,10),(1,16),(7,16),(10,16),(10,19),(16,19)] []) .skip))
 (.seq (.reg [(nQ 50 8 6),(sQ 8 4 50)])
 .ret)))))⟩
def A_Zi:Nat→Ty := tyAt [.un,.un,.un]
abbrev P_Zi:List PSh := [.one (.sl (.pr tQ (.pr tQ (.pr tQ pQ)))),.one tQ]
abbrev R_Zi:List PSh := [.agg (.pr tQ (.pr tQ (.pr tQ (.pr tQ (.pr tQ (.pr tQ pQ))))))]
theorem e_Zi:cFn Try.prog 12 = some F_Zi.erase := by kernel_rfl
theorem k_Zi:jan Try.prog 12 = true := by kernel_rfl
def F_Zb:TFn := ⟨50,10,[.celln 4 2],(.seq (.reg [(oQ 3 (.box 0 (.t 1))),(oQ 4 (.newz 1 [zQ,(.p (.sl 0 [] true))]))])
 (.seq (.reg [(kQ 10 2 42 [(iQ 0)]),(oQ 5 (.newz 3 [zQ,(.p (.sl 0 [] true))])),(sQ 2 5 10)])
 (.seq (.seq (.reg [(oQ 6 (.mv (iQ 0)))])
 (.block 0 (.loop [.v 6 tQ,.c 3 (.pr tQ (.sl tQ))] [3,5] [5] (.seq (.seq (.reg [(mQ 11 6),(mQ 12 0),(hQ 13 12),(bQ 14 .lss 11 13)])
 (.cond (.t 14) .skip (.exit 0)))
 (.seq (.block 1 (.seq (.reg [(mQ 17 0),(mQ 18 6),(kQ 19 4 12 [(.t 17),(.t 18)]),(oQ 7 (.newz 5 [zQ,zQ,zQ,zQ,zQ,zQ,zQ,zQ])),(sQ 8 7 19)])
 (.seq (.regd [(fQ 20 0 3),(lQ 21 20),(mQ 22 0),(mQ 23 6),(jQ 24 5 22 23),(fQ 25 4 24),(lQ 26 25),(bQ 27 .mul 21 26),(mQ 8 27)] [(1,6)] [])
 (.seq (.seq (.reg [(oQ 9 (.mv (iQ 0)))])
 (.block 2 (.loop [.v 9 tQ,.v 8 tQ] [] [] (.seq (.seq (.reg [(mQ 28 9),(cQ 29 .lss 28 8)])
 (.cond (.t 29) .skip (.exit 2)))
 (.seq (.block 3 (.regd [(mQ 32 8),(mQ 33 9),(fQ 34 1 3),(oQ 35 (.iaa 1 8 (.t 34) (.t 33))),(lQ 36 35),(mQ 37 9),(oQ 38 (.iaa 1 8 (.t 7) (.t 37))),(lQ 39 38),(bQ 40 .mul 36 39),(bQ 41 .sub 32 40),(mQ 8 41)] [(4,7)] []))
 (.reg [(mQ 30 9),(cQ 31 .add 30 1),(mQ 9 31)]))))))
 (.regd [(nQ 42 2 5),(mQ 43 8),(kQ 44 6 42 [(.t 43)]),(mQ 45 8),(kQ 46 7 42 [(.t 45)]),(kQ 47 8 44 [(.t 44),(.t 46)]),(kQ 48 9 43 [(.t 42),(.t 47)]),(sQ 2 5 48)] [(0,2),(0,4),(0,5)] [])))))
 (.reg [(mQ 15 6),(cQ 16 .add 15 1),(mQ 6 16)]))))))
 (.seq (.reg [(nQ 49 2 5),(sQ 2 4 49)])
 .ret))))⟩
def A_Zb:Nat→Ty := tyAt [.un,.un,.un,.un,.un,.un,.un,.un,.un,.un]
abbrev P_Zb:List PSh := [.one (.sl (.pr tQ (.pr tQ (.pr tQ pQ)))),.agg (.pr tQ (.pr tQ (.pr tQ (.pr tQ (.pr tQ (.pr tQ (.pr tQ pQ)))))))]
abbrev R_Zb:List PSh := [.agg (.pr tQ (.sl tQ))]
theorem e_Zb:cFn Try.prog 14 = some F_Zb.erase := by kernel_rfl
theorem k_Zb:jan Try.prog 14 = true := by kernel_rfl
def jo4:TFn := ⟨9,3,[.tmp 4],(.seq (.reg [(oQ 2 (.box 0 (.t 0))),(oQ 3 (.box 1 (.t 1))),(oQ 4 (.mv (iQ 0)))])
 (.seq (.reg [(nQ 5 2 2),(nQ 6 2 3),(kQ 7 2 41 [(.t 5),(.t 6)]),(oQ 8 (.prt 0 none (.t 7))),(mQ 4 8)])
 .ret))⟩
def jwK:Nat→Ty := tyAt [.un,.un,.un]
abbrev jo5:List PSh := [.agg (.pr tQ (.sl tQ)),.agg (.pr tQ (.sl tQ))]
abbrev jo6:List PSh := [.one tQ]
theorem jwL:cFn Try.prog 13 = some jo4.erase := by kernel_rfl
theorem jwM:jan Try.prog 13 = true := by kernel_rfl
def jo7:TFn := ⟨11,2,[.tmp 4,.tmp 5],(.seq (.reg [(oQ 3 (.box 0 (.t 1))),(oQ 4 (.mv (.c (.p (.sl 0 [] true))))),(oQ 5 (.mv (iQ 0)))])
 (.seq (.reg [(mQ 6 0),(nQ 7 9 3),(kQ 8 1 45 [(.t 6),(.t 7),(iQ 0)]),(oQ 9 (.ext 0 (.t 8))),(oQ 10 (.ext 1 (.t 8))),(mQ 4 9),(mQ 5 10)])
 .ret))⟩
def jwN:Nat→Ty := tyAt [.un,.un]
abbrev jo8:List PSh := [.one (.sl (.pr tQ (.pr tQ (.pr tQ pQ)))),.agg (.pr tQ (.pr tQ (.pr tQ (.pr tQ (.pr tQ (.pr tQ (.pr tQ pQ)))))))]
abbrev jo9:List PSh := [.one (.sl pQ),.one tQ]
theorem jwO:cFn Try.prog 15 = some jo7.erase := by kernel_rfl
theorem jwP:jan Try.prog 15 = true := by kernel_rfl
def jkp:TFn := ⟨5,1,[.tmp 0],(.seq (.reg [(oQ 0 (.mv (.c (.p (.sl 0 [] true)))))])
 (.seq (.reg [(oQ 1 (.build [zQ,zQ,zQ,zQ,zQ] [(1,1,(iQ 1)),(4,1,(iQ 10))])),(oQ 2 (.build [zQ,zQ,zQ,zQ,zQ] [(0,1,(iQ 1)),(1,1,(iQ (-1))),(4,1,(iQ 4))])),(oQ 3 (.build [zQ,zQ,zQ,zQ,zQ] [(0,1,(iQ 2)),(2,1,(iQ 1)),(4,1,(iQ 9))])),(oQ 4 (.bsl false 0 5 3 [zQ,zQ,zQ,zQ,zQ,zQ,zQ,zQ,zQ,zQ,zQ,zQ,zQ,zQ,zQ] [(0,5,(.t 1)),(5,5,(.t 2)),(10,5,(.t 3))])),(mQ 0 4)])
 .ret))⟩
theorem jwQ:cFn Try.prog 16 = some jkp.erase := by kernel_rfl
def jkq:TFn := ⟨3,1,[.celln 0 9],(.seq (.reg [(oQ 0 (.newz 0 [zQ,zQ,zQ,zQ,zQ,zQ,zQ,zQ,zQ]))])
 (.seq (.reg [(oQ 1 (.build [zQ,zQ,zQ,zQ,zQ,zQ,zQ,zQ] [(0,1,(iQ 23)),(1,1,(iQ 9))])),(oQ 2 (.build [zQ,zQ,zQ,zQ,zQ,zQ,zQ,zQ,zQ] [(0,1,(iQ 3)),(1,8,(.t 1))])),(sQ 9 0 2)])
 .ret))⟩
theorem jwR:cFn Try.prog 18 = some jkq.erase := by kernel_rfl
def jkr:TFn := ⟨11,2,[.tmp 4,.tmp 5],(.seq (.reg [(oQ 3 (.box 0 (.t 1))),(oQ 4 (.mv (.c (.p (.sl 0 [] true))))),(oQ 5 (.mv (iQ 0)))])
 (.seq (.reg [(mQ 6 0),(nQ 7 9 3),(kQ 8 1 45 [(.t 6),(.t 7),(iQ 1)]),(oQ 9 (.ext 0 (.t 8))),(oQ 10 (.ext 1 (.t 8))),(mQ 4 9),(mQ 5 10)])
 .ret))⟩
theorem jwS:cFn Try.prog 17 = some jkr.erase := by kernel_rfl
def jks:TFn := ⟨6,2,[.celln 0 2],(.seq (.reg [(oQ 0 (.newz 0 [zQ,(.p (.sl 0 [] true))]))])
 (.seq (.reg [(oQ 1 (.build [zQ,zQ] [(1,1,(iQ 100))])),(oQ 2 (.build [zQ,zQ] [(0,1,(iQ 4)),(1,1,(iQ 110))])),(oQ 3 (.build [zQ,zQ] [(0,1,(iQ 10)),(1,1,(iQ 92))])),(oQ 4 (.bsl false 1 2 3 [zQ,zQ,zQ,zQ,zQ,zQ] [(0,2,(.t 1)),(2,2,(.t 2)),(4,2,(.t 3))])),(oQ 5 (.build [zQ,(.p (.sl 0 [] true))] [(0,1,(iQ 100)),(1,1,(.t 4))])),(sQ 2 0 5)])
 .ret))⟩
theorem jwT:cFn Try.prog 20 = some jks.erase := by kernel_rfl
def jkt:TFn := ⟨29,8,[.celln 4 2,.tmp 5],(.seq (.reg [(oQ 2 (.box 0 (.t 0))),(oQ 4 (.newz 1 [zQ,zQ])),(oQ 5 (.mv (iQ 0)))])
 (.seq (.reg [(nQ 9 2 2),(kQ 10 2 46 [(.t 9)]),(mQ 8 10),(oQ 11 (.ext 0 (.t 8))),(oQ 12 (.ext 1 (.t 8))),(oQ 6 (.newz 3 [zQ,(.p (.sl 0 [] true))])),(sQ 2 6 11),(mQ 7 12)])
 (.seq (.seq (.reg [(mQ 13 7),(cQ 14 .eql 13 0)])
 (.cond (.t 14) (.reg [(nQ 15 2 6),(mQ 16 1),(kQ 17 4 48 [(.t 15),(.t 16)]),(kQ 18 5 47 [(.t 17),(iQ 2)]),(mQ 7 18)]) .skip))
 (.seq (.seq (.reg [(mQ 19 7),(cQ 20 .neq 19 0)])
 (.cond (.t 20) (.seq (.reg [(oQ 21 (.build [zQ,zQ] [])),(mQ 22 7),(sQ 2 4 21),(mQ 5 22)])
 .ret) .skip))
 (.seq (.reg [(nQ 23 2 6),(mQ 24 1),(kQ 25 6 50 [(.t 23),(.t 24)]),(oQ 26 (.ext 0 (.t 25))),(oQ 27 (.ext 1 (.t 25))),(kQ 28 7 49 [(.t 26),(.t 27)]),(sQ 2 4 28),(oQ 5 (.mv (iQ 0)))])
 .ret)))))⟩
theorem jwU:cFn Try.prog 19 = some jkt.erase := by kernel_rfl
def jku:TFn := ⟨24,8,[.tmp 4,.tmp 5],(.seq (.reg [(oQ 2 (.box 0 (.t 0))),(oQ 3 (.box 1 (.t 1))),(oQ 4 (.mv (.c (.p (.sl 0 [] true))))),(oQ 5 (.mv (iQ 0)))])
 (.seq (.reg [(nQ 9 2 2),(kQ 10 2 46 [(.t 9)]),(mQ 8 10),(oQ 11 (.ext 0 (.t 8))),(oQ 12 (.ext 1 (.t 8))),(oQ 6 (.newz 3 [zQ,(.p (.sl 0 [] true))])),(sQ 2 6 11),(mQ 7 12)])
 (.seq (.seq (.reg [(mQ 13 7),(nQ 14 2 3),(kQ 15 4 51 [(.t 14)]),(oQ 16 (.bsl false 5 1 2 [zQ,zQ] [(0,1,(.t 13)),(1,1,(.t 15))])),(kQ 17 6 26 [(.t 16)]),(mQ 7 17)])
 (.seq (.reg [(mQ 18 7),(cQ 19 .neq 18 0)])
 (.cond (.t 19) (.seq (.reg [(mQ 20 7),(oQ 4 (.mv (.c (.p (.sl 0 [] true))))),(mQ 5 20)])
 .ret) .skip)))
 (.seq (.reg [(nQ 21 2 6),(nQ 22 2 3),(kQ 23 7 52 [(.t 21),(.t 22)]),(mQ 4 23),(oQ 5 (.mv (iQ 0)))])
 .ret))))⟩
theorem jwV:cFn Try.prog 21 = some jku.erase := by kernel_rfl
def jkv:TFn := ⟨64,7,[.tmp 4,.tmp 5],(.seq (.reg [(oQ 4 (.mv (iQ 0))),(oQ 5 (.mv (iQ 0)))])
 (.seq (.seq (.reg [(mQ 13 0),(kQ 14 0 53 [(.t 13)]),(mQ 15 1),(kQ 16 1 53 [(.t 15)]),(mQ 17 0),(hQ 18 17),(mQ 19 1),(hQ 20 19),(bQ 21 .eql 18 20),(kQ 22 2 47 [(.t 21),(iQ 10)]),(oQ 23 (.bsl false 3 1 3 [zQ,zQ,zQ] [(0,1,(.t 14)),(1,1,(.t 16)),(2,1,(.t 22))])),(kQ 24 4 26 [(.t 23)]),(mQ 6 24)])
 (.seq (.reg [(mQ 25 6),(cQ 26 .neq 25 0)])
 (.cond (.t 26) (.seq (.reg [(mQ 27 6),(oQ 4 (.mv (iQ 0))),(mQ 5 27)])
 .ret) .skip)))
 (.seq (.reg [(oQ 7 (.mv (iQ 0)))])
 (.seq (.reg [(mQ 29 0),(mQ 30 1),(mQ 31 7),(kQ 32 5 54 [(.t 29),(.t 30),(.t 31)]),(mQ 28 32),(oQ 33 (.ext 0 (.t 28))),(oQ 34 (.ext 1 (.t 28))),(mQ 8 33),(mQ 9 34)])
 (.seq (.seq (.reg [(oQ 10 (.mv (iQ 1)))])
 (.block 0 (.loop [.v 10 tQ,.v 8 tQ,.v 9 tQ,.v 7 tQ] [] [] (.seq (.seq (.reg [(mQ 35 10),(cQ 36 .leq 35 5),(mQ 37 36),(vQ 38 37 true 10),(gQ 39 37 true (.bin .mul (iQ 2) (.t 38))),(vQ 40 37 true 0),(gQ 41 37 true (.len false (.t 40))),(gQ 42 37 true (.bin .lss (.t 39) (.t 41))),(oQ 43 (.pick (.t 37) (.t 42) cF))])
 (.cond (.t 43) .skip (.exit 0)))
 (.seq (.block 1 (.seq (.reg [(mQ 47 0),(mQ 48 1),(mQ 49 10),(kQ 50 6 54 [(.t 47),(.t 48),(.t 49)]),(mQ 46 50),(oQ 51 (.ext 0 (.t 46))),(oQ 52 (.ext 1 (.t 46))),(mQ 11 51),(mQ 12 52)])
 (.seq (.reg [(mQ 53 11),(mQ 54 9),(bQ 55 .mul 53 54),(mQ 56 8),(mQ 57 12),(bQ 58 .mul 56 57),(bQ 59 .lss 55 58)])
 (.cond (.t 59) (.reg [(mQ 60 10),(mQ 61 11),(mQ 62 12),(mQ 7 60),(mQ 8 61),(mQ 9 62)]) .skip))))
 (.reg [(mQ 44 10),(cQ 45 .add 44 1),(mQ 10 45)]))))))
 (.seq (.reg [(mQ 63 7),(mQ 4 63),(oQ 5 (.mv (iQ 0)))])
 .ret))))))⟩
theorem jwW:cFn Try.prog 22 = some jkv.erase := by kernel_rfl
def jkw:TFn := ⟨26,0,[.tmp 4],(.seq (.reg [(oQ 4 (.mv cF))])
 (.seq (.seq (.reg [(mQ 6 0),(hQ 7 6),(mQ 8 1),(hQ 9 8),(bQ 10 .neq 7 9)])
 (.cond (.t 10) (.seq (.reg [(oQ 4 (.mv cF))])
 .ret) .skip))
 (.seq (.seq (.reg [(oQ 5 (.mv (iQ 0)))])
 (.block 0 (.loop [.v 5 tQ] [] [] (.seq (.seq (.reg [(mQ 11 5),(mQ 12 0),(hQ 13 12),(bQ 14 .lss 11 13)])
 (.cond (.t 14) .skip (.exit 0)))
 (.seq (.block 1 (.seq (.regd [(mQ 17 0),(mQ 18 5),(jQ 19 2 17 18),(nQ 20 2 19),(mQ 21 1),(mQ 22 5),(jQ 23 2 21 22),(nQ 24 2 23),(oQ 25 (.eqa true 2 [(true,0),(true,1)] (.t 20) (.t 24)))] [(3,7)] [])
 (.cond (.t 25) (.seq (.reg [(oQ 4 (.mv cF))])
 .ret) .skip)))
 (.reg [(mQ 15 5),(cQ 16 .add 15 1),(mQ 5 16)]))))))
 (.seq (.reg [(oQ 4 (.mv cT))])
 .ret))))⟩
theorem jwX:cFn Try.prog 23 = some jkw.erase := by kernel_rfl
def jpa:TFn := ⟨11,1,[.tmp 2],(.seq (.reg [(oQ 2 (.mv (iQ 0)))])
 (.seq (.reg [(mQ 6 0),(kQ 7 0 55 [(.t 6)]),(mQ 5 7),(oQ 8 (.ext 0 (.t 5))),(oQ 9 (.ext 1 (.t 5))),(mQ 3 8),(mQ 4 9)])
 (.seq (.reg [(mQ 10 4),(mQ 2 10)])
 .ret)))⟩
def jwY:Nat→Ty := tyAt [.un]
abbrev jpb:List PSh := [.one (.sl (.pr tQ (.pr tQ (.pr tQ pQ))))]
abbrev jpc:List PSh := [.one tQ]
theorem jwZ:cFn Try.prog 24 = some jpa.erase := by kernel_rfl
theorem jw0:jan Try.prog 24 = true := by kernel_rfl
def jpd:TFn := ⟨10,2,[.tmp 2],(.seq (.reg [(oQ 2 (.mv (iQ 0)))])
 (.seq (.seq (.reg [(mQ 3 0),(kQ 4 0 11 [(.t 3),(iQ 1),(iQ 255)]),(oQ 5 (.unot (.t 4)))])
 (.cond (.t 5) (.seq (.reg [(oQ 2 (.mv (iQ 2)))])
 .ret) .skip))
 (.seq (.seq (.reg [(mQ 6 0),(kQ 7 1 56 [(.t 6)]),(hQ 8 7),(cQ 9 .gtr 8 4)])
 (.cond (.t 9) (.seq (.reg [(oQ 2 (.mv (iQ 8)))])
 .ret) .skip))
 (.seq (.reg [(oQ 2 (.mv (iQ 0)))])
 .ret))))⟩
def jw1:Nat→Ty := tyAt [.un,.un]
abbrev jpe:List PSh := [.one tQ]
abbrev jpf:List PSh := [.one tQ]
theorem jw2:cFn Try.prog 25 = some jpd.erase := by kernel_rfl
theorem jw3:jan Try.prog 25 = true := by kernel_rfl
def jh1:TFn := ⟨11,1,[.tmp 2],(.seq (.reg [(oQ 2 (.mv (iQ 0)))])
 (.seq (.reg [(mQ 6 0),(kQ 7 0 57 [(.t 6)]),(mQ 5 7),(oQ 8 (.ext 0 (.t 5))),(oQ 9 (.ext 1 (.t 5))),(mQ 3 8),(mQ 4 9)])
 (.seq (.reg [(mQ 10 4),(mQ 2 10)])
 .ret)))⟩
def jw4:Nat→Ty := tyAt [.un]
abbrev jpg:List PSh := [.one (.sl (.pr tQ (.pr tQ (.pr tQ pQ))))]
abbrev jph:List PSh := [.one tQ]
theorem jpi:cFn Try.prog 27 = some jh1.erase := by kernel_rfl
theorem jw5:jan Try.prog 27 = true := by kernel_rfl
def F_Zw:TFn := ⟨11,3,[.tmp 2],(.seq (.reg [(oQ 2 (.mv (iQ 0)))])
 (.seq (.seq (.reg [(mQ 3 0),(kQ 4 0 58 [(.t 3),(iQ 1),(iQ 255)]),(oQ 5 (.unot (.t 4)))])
 (.cond (.t 5) (.seq (.reg [(oQ 2 (.mv (iQ 2)))])
 .ret) .skip))
 (.seq (.reg [(mQ 6 0),(kQ 7 1 29 [(.t 6)]),(hQ 8 7),(cQ 9 .leq 8 4),(kQ 10 2 47 [(.t 9),(iQ 8)]),(mQ 2 10)])
 .ret)))⟩
def A_Zw:Nat→Ty := tyAt [.un,.un,.un]
abbrev P_Zw:List PSh := [.one tQ]
abbrev R_Zw:List PSh := [.one tQ]
theorem e_Zw:cFn Try.prog 28 = some F_Zw.erase := by kernel_rfl
theorem k_Zw:jan Try.prog 28 = true := by kernel_rfl
def F_Zd:TFn := ⟨15,0,[.tmp 2],(.seq (.reg [(oQ 2 (.mv (iQ 0)))])
 (.seq (.seq (.reg [(mQ 5 0),(hQ 6 5),(oQ 7 (.mv (iQ 0)))])
 (.block 0 (.loop [.v 7 tQ] [] [] (.seq (.reg [(bQ 8 .lss 7 6)])
 (.seq (.cond (.t 8) .skip (.exit 0))
 (.seq (.block 1 (.seq (.reg [(jQ 9 1 5 7),(lQ 10 9),(mQ 4 10)])
 (.seq (.reg [(mQ 11 4),(cQ 12 .neq 11 0)])
 (.cond (.t 12) (.seq (.reg [(mQ 13 4),(mQ 2 13)])
 .ret) .skip))))
 (.reg [(cQ 14 .add 7 1),(mQ 7 14)])))))))
 (.seq (.reg [(oQ 2 (.mv (iQ 0)))])
 .ret)))⟩
def A_Zd:Nat→Ty := tyAt []
abbrev P_Zd:List PSh := [.one (.sl tQ)]
abbrev R_Zd:List PSh := [.one tQ]
theorem e_Zd:cFn Try.prog 26 = some F_Zd.erase := by kernel_rfl
theorem k_Zd:jan Try.prog 26 = true := by kernel_rfl
def F_Ze:TFn := ⟨17,3,[.tmp 2],(.seq (.reg [(oQ 2 (.mv (.c (.p (.sl 0 [] true)))))])
 (.seq (.reg [(oQ 3 (.mv (.c (.p (.sl 0 [] true)))))])
 (.seq (.seq (.reg [(oQ 5 (.mv (iQ 0)))])
 (.block 0 (.loop [.v 5 tQ,.o 3 2 tQ] [2] [2] (.seq (.reg [(cQ 6 .lss 5 8)])
 (.seq (.cond (.t 6) .skip (.exit 0))
 (.seq (.block 1 (.seq (.reg [(mQ 7 5),(mQ 4 7)])
 (.seq (.reg [(mQ 8 0),(mQ 9 4),(kQ 10 0 37 [(.t 8),(.t 9)])])
 (.cond (.t 10) (.reg [(mQ 11 3),(mQ 12 4),(oQ 13 (.bsl false 1 1 1 [zQ] [(0,1,(.t 12))])),(oQ 14 (.app 2 1 8 (.t 11) (.t 13))),(mQ 3 14)]) .skip))))
 (.reg [(cQ 15 .add 5 1),(mQ 5 15)])))))))
 (.seq (.reg [(mQ 16 3),(mQ 2 16)])
 .ret))))⟩
def A_Ze:Nat→Ty := tyAt [.un,tQ,tQ]
abbrev P_Ze:List PSh := [.one tQ]
abbrev R_Ze:List PSh := [.one (.sl tQ)]
theorem e_Ze:cFn Try.prog 29 = some F_Ze.erase := by kernel_rfl
theorem k_Ze:jan Try.prog 29 = true := by kernel_rfl
def F_Z3:TFn := ⟨81,4,[.celln 4 16,.celln 5 4],(.seq (.reg [(oQ 4 (.newz 0 [zQ,zQ,zQ,zQ,zQ,zQ,zQ,zQ,zQ,zQ,zQ,zQ,zQ,zQ,zQ,zQ])),(oQ 5 (.newz 1 [zQ,zQ,zQ,zQ]))])
 (.seq (.seq (.reg [(oQ 13 (.mv (iQ 0)))])
 (.block 0 (.loop [.v 13 tQ,.c 0 (.pr tQ (.pr tQ (.pr tQ (.pr tQ (.pr tQ (.pr tQ (.pr tQ (.pr tQ (.pr tQ (.pr tQ (.pr tQ (.pr tQ (.pr tQ (.pr tQ pQ))))))))))))))] [0] [] (.seq (.reg [(cQ 14 .lss 13 4)])
 (.seq (.cond (.t 14) .skip (.exit 0))
 (.seq (.block 1 (.seq (.reg [(mQ 15 13),(mQ 6 15)])
 (.reg [(mQ 16 6),(mQ 17 6),(oQ 18 (.iaa 4 4 (.t 4) (.t 16))),(oQ 19 (.iaa 1 4 (.t 18) (.t 17))),(uQ (.st 1 (.t 19) (iQ 1)))])))
 (.reg [(cQ 20 .add 13 1),(mQ 13 20)])))))))
 (.seq (.seq (.reg [(mQ 21 1),(hQ 22 21),(oQ 23 (.mv (iQ 0)))])
 (.block 2 (.loop [.v 23 tQ,.c 0 (.pr tQ (.pr tQ (.pr tQ (.pr tQ (.pr tQ (.pr tQ (.pr tQ (.pr tQ (.pr tQ (.pr tQ (.pr tQ (.pr tQ (.pr tQ (.pr tQ pQ)))))))))))))),.c 1 (.pr tQ (.pr tQ pQ))] [0,1,3] [3] (.seq (.reg [(bQ 24 .lss 23 22)])
 (.seq (.cond (.t 24) .skip (.exit 2))
 (.seq (.block 3 (.seq (.reg [(mQ 25 23),(jQ 26 1 21 23),(lQ 27 26),(mQ 7 25),(mQ 8 27)])
 (.seq (.reg [(mQ 28 7),(mQ 29 7),(oQ 30 (.iaa 4 4 (.t 4) (.t 28))),(oQ 31 (.iaa 1 4 (.t 30) (.t 29))),(uQ (.st 1 (.t 31) (iQ 0)))])
 (.seq (.reg [(mQ 32 0),(hQ 33 32),(oQ 34 (.mv (iQ 0)))])
 (.block 4 (.loop [.v 34 tQ,.c 0 (.pr tQ (.pr tQ (.pr tQ (.pr tQ (.pr tQ (.pr tQ (.pr tQ (.pr tQ (.pr tQ (.pr tQ (.pr tQ (.pr tQ (.pr tQ (.pr tQ pQ)))))))))))))),.c 1 (.pr tQ (.pr tQ pQ))] [0,1,3] [3] (.seq (.reg [(bQ 35 .lss 34 33)])
 (.seq (.cond (.t 35) .skip (.exit 4))
 (.seq (.block 5 (.seq (.reg [(mQ 36 34),(mQ 9 36)])
 (.seq (.reg [(mQ 37 0),(mQ 38 9),(kQ 39 2 39 [(.t 37),(.t 38)]),(oQ 10 (.newz 3 [zQ,zQ,zQ,zQ,zQ,zQ,zQ,zQ])),(sQ 8 10 39)])
 (.seq (.regd [(mQ 40 7),(oQ 41 (.iaa 1 4 (.t 5) (.t 40))),(lQ 42 41),(mQ 43 8),(oQ 44 (.iaa 1 8 (.t 10) (.t 43))),(lQ 45 44),(mQ 46 0),(mQ 47 9),(jQ 48 5 46 47),(fQ 49 4 48),(lQ 50 49),(bQ 51 .mul 45 50),(bQ 52 .add 42 51),(oQ 53 (.iaa 1 4 (.t 5) (.t 40))),(sQ 1 53 52)] [(2,5),(2,10),(5,10)] [])
 (.seq (.reg [(mQ 54 1),(hQ 55 54),(oQ 56 (.mv (iQ 0)))])
 (.block 6 (.loop [.v 56 tQ,.c 0 (.pr tQ (.pr tQ (.pr tQ (.pr tQ (.pr tQ (.pr tQ (.pr tQ (.pr tQ (.pr tQ (.pr tQ (.pr tQ (.pr tQ (.pr tQ (.pr tQ pQ))))))))))))))] [0] [] (.seq (.reg [(bQ 57 .lss 56 55)])
 (.seq (.cond (.t 57) .skip (.exit 6))
 (.seq (.block 7 (.seq (.reg [(mQ 58 56),(jQ 59 1 54 56),(lQ 60 59),(mQ 11 58),(mQ 12 60)])
 (.regd [(mQ 61 7),(mQ 62 11),(oQ 63 (.iaa 4 4 (.t 4) (.t 61))),(oQ 64 (.iaa 1 4 (.t 63) (.t 62))),(lQ 65 64),(mQ 66 8),(oQ 67 (.iaa 1 8 (.t 10) (.t 66))),(lQ 68 67),(mQ 69 12),(oQ 70 (.iaa 1 8 (.t 10) (.t 69))),(lQ 71 70),(bQ 72 .mul 68 71),(bQ 73 .add 65 72),(oQ 74 (.iaa 4 4 (.t 4) (.t 61))),(oQ 75 (.iaa 1 4 (.t 74) (.t 62))),(sQ 1 75 73)] [(4,7),(4,10),(7,10)] [])))
 (.reg [(cQ 76 .add 56 1),(mQ 56 76)])))))))))))
 (.reg [(cQ 77 .add 34 1),(mQ 34 77)]))))))))))
 (.reg [(cQ 78 .add 23 1),(mQ 23 78)])))))))
 (.seq (.regd [(nQ 79 16 4),(nQ 80 4 5),(sQ 16 4 79),(sQ 4 5 80)] [(0,1),(1,2)] [])
 .ret))))⟩
def A_Z3:Nat→Ty := tyAt [.un,.un,.un,.un]
abbrev P_Z3:List PSh := [.one (.sl (.pr tQ (.pr tQ (.pr tQ pQ)))),.one (.sl tQ)]
abbrev R_Z3:List PSh := [.agg (.pr (.pr tQ (.pr tQ pQ)) (.pr (.pr tQ (.pr tQ pQ)) (.pr (.pr tQ (.pr tQ pQ)) (.pr tQ (.pr tQ pQ))))),.agg (.pr tQ (.pr tQ pQ))]
theorem e_Z3:cFn Try.prog 30 = some F_Z3.erase := by kernel_rfl
theorem k_Z3:jan Try.prog 30 = true := by kernel_rfl
def F_Z9:TFn := ⟨40,6,[.celln 2 2],(.seq (.reg [(oQ 1 (.box 0 (.t 0))),(oQ 2 (.newz 1 [(.p (.int .u64 0)),(.p (.int .u64 0))]))])
 (.seq (.reg [(oQ 3 (.newz 2 [(.p (.int .u64 0)),(.p (.int .u64 0))]))])
 (.seq (.block 0 (.rng (.c (.p (.fn 59 []))) [8,9] [8,9,4,5,10,11,12,13,14,15,16,17,18,19,20,6,21,22,23,24,25,26,27,28,29,30,31,7,32,33,34,35,36,37,38] [.c 2 (.pr (.int .u64) (.int .u64))] [2,3] [3] (.seq (.reg [(oQ 4 (.newz 3 [zQ,zQ,zQ,zQ])),(sQ 4 4 8)])
 (.reg [(mQ 5 9)]))
 (.block 1 (.seq (.regd [(oQ 10 (.iaa 1 4 (.t 4) (iQ 0))),(lQ 11 10),(oQ 12 (.iaa 4 4 (.t 1) (iQ 0))),(oQ 13 (.iaa 1 4 (.t 12) (.t 11))),(lQ 14 13),(oQ 15 (.iaa 1 4 (.t 4) (iQ 1))),(lQ 16 15),(oQ 17 (.iaa 4 4 (.t 1) (iQ 1))),(oQ 18 (.iaa 1 4 (.t 17) (.t 16))),(lQ 19 18),(bQ 20 .mul 14 19),(mQ 6 20)] [(1,6),(4,6),(1,9),(4,9)] [])
 (.seq (.regd [(oQ 21 (.iaa 1 4 (.t 4) (iQ 2))),(lQ 22 21),(oQ 23 (.iaa 4 4 (.t 1) (iQ 2))),(oQ 24 (.iaa 1 4 (.t 23) (.t 22))),(lQ 25 24),(oQ 26 (.iaa 1 4 (.t 4) (iQ 3))),(lQ 27 26),(oQ 28 (.iaa 4 4 (.t 1) (iQ 3))),(oQ 29 (.iaa 1 4 (.t 28) (.t 27))),(lQ 30 29),(bQ 31 .mul 25 30),(mQ 7 31)] [(1,6),(4,6),(1,9),(4,9)] [])
 (.regd [(nQ 32 2 3),(mQ 33 5),(mQ 34 6),(bQ 35 .mul 33 34),(mQ 36 7),(kQ 37 4 61 [(.t 35),(.t 36)]),(kQ 38 5 60 [(.t 32),(.t 37)]),(sQ 2 3 38)] [(0,5)] []))))))
 (.seq (.reg [(nQ 39 2 3),(sQ 2 2 39)])
 .ret))))⟩
def A_Z9:Nat→Ty := tyAt [.un,.un,.un,.un,.un,.un]
abbrev P_Z9:List PSh := [.agg (.pr (.pr tQ (.pr tQ pQ)) (.pr (.pr tQ (.pr tQ pQ)) (.pr (.pr tQ (.pr tQ pQ)) (.pr tQ (.pr tQ pQ)))))]
abbrev R_Z9:List PSh := [.agg (.pr (.int .u64) (.int .u64))]
theorem e_Z9:cFn Try.prog 31 = some F_Z9.erase := by kernel_rfl
theorem k_Z9:jan Try.prog 31 = true := by kernel_rfl
def F_Zy:TFn := ⟨11,3,[.tmp 2,.celln 3 2],(.seq (.reg [(oQ 1 (.box 0 (.t 0))),(oQ 2 (.mv cF)),(oQ 3 (.newz 1 [(.p (.int .u64 0)),(.p (.int .u64 0))]))])
 (.seq (.seq (.reg [(fQ 4 0 1),(lQ 5 4),(oQ 6 (.sh false (.t 5) (.c (.p (.int .u64 63))))),(oQ 7 (.bin .eql (.t 6) (.c (.p (.int .u64 1)))))])
 (.cond (.t 7) (.seq (.reg [(nQ 8 2 1),(kQ 9 2 62 [(.t 8)]),(oQ 2 (.mv cT)),(sQ 2 3 9)])
 .ret) .skip))
 (.seq (.regd [(nQ 10 2 1),(oQ 2 (.mv cF)),(sQ 2 3 10)] [] [])
 .ret)))⟩
def A_Zy:Nat→Ty := tyAt [.un,.un,.un]
abbrev P_Zy:List PSh := [.agg (.pr (.int .u64) (.int .u64))]
abbrev R_Zy:List PSh := [.one .bool,.agg (.pr (.int .u64) (.int .u64))]
theorem e_Zy:cFn Try.prog 32 = some F_Zy.erase := by kernel_rfl
theorem k_Zy:jan Try.prog 32 = true := by kernel_rfl
def F_Z2:TFn := ⟨135,1,[.tmp 6,.tmp 7],(.seq (.reg [(oQ 6 (.mv (.c (.p (.int .u64 0))))),(oQ 7 (.mv (.c (.p (.int .u64 0)))))])
 (.seq (.seq (.reg [(mQ 19 2),(oQ 20 (.bin .eql (.t 19) (.c (.p (.int .u64 0)))))])
 (.cond (.t 20) (.reg [(oQ 21 (.ld1 (.c .und))),(uQ (.ld1 cF))]) .skip))
 (.seq (.seq (.reg [(mQ 22 2),(mQ 23 0),(bQ 24 .leq 22 23)])
 (.cond (.t 24) (.reg [(oQ 25 (.ld1 (.c .und))),(uQ (.ld1 cF))]) .skip))
 (.seq (.seq (.reg [(mQ 26 0),(oQ 27 (.bin .eql (.t 26) (.c (.p (.int .u64 0)))))])
 (.cond (.t 27) (.seq (.regd [(mQ 28 1),(mQ 29 2),(bQ 30 .quo 28 29),(mQ 31 1),(mQ 32 2),(bQ 33 .rem 31 32),(mQ 6 30),(mQ 7 33)] [] [])
 .ret) .skip))
 (.seq (.reg [(mQ 34 2),(kQ 35 0 63 [(.t 34)]),(oQ 36 (.conv .u64 (.t 35))),(mQ 8 36)])
 (.seq (.reg [(mQ 37 2),(mQ 38 8),(oQ 39 (.sh true (.t 37) (.t 38))),(mQ 2 39)])
 (.seq (.reg [(mQ 40 2),(oQ 41 (.sh false (.t 40) (.c (.p (.int .u64 32))))),(mQ 9 41)])
 (.seq (.reg [(mQ 42 2),(oQ 43 (.bin .and (.t 42) (.c (.p (.int .u64 4294967295))))),(mQ 10 43)])
 (.seq (.reg [(mQ 44 0),(mQ 45 8),(oQ 46 (.sh true (.t 44) (.t 45))),(mQ 47 1),(mQ 48 8),(oQ 49 (.bin .sub (.c (.p (.int .u64 64))) (.t 48))),(oQ 50 (.sh false (.t 47) (.t 49))),(bQ 51 .or 46 50),(mQ 11 51)])
 (.seq (.reg [(mQ 52 1),(mQ 53 8),(oQ 54 (.sh true (.t 52) (.t 53))),(mQ 12 54)])
 (.seq (.reg [(mQ 55 12),(oQ 56 (.sh false (.t 55) (.c (.p (.int .u64 32))))),(mQ 13 56)])
 (.seq (.reg [(mQ 57 12),(oQ 58 (.bin .and (.t 57) (.c (.p (.int .u64 4294967295))))),(mQ 14 58)])
 (.seq (.reg [(mQ 59 11),(mQ 60 9),(bQ 61 .quo 59 60),(mQ 15 61)])
 (.seq (.reg [(mQ 62 11),(mQ 63 15),(mQ 64 9),(bQ 65 .mul 63 64),(bQ 66 .sub 62 65),(mQ 16 66)])
 (.seq (.block 0 (.loop [.v 16 (.int .u64),.v 15 (.int .u64)] [] [] (.seq (.seq (.reg [(mQ 67 15),(oQ 68 (.bin .geq (.t 67) (.c (.p (.int .u64 4294967296))))),(mQ 69 68),(vQ 70 69 false 15),(vQ 71 69 false 10),(gQ 72 69 false (.bin .mul (.t 70) (.t 71))),(vQ 73 69 false 16),(gQ 74 69 false (.bin .mul (.c (.p (.int .u64 4294967296))) (.t 73))),(vQ 75 69 false 13),(gQ 76 69 false (.bin .add (.t 74) (.t 75))),(gQ 77 69 false (.bin .gtr (.t 72) (.t 76))),(oQ 78 (.pick (.t 69) cT (.t 77)))])
 (.cond (.t 78) .skip (.exit 0)))
 (.block 1 (.seq (.reg [(mQ 79 15),(oQ 80 (.bin .sub (.t 79) (.c (.p (.int .u64 1))))),(mQ 15 80)])
 (.seq (.reg [(mQ 81 16),(mQ 82 9),(bQ 83 .add 81 82),(mQ 16 83)])
 (.seq (.reg [(mQ 84 16),(oQ 85 (.bin .geq (.t 84) (.c (.p (.int .u64 4294967296)))))])
 (.cond (.t 85) (.exit 0) .skip))))))))
 (.seq (.reg [(mQ 86 11),(oQ 87 (.bin .mul (.t 86) (.c (.p (.int .u64 4294967296))))),(mQ 88 13),(bQ 89 .add 87 88),(mQ 90 15),(mQ 91 2),(bQ 92 .mul 90 91),(bQ 93 .sub 89 92),(mQ 17 93)])
 (.seq (.reg [(mQ 94 17),(mQ 95 9),(bQ 96 .quo 94 95),(mQ 18 96)])
 (.seq (.reg [(mQ 97 17),(mQ 98 18),(mQ 99 9),(bQ 100 .mul 98 99),(bQ 101 .sub 97 100),(mQ 16 101)])
 (.seq (.block 2 (.loop [.v 16 (.int .u64),.v 18 (.int .u64)] [] [] (.seq (.seq (.reg [(mQ 102 18),(oQ 103 (.bin .geq (.t 102) (.c (.p (.int .u64 4294967296))))),(mQ 104 103),(vQ 105 104 false 18),(vQ 106 104 false 10),(gQ 107 104 false (.bin .mul (.t 105) (.t 106))),(vQ 108 104 false 16),(gQ 109 104 false (.bin .mul (.c (.p (.int .u64 4294967296))) (.t 108))),(vQ 110 104 false 14),(gQ 111 104 false (.bin .add (.t 109) (.t 110))),(gQ 112 104 false (.bin .gtr (.t 107) (.t 111))),(oQ 113 (.pick (.t 104) cT (.t 112)))])
 (.cond (.t 113) .skip (.exit 2)))
 (.block 3 (.seq (.reg [(mQ 114 18),(oQ 115 (.bin .sub (.t 114) (.c (.p (.int .u64 1))))),(mQ 18 115)])
 (.seq (.reg [(mQ 116 16),(mQ 117 9),(bQ 118 .add 116 117),(mQ 16 118)])
 (.seq (.reg [(mQ 119 16),(oQ 120 (.bin .geq (.t 119) (.c (.p (.int .u64 4294967296)))))])
 (.cond (.t 120) (.exit 2) .skip))))))))
 (.seq (.reg [(mQ 121 15),(oQ 122 (.bin .mul (.t 121) (.c (.p (.int .u64 4294967296))))),(mQ 123 18),(bQ 124 .add 122 123),(mQ 125 17),(oQ 126 (.bin .mul (.t 125) (.c (.p (.int .u64 4294967296))))),(mQ 127 14),(bQ 128 .add 126 127),(mQ 129 18),(mQ 130 2),(bQ 131 .mul 129 130),(bQ 132 .sub 128 131),(mQ 133 8),(oQ 134 (.sh false (.t 132) (.t 133))),(mQ 6 124),(mQ 7 134)])
 .ret))))))))))))))))))))⟩
def A_Z2:Nat→Ty := tyAt [.un]
abbrev P_Z2:List PSh := [.one (.int .u64),.one (.int .u64),.one (.int .u64)]
abbrev R_Z2:List PSh := [.one (.int .u64),.one (.int .u64)]
theorem e_Z2:cFn Try.prog 33 = some F_Z2.erase := by kernel_rfl
theorem k_Z2:jan Try.prog 33 = true := by kernel_rfl
def F_Zj:TFn := ⟨12,0,[.tmp 4],(.seq (.reg [(oQ 4 (.mv (.c (.p (.int .u64 0)))))])
 (.seq (.block 0 (.loop [.v 1 (.int .u64),.v 0 (.int .u64)] [] [] (.seq (.seq (.reg [(mQ 5 1),(oQ 6 (.bin .neq (.t 5) (.c (.p (.int .u64 0)))))])
 (.cond (.t 6) .skip (.exit 0)))
 (.block 1 (.regd [(mQ 7 1),(mQ 8 0),(mQ 9 1),(bQ 10 .rem 8 9),(mQ 0 7),(mQ 1 10)] [] [])))))
 (.seq (.reg [(mQ 11 0),(mQ 4 11)])
 .ret)))⟩
def A_Zj:Nat→Ty := tyAt []
abbrev P_Zj:List PSh := [.one (.int .u64),.one (.int .u64)]
abbrev R_Zj:List PSh := [.one (.int .u64)]
theorem e_Zj:cFn Try.prog 34 = some F_Zj.erase := by kernel_rfl
theorem k_Zj:jan Try.prog 34 = true := by kernel_rfl
def F_Zz:TFn := ⟨24,2,[.tmp 4,.tmp 5],(.seq (.reg [(oQ 2 (.box 0 (.t 0))),(oQ 4 (.mv (.c (.p (.int .u64 0))))),(oQ 5 (.mv cF))])
 (.seq (.seq (.reg [(fQ 8 0 2),(lQ 9 8),(mQ 10 1),(bQ 11 .geq 9 10)])
 (.cond (.t 11) (.seq (.reg [(oQ 4 (.mv (.c (.p (.int .u64 0))))),(oQ 5 (.mv cF))])
 .ret) .skip))
 (.seq (.reg [(fQ 13 0 2),(lQ 14 13),(fQ 15 1 2),(lQ 16 15),(mQ 17 1),(kQ 18 1 33 [(.t 14),(.t 16),(.t 17)]),(mQ 12 18),(oQ 19 (.ext 0 (.t 12))),(oQ 20 (.ext 1 (.t 12))),(mQ 6 19),(mQ 7 20)])
 (.seq (.reg [(mQ 21 6),(mQ 22 6),(oQ 23 (.bin .leq (.t 22) (.c (.p (.int .u64 1000000000))))),(mQ 4 21),(mQ 5 23)])
 .ret))))⟩
def A_Zz:Nat→Ty := tyAt [.un,.un]
abbrev P_Zz:List PSh := [.agg (.pr (.int .u64) (.int .u64)),.one (.int .u64)]
abbrev R_Zz:List PSh := [.one (.int .u64),.one .bool]
theorem e_Zz:cFn Try.prog 35 = some F_Zz.erase := by kernel_rfl
theorem k_Zz:jan Try.prog 35 = true := by kernel_rfl
def F_Zv:TFn := ⟨15,4,[.tmp 2],(.seq (.reg [(oQ 1 (.box 0 (.t 0))),(oQ 2 (.mv (iQ 0)))])
 (.seq (.reg [(fQ 4 1 1),(oQ 5 (.sla 1 8 (.t 4) none none)),(kQ 6 1 64 [(.t 5),(.c (.clo 65 []))]),(mQ 3 6)])
 (.seq (.reg [(fQ 7 0 1),(lQ 8 7),(kQ 9 2 58 [(.t 8),(iQ 1),(iQ 1000000000)]),(mQ 10 9),(vQ 11 10 true 3),(gQ 12 10 true (.unot (.t 11))),(oQ 13 (.pick (.t 10) (.t 12) cF)),(kQ 14 3 47 [(.t 13),(iQ 2)]),(mQ 2 14)])
 .ret)))⟩
def A_Zv:Nat→Ty := tyAt [.un,.un,.un,.un]
abbrev P_Zv:List PSh := [.agg (.pr tQ (.pr tQ (.pr tQ (.pr tQ (.pr tQ (.pr tQ (.pr tQ pQ)))))))]
abbrev R_Zv:List PSh := [.one tQ]
theorem e_Zv:cFn Try.prog 36 = some F_Zv.erase := by kernel_rfl
theorem k_Zv:jan Try.prog 36 = true := by kernel_rfl
def jh2:TFn := ⟨10,0,[.tmp 4],(.seq (.reg [(oQ 4 (.mv cF))])
 (.seq (.reg [(mQ 5 0),(mQ 6 1),(oQ 7 (.sh false (.t 5) (.t 6))),(cQ 8 .and 7 1),(cQ 9 .eql 8 1),(mQ 4 9)])
 .ret))⟩
def jw6:Nat→Ty := tyAt []
abbrev jpj:List PSh := [.one tQ,.one tQ]
abbrev jpk:List PSh := [.one .bool]
theorem jpl:cFn Try.prog 37 = some jh2.erase := by kernel_rfl
theorem jw7:jan Try.prog 37 = true := by kernel_rfl
def F_Zs:TFn := ⟨8,0,[.tmp 2],(.seq (.reg [(oQ 2 (.mv (.c (.p (.int .u64 0)))))])
 (.seq (.reg [(mQ 3 0),(mQ 4 0),(oQ 5 (.uneg (.t 4))),(oQ 6 (.mm true (.t 3) (.t 5))),(oQ 7 (.conv .u64 (.t 6))),(mQ 2 7)])
 .ret))⟩
def A_Zs:Nat→Ty := tyAt []
abbrev P_Zs:List PSh := [.one tQ]
abbrev R_Zs:List PSh := [.one (.int .u64)]
theorem e_Zs:cFn Try.prog 38 = some F_Zs.erase := by kernel_rfl
theorem k_Zs:jan Try.prog 38 = true := by kernel_rfl
def F_Zk:TFn := ⟨44,3,[.celln 4 8],(.seq (.reg [(oQ 4 (.newz 0 [zQ,zQ,zQ,zQ,zQ,zQ,zQ,zQ]))])
 (.seq (.reg [(mQ 7 0),(mQ 8 1),(jQ 9 5 7 8),(nQ 10 5 9),(oQ 5 (.newz 1 [zQ,zQ,zQ,zQ,zQ])),(sQ 5 5 10)])
 (.seq (.reg [(mQ 11 0),(mQ 12 1),(cQ 13 .sub 12 1),(oQ 14 (.mm true (iQ 0) (.t 13))),(jQ 15 5 11 14),(nQ 16 5 15),(oQ 6 (.newz 2 [zQ,zQ,zQ,zQ,zQ])),(sQ 5 6 16)])
 (.seq (.reg [(fQ 17 1 5),(lQ 18 17),(fQ 19 2 5),(lQ 20 19),(fQ 21 3 5),(lQ 22 21),(fQ 23 1 5),(lQ 24 23),(fQ 25 1 5),(lQ 26 25),(bQ 27 .mul 24 26),(fQ 28 1 5),(lQ 29 28),(fQ 30 2 5),(lQ 31 30),(bQ 32 .mul 29 31),(fQ 33 1 5),(lQ 34 33),(fQ 35 1 6),(lQ 36 35),(bQ 37 .sub 34 36),(fQ 38 2 5),(lQ 39 38),(fQ 40 2 6),(lQ 41 40),(bQ 42 .sub 39 41),(oQ 43 (.build [zQ,zQ,zQ,zQ,zQ,zQ,zQ,zQ] [(0,1,(iQ 1)),(1,1,(.t 18)),(2,1,(.t 20)),(3,1,(.t 22)),(4,1,(.t 27)),(5,1,(.t 32)),(6,1,(.t 37)),(7,1,(.t 42))])),(sQ 8 4 43)])
 .ret))))⟩
def A_Zk:Nat→Ty := tyAt [.un,.un,.un]
abbrev P_Zk:List PSh := [.one (.sl (.pr tQ (.pr tQ (.pr tQ pQ)))),.one tQ]
abbrev R_Zk:List PSh := [.agg (.pr tQ (.pr tQ (.pr tQ (.pr tQ (.pr tQ (.pr tQ pQ))))))]
theorem e_Zk:cFn Try.prog 39 = some F_Zk.erase := by kernel_rfl
theorem k_Zk:jan Try.prog 39 = true := by kernel_rfl
def F_Zg:TFn := ⟨39,3,[.tmp 8],(.seq (.reg [(oQ 7 (.box 0 (.t 3))),(oQ 8 (.mv (iQ 0)))])
 (.seq (.regd [(fQ 12 0 7),(lQ 13 12),(mQ 14 0),(mQ 15 1),(jQ 16 5 14 15),(fQ 17 4 16),(lQ 18 17),(bQ 19 .mul 13 18),(mQ 9 19)] [(1,6)] [])
 (.seq (.reg [(mQ 20 0),(mQ 21 1),(kQ 22 1 39 [(.t 20),(.t 21)]),(oQ 10 (.newz 2 [zQ,zQ,zQ,zQ,zQ,zQ,zQ,zQ])),(sQ 8 10 22)])
 (.seq (.seq (.reg [(mQ 23 2),(mQ 11 23)])
 (.block 0 (.loop [.v 11 tQ,.v 9 tQ] [] [] (.seq (.seq (.reg [(mQ 24 11),(cQ 25 .lss 24 8)])
 (.cond (.t 25) .skip (.exit 0)))
 (.seq (.block 1 (.regd [(mQ 28 9),(mQ 29 11),(fQ 30 1 7),(oQ 31 (.iaa 1 8 (.t 30) (.t 29))),(lQ 32 31),(mQ 33 11),(oQ 34 (.iaa 1 8 (.t 10) (.t 33))),(lQ 35 34),(bQ 36 .mul 32 35),(bQ 37 .sub 28 36),(mQ 9 37)] [(4,7)] []))
 (.reg [(mQ 26 11),(cQ 27 .add 26 1),(mQ 11 27)]))))))
 (.seq (.reg [(mQ 38 9),(mQ 8 38)])
 .ret)))))⟩
def A_Zg:Nat→Ty := tyAt [.un,.un,.un]
abbrev P_Zg:List PSh := [.one (.sl (.pr tQ (.pr tQ (.pr tQ pQ)))),.one tQ,.one tQ,.agg (.pr tQ (.pr tQ (.pr tQ (.pr tQ (.pr tQ (.pr tQ (.pr tQ pQ)))))))]
abbrev R_Zg:List PSh := [.one tQ]
theorem e_Zg:cFn Try.prog 40 = some F_Zg.erase := by kernel_rfl
theorem k_Zg:jan Try.prog 40 = true := by kernel_rfl
def F_Zn:TFn := ⟨20,5,[.celln 2 2],(.seq (.reg [(oQ 2 (.newz 0 [zQ,(.p (.sl 0 [] true))]))])
 (.seq (.reg [(oQ 3 (.mv (iQ 1)))])
 (.seq (.seq (.reg [(mQ 5 0),(cQ 6 .lss 5 0)])
 (.cond (.t 6) (.reg [(oQ 3 (.mv (iQ (-1))))]) .skip))
 (.seq (.reg [(oQ 4 (.mv (.c (.p (.sl 0 [] true)))))])
 (.seq (.block 0 (.loop [.v 0 tQ,.o 4 3 tQ] [3] [3] (.seq (.seq (.reg [(mQ 7 0),(cQ 8 .neq 7 0)])
 (.cond (.t 8) .skip (.exit 0)))
 (.block 1 (.seq (.reg [(mQ 9 4),(mQ 10 0),(cQ 11 .rem 10 1000000000),(kQ 12 1 68 [(.t 11)]),(oQ 13 (.bsl false 2 1 1 [zQ] [(0,1,(.t 12))])),(oQ 14 (.app 3 1 8 (.t 9) (.t 13))),(mQ 4 14)])
 (.reg [(mQ 15 0),(cQ 16 .quo 15 1000000000),(mQ 0 16)]))))))
 (.seq (.reg [(mQ 17 3),(mQ 18 4),(kQ 19 4 69 [(.t 17),(.t 18)]),(sQ 2 2 19)])
 .ret))))))⟩
def A_Zn:Nat→Ty := tyAt [.un,.un,tQ,tQ,.un]
abbrev P_Zn:List PSh := [.one tQ]
abbrev R_Zn:List PSh := [.agg (.pr tQ (.sl tQ))]
theorem e_Zn:cFn Try.prog 42 = some F_Zn.erase := by kernel_rfl
theorem k_Zn:jan Try.prog 42 = true := by kernel_rfl
def F_Za:TFn := ⟨86,5,[.celln 4 2],(.seq (.reg [(oQ 2 (.box 0 (.t 0))),(oQ 3 (.box 1 (.t 1))),(oQ 4 (.newz 2 [zQ,(.p (.sl 0 [] true))]))])
 (.seq (.reg [(fQ 10 1 2),(lQ 11 10),(hQ 12 11),(fQ 13 1 3),(lQ 14 13),(hQ 15 14),(bQ 16 .add 12 15),(cQ 17 .add 16 1),(oQ 18 (.mk 3 1 8 [zQ] (.t 17))),(mQ 5 18)])
 (.seq (.seq (.reg [(oQ 6 (.mv (iQ 0)))])
 (.block 0 (.loop [.v 6 tQ,.d 3 tQ] [3] [] (.seq (.seq (.reg [(mQ 19 6),(fQ 20 1 2),(lQ 21 20),(hQ 22 21),(bQ 23 .lss 19 22)])
 (.cond (.t 23) .skip (.exit 0)))
 (.seq (.block 1 (.seq (.reg [(oQ 7 (.mv (iQ 0)))])
 (.seq (.seq (.reg [(oQ 8 (.mv (iQ 0)))])
 (.block 2 (.loop [.v 8 tQ,.v 7 tQ,.d 3 tQ] [3] [] (.seq (.seq (.reg [(mQ 26 8),(fQ 27 1 3),(lQ 28 27),(hQ 29 28),(bQ 30 .lss 26 29)])
 (.cond (.t 30) .skip (.exit 2)))
 (.seq (.block 3 (.seq (.regd [(mQ 33 5),(mQ 34 6),(mQ 35 8),(bQ 36 .add 34 35),(jQ 37 1 33 36),(lQ 38 37),(fQ 39 1 2),(lQ 40 39),(mQ 41 6),(jQ 42 1 40 41),(lQ 43 42),(fQ 44 1 3),(lQ 45 44),(mQ 46 8),(jQ 47 1 45 46),(lQ 48 47),(bQ 49 .mul 43 48),(bQ 50 .add 38 49),(mQ 51 7),(bQ 52 .add 50 51),(mQ 9 52)] [(5,7),(5,10),(5,12),(7,12),(10,12),(5,15),(7,15),(10,15)] [])
 (.reg [(mQ 53 5),(mQ 54 6),(mQ 55 8),(bQ 56 .add 54 55),(mQ 57 9),(cQ 58 .rem 57 1000000000),(mQ 59 9),(cQ 60 .quo 59 1000000000),(jQ 61 1 53 56),(sQ 1 61 58),(mQ 7 60)])))
 (.reg [(mQ 31 8),(cQ 32 .add 31 1),(mQ 8 32)]))))))
 (.regd [(mQ 62 5),(mQ 63 6),(fQ 64 1 3),(lQ 65 64),(hQ 66 65),(bQ 67 .add 63 66),(mQ 68 5),(mQ 69 6),(fQ 70 1 3),(lQ 71 70),(hQ 72 71),(bQ 73 .add 69 72),(jQ 74 1 68 73),(lQ 75 74),(mQ 76 7),(bQ 77 .add 75 76),(jQ 78 1 62 67),(sQ 1 78 77)] [(3,9),(3,13)] []))))
 (.reg [(mQ 24 6),(cQ 25 .add 24 1),(mQ 6 25)]))))))
 (.seq (.reg [(fQ 79 0 2),(lQ 80 79),(fQ 81 0 3),(lQ 82 81),(bQ 83 .mul 80 82),(mQ 84 5),(kQ 85 4 69 [(.t 83),(.t 84)]),(sQ 2 4 85)])
 .ret))))⟩
def A_Za:Nat→Ty := tyAt [.un,.un,.un,tQ,.un]
abbrev P_Za:List PSh := [.agg (.pr tQ (.sl tQ)),.agg (.pr tQ (.sl tQ))]
abbrev R_Za:List PSh := [.agg (.pr tQ (.sl tQ))]
theorem e_Za:cFn Try.prog 44 = some F_Za.erase := by kernel_rfl
theorem k_Za:jan Try.prog 44 = true := by kernel_rfl
def jpm:TFn := ⟨53,10,[.celln 4 2],(.seq (.reg [(oQ 2 (.box 0 (.t 0))),(oQ 3 (.box 1 (.t 1))),(oQ 4 (.newz 2 [zQ,(.p (.sl 0 [] true))]))])
 (.seq (.seq (.reg [(fQ 6 0 2),(lQ 7 6),(cQ 8 .eql 7 0)])
 (.cond (.t 8) (.seq (.reg [(nQ 9 2 3),(sQ 2 4 9)])
 .ret) .skip))
 (.seq (.seq (.reg [(fQ 10 0 3),(lQ 11 10),(cQ 12 .eql 11 0)])
 (.cond (.t 12) (.seq (.reg [(nQ 13 2 2),(sQ 2 4 13)])
 .ret) .skip))
 (.seq (.seq (.reg [(fQ 14 0 2),(lQ 15 14),(fQ 16 0 3),(lQ 17 16),(bQ 18 .eql 15 17)])
 (.cond (.t 18) (.seq (.regd [(fQ 19 0 2),(lQ 20 19),(fQ 21 1 2),(lQ 22 21),(fQ 23 1 3),(lQ 24 23),(kQ 25 3 70 [(.t 22),(.t 24)]),(kQ 26 4 69 [(.t 20),(.t 25)]),(sQ 2 4 26)] [(1,3),(1,5),(3,5),(1,6)] [])
 .ret) .skip))
 (.seq (.reg [(fQ 27 1 2),(lQ 28 27),(fQ 29 1 3),(lQ 30 29),(kQ 31 5 71 [(.t 28),(.t 30)]),(mQ 5 31)])
 (.seq (.seq (.reg [(mQ 32 5),(cQ 33 .eql 32 0)])
 (.cond (.t 33) (.seq (.reg [(oQ 34 (.build [zQ,(.p (.sl 0 [] true))] [])),(sQ 2 4 34)])
 .ret) .skip))
 (.seq (.seq (.reg [(mQ 35 5),(cQ 36 .gtr 35 0)])
 (.cond (.t 36) (.seq (.regd [(fQ 37 0 2),(lQ 38 37),(fQ 39 1 2),(lQ 40 39),(fQ 41 1 3),(lQ 42 41),(kQ 43 6 72 [(.t 40),(.t 42)]),(kQ 44 7 69 [(.t 38),(.t 43)]),(sQ 2 4 44)] [(1,3),(1,5),(3,5),(1,6)] [])
 .ret) .skip))
 (.seq (.regd [(fQ 45 0 3),(lQ 46 45),(fQ 47 1 3),(lQ 48 47),(fQ 49 1 2),(lQ 50 49),(kQ 51 8 72 [(.t 48),(.t 50)]),(kQ 52 9 69 [(.t 46),(.t 51)]),(sQ 2 4 52)] [(1,3),(1,5),(3,5),(1,6)] [])
 .ret))))))))⟩
def jw8:Nat→Ty := tyAt [.un,.un,.un,.un,.un,.un,.un,.un,.un,.un]
abbrev jpn:List PSh := [.agg (.pr tQ (.sl tQ)),.agg (.pr tQ (.sl tQ))]
abbrev jpo:List PSh := [.agg (.pr tQ (.sl tQ))]
theorem jw9:cFn Try.prog 43 = some jpm.erase := by kernel_rfl
theorem jxa:jan Try.prog 43 = true := by kernel_rfl
def jpp:TFn := ⟨9,5,[.celln 4 2],(.seq (.reg [(oQ 2 (.box 0 (.t 0))),(oQ 3 (.box 1 (.t 1))),(oQ 4 (.newz 2 [zQ,(.p (.sl 0 [] true))]))])
 (.seq (.regd [(nQ 5 2 2),(nQ 6 2 3),(kQ 7 3 67 [(.t 6)]),(kQ 8 4 43 [(.t 5),(.t 7)]),(sQ 2 4 8)] [(0,1),(0,2)] [])
 .ret))⟩
def jxb:Nat→Ty := tyAt [.un,.un,.un,.un,.un]
abbrev jpq:List PSh := [.agg (.pr tQ (.sl tQ)),.agg (.pr tQ (.sl tQ))]
abbrev jpr:List PSh := [.agg (.pr tQ (.sl tQ))]
theorem jxc:cFn Try.prog 41 = some jpp.erase := by kernel_rfl
theorem jxd:jan Try.prog 41 = true := by kernel_rfl
def F_Zh:TFn := ⟨38,9,[.tmp 6,.tmp 7],(.seq (.reg [(oQ 4 (.box 0 (.t 1))),(oQ 6 (.mv (.c (.p (.sl 0 [] true))))),(oQ 7 (.mv (iQ 0)))])
 (.seq (.seq (.regd [(mQ 11 0),(kQ 12 1 27 [(.t 11)]),(nQ 13 9 4),(kQ 14 2 36 [(.t 13)]),(oQ 15 (.bsl false 3 1 2 [zQ,zQ] [(0,1,(.t 12)),(1,1,(.t 14))])),(kQ 16 4 26 [(.t 15)]),(mQ 8 16)] [(1,2)] [])
 (.seq (.reg [(mQ 17 8),(cQ 18 .neq 17 0)])
 (.cond (.t 18) (.seq (.reg [(mQ 19 8),(oQ 6 (.mv (.c (.p (.sl 0 [] true))))),(mQ 7 19)])
 .ret) .skip)))
 (.seq (.reg [(oQ 9 (.mv (.c (.p (.sl 0 [] true)))))])
 (.seq (.seq (.reg [(mQ 20 0),(hQ 21 20),(oQ 22 (.mv (iQ 0)))])
 (.block 0 (.loop [.v 22 tQ,.o 9 8 pQ] [8] [8] (.seq (.reg [(bQ 23 .lss 22 21)])
 (.seq (.cond (.t 23) .skip (.exit 0))
 (.seq (.block 1 (.seq (.reg [(mQ 24 22),(mQ 10 24)])
 (.regd [(mQ 25 9),(mQ 26 0),(mQ 27 10),(mQ 28 2),(nQ 29 9 4),(kQ 30 5 40 [(.t 26),(.t 27),(.t 28),(.t 29)]),(fQ 31 0 4),(lQ 32 31),(kQ 33 6 49 [(.t 30),(.t 32)]),(oQ 34 (.bsl false 7 2 1 [zQ,zQ] [(0,2,(.t 33))])),(oQ 35 (.app 8 2 16 (.t 25) (.t 34))),(mQ 9 35)] [(4,7),(5,7)] [])))
 (.reg [(cQ 36 .add 22 1),(mQ 22 36)])))))))
 (.seq (.reg [(mQ 37 9),(mQ 6 37),(oQ 7 (.mv (iQ 0)))])
 .ret)))))⟩
def A_Zh:Nat→Ty := tyAt [.un,.un,.un,tQ,.un,.un,.un,pQ,pQ]
abbrev P_Zh:List PSh := [.one (.sl (.pr tQ (.pr tQ (.pr tQ pQ)))),.agg (.pr tQ (.pr tQ (.pr tQ (.pr tQ (.pr tQ (.pr tQ (.pr tQ pQ))))))),.one tQ]
abbrev R_Zh:List PSh := [.one (.sl pQ),.one tQ]
theorem e_Zh:cFn Try.prog 45 = some F_Zh.erase := by kernel_rfl
theorem k_Zh:jan Try.prog 45 = true := by kernel_rfl
def jkx:TFn := ⟨14,3,[.celln 2 2,.tmp 3],(.seq (.reg [(oQ 1 (.box 0 (.t 0))),(oQ 2 (.newz 1 [zQ,(.p (.sl 0 [] true))])),(oQ 3 (.mv (iQ 0)))])
 (.seq (.reg [(nQ 7 2 1),(kQ 8 2 73 [(.t 7)]),(mQ 6 8),(oQ 9 (.ext 0 (.t 6))),(oQ 10 (.ext 1 (.t 6))),(mQ 4 9),(mQ 5 10)])
 (.seq (.reg [(nQ 11 2 1),(oQ 12 (.build [zQ,(.p (.sl 0 [] true))] [(0,2,(.t 11))])),(mQ 13 5),(sQ 2 2 12),(mQ 3 13)])
 .ret)))⟩
theorem jxe:cFn Try.prog 46 = some jkx.erase := by kernel_rfl
def jky:TFn := ⟨24,2,[.tmp 4],(.seq (.reg [(oQ 2 (.box 0 (.t 0))),(oQ 4 (.mv cF))])
 (.seq (.regd [(mQ 5 1),(fQ 6 0 2),(fQ 7 1 6),(lQ 8 7),(oQ 9 (.ia 2 (.t 8) (iQ 0))),(fQ 10 0 9),(lQ 11 10),(fQ 12 0 2),(fQ 13 1 12),(lQ 14 13),(fQ 15 0 2),(fQ 16 1 15),(lQ 17 16),(hQ 18 17),(cQ 19 .sub 18 1),(jQ 20 2 14 19),(fQ 21 0 20),(lQ 22 21),(kQ 23 1 58 [(.t 5),(.t 11),(.t 22)]),(mQ 4 23)] [(3,9),(6,9),(3,12),(6,12),(9,12),(3,17),(6,17)] [])
 .ret))⟩
theorem jxf:cFn Try.prog 48 = some jky.erase := by kernel_rfl
def F_Zl:TFn := ⟨7,0,[.tmp 4],(.seq (.reg [(oQ 4 (.mv (iQ 0)))])
 (.seq (.seq (.reg [(mQ 5 0)])
 (.cond (.t 5) (.seq (.reg [(oQ 4 (.mv (iQ 0)))])
 .ret) .skip))
 (.seq (.reg [(mQ 6 1),(mQ 4 6)])
 .ret)))⟩
def A_Zl:Nat→Ty := tyAt []
abbrev P_Zl:List PSh := [.one .bool,.one tQ]
abbrev R_Zl:List PSh := [.one tQ]
theorem e_Zl:cFn Try.prog 47 = some F_Zl.erase := by kernel_rfl
theorem k_Zl:jan Try.prog 47 = true := by kernel_rfl
def jkz:TFn := ⟨59,4,[.tmp 4,.tmp 5],(.seq (.reg [(oQ 2 (.box 0 (.t 0))),(oQ 4 (.mv (iQ 0))),(oQ 5 (.mv (iQ 0)))])
 (.seq (.reg [(fQ 12 0 2),(fQ 13 1 12),(lQ 14 13),(mQ 15 1),(kQ 16 1 74 [(.t 14),(.t 15),(.c (.clo 75 []))]),(mQ 11 16),(oQ 17 (.ext 0 (.t 11))),(oQ 18 (.ext 1 (.t 11))),(mQ 6 17),(mQ 7 18)])
 (.seq (.regd [(fQ 19 0 2),(fQ 20 1 19),(lQ 21 20),(mQ 22 6),(cQ 23 .sub 22 1),(oQ 24 (.mm true (iQ 0) (.t 23))),(jQ 25 2 21 24),(nQ 26 2 25),(fQ 27 0 2),(fQ 28 1 27),(lQ 29 28),(mQ 30 6),(oQ 31 (.mm true (iQ 1) (.t 30))),(jQ 32 2 29 31),(nQ 33 2 32),(oQ 8 (.newz 2 [zQ,zQ])),(oQ 9 (.newz 3 [zQ,zQ])),(sQ 2 8 26),(sQ 2 9 33)] [(2,10),(7,10),(2,14),(7,14),(2,15),(7,15),(10,15),(14,15),(2,16),(7,16),(10,16),(14,16),(15,16),(10,17),(14,17)] [])
 (.seq (.reg [(fQ 34 0 9),(lQ 35 34),(fQ 36 0 8),(lQ 37 36),(bQ 38 .sub 35 37),(mQ 10 38)])
 (.seq (.reg [(fQ 39 1 8),(lQ 40 39),(fQ 41 0 2),(fQ 42 0 41),(lQ 43 42),(bQ 44 .sub 40 43),(mQ 45 10),(bQ 46 .mul 44 45),(fQ 47 1 9),(lQ 48 47),(fQ 49 1 8),(lQ 50 49),(bQ 51 .sub 48 50),(mQ 52 1),(fQ 53 0 8),(lQ 54 53),(bQ 55 .sub 52 54),(bQ 56 .mul 51 55),(bQ 57 .add 46 56),(mQ 58 10),(mQ 4 57),(mQ 5 58)])
 .ret)))))⟩
theorem jxg:cFn Try.prog 50 = some jkz.erase := by kernel_rfl
def jh3:TFn := ⟨27,1,[.celln 4 2],(.seq (.reg [(oQ 4 (.newz 0 [zQ,zQ]))])
 (.seq (.reg [(mQ 7 0),(mQ 8 1),(bQ 9 .quo 7 8),(mQ 5 9)])
 (.seq (.seq (.reg [(mQ 10 0),(mQ 11 1),(bQ 12 .rem 10 11),(cQ 13 .lss 12 0)])
 (.cond (.t 13) (.reg [(mQ 14 5),(cQ 15 .sub 14 1),(mQ 5 15)]) .skip))
 (.seq (.reg [(mQ 16 5),(mQ 6 16)])
 (.seq (.seq (.reg [(mQ 17 5),(mQ 18 1),(bQ 19 .mul 17 18),(mQ 20 0),(bQ 21 .neq 19 20)])
 (.cond (.t 21) (.reg [(mQ 22 6),(cQ 23 .add 22 1),(mQ 6 23)]) .skip))
 (.seq (.reg [(mQ 24 5),(mQ 25 6),(oQ 26 (.build [zQ,zQ] [(0,1,(.t 24)),(1,1,(.t 25))])),(sQ 2 4 26)])
 .ret))))))⟩
def jxh:Nat→Ty := tyAt [.un]
abbrev jps:List PSh := [.one tQ,.one tQ]
abbrev jpt:List PSh := [.agg pQ]
theorem jpu:cFn Try.prog 49 = some jh3.erase := by kernel_rfl
theorem jxi:jan Try.prog 49 = true := by kernel_rfl
def jkA:TFn := ⟨12,4,[.tmp 2],(.seq (.reg [(oQ 1 (.box 0 (.t 0))),(oQ 2 (.mv (iQ 0)))])
 (.seq (.reg [(fQ 3 0 1),(lQ 4 3),(kQ 5 1 58 [(.t 4),(iQ 0),(iQ 200000)]),(mQ 6 5),(gQ 7 6 true (.fa 1 (.t 1))),(gQ 8 6 true (.ld1 (.t 7))),⟨some 9,some (some 6,true),(.call 2 58 [(.t 8),(iQ 1),(iQ 1000000000000)])⟩,(oQ 10 (.pick (.t 6) (.t 9) cF)),(kQ 11 3 47 [(.t 10),(iQ 2)]),(mQ 2 11)])
 .ret))⟩
theorem jxj:cFn Try.prog 51 = some jkA.erase := by kernel_rfl
def jkB:TFn := ⟨105,10,[.tmp 4],(.seq (.reg [(oQ 2 (.box 0 (.t 0))),(oQ 3 (.box 1 (.t 1))),(oQ 4 (.mv (.c (.p (.sl 0 [] true)))))])
 (.seq (.reg [(oQ 5 (.mv (.c (.p (.sl 0 [] true)))))])
 (.seq (.seq (.reg [(fQ 14 0 2),(fQ 15 1 14),(lQ 16 15),(hQ 17 16),(oQ 18 (.mv (iQ 0)))])
 (.block 0 (.loop [.o 5 6 pQ,.v 18 tQ] [6,2,3] [6,2,3] (.seq (.reg [(bQ 19 .lss 18 17)])
 (.seq (.cond (.t 19) .skip (.exit 0))
 (.seq (.block 1 (.seq (.reg [(mQ 20 18),(jQ 21 2 16 18),(nQ 22 2 21),(oQ 7 (.newz 2 [zQ,zQ])),(mQ 6 20),(sQ 2 7 22)])
 (.seq (.reg [(fQ 23 0 2),(fQ 24 1 23),(lQ 25 24),(mQ 26 6),(cQ 27 .add 26 1),(oQ 28 (.sl 2 (.t 25) (some (.t 27)) none)),(hQ 29 28),(oQ 30 (.mv (iQ 0)))])
 (.block 2 (.loop [.v 30 tQ,.o 5 6 pQ] [6,3] [6,3] (.seq (.reg [(bQ 31 .lss 30 29)])
 (.seq (.cond (.t 31) .skip (.exit 2))
 (.seq (.block 3 (.seq (.reg [(jQ 32 2 28 30),(nQ 33 2 32),(oQ 9 (.newz 3 [zQ,zQ])),(sQ 2 9 33)])
 (.seq (.reg [(fQ 34 0 9),(lQ 35 34),(fQ 36 0 7),(lQ 37 36),(bQ 38 .sub 35 37),(fQ 39 1 3),(lQ 40 39),(bQ 41 .leq 38 40),(mQ 42 41),(gQ 43 42 true (.fa 1 (.t 9))),(gQ 44 42 true (.ld1 (.t 43))),(gQ 45 42 true (.fa 1 (.t 7))),(gQ 46 42 true (.ld1 (.t 45))),(gQ 47 42 true (.bin .sub (.t 44) (.t 46))),(gQ 48 42 true (.fa 0 (.t 3))),(gQ 49 42 true (.ld1 (.t 48))),⟨some 50,some (some 42,true),(.call 4 66 [(.t 47),(.t 49)])⟩,(gQ 51 42 true (.unot (.t 50))),(oQ 52 (.pick (.t 42) (.t 51) cF))])
 (.cond (.t 52) (.reg [(mQ 53 5),(fQ 54 0 7),(lQ 55 54),(fQ 56 0 9),(lQ 57 56),(oQ 58 (.build [zQ,zQ] [(0,1,(.t 55)),(1,1,(.t 57))])),(oQ 59 (.bsl false 5 2 1 [zQ,zQ] [(0,2,(.t 58))])),(oQ 60 (.app 6 2 16 (.t 53) (.t 59))),(mQ 5 60)]) .skip))))
 (.reg [(cQ 61 .add 30 1),(mQ 30 61)])))))))))
 (.reg [(cQ 62 .add 18 1),(mQ 18 62)])))))))
 (.seq (.reg [(oQ 10 (.mv (.c (.p (.sl 0 [] true)))))])
 (.seq (.seq (.reg [(mQ 63 5),(hQ 64 63),(oQ 65 (.mv (iQ 0)))])
 (.block 4 (.loop [.v 65 tQ,.o 10 9 pQ] [9,7] [9,7] (.seq (.reg [(bQ 66 .lss 65 64)])
 (.seq (.cond (.t 66) .skip (.exit 4))
 (.seq (.block 5 (.seq (.reg [(jQ 67 2 63 65),(nQ 68 2 67),(oQ 12 (.newz 7 [zQ,zQ])),(sQ 2 12 68)])
 (.seq (.seq (.reg [(mQ 69 10),(hQ 70 69),(mQ 13 70)])
 (.seq (.regd [(mQ 71 13),(cQ 72 .gtr 71 0),(mQ 73 72),(gQ 74 73 true (.fa 0 (.t 12))),(gQ 75 73 true (.ld1 (.t 74))),(vQ 76 73 true 10),(vQ 77 73 true 13),(gQ 78 73 true (.bin .sub (.t 77) (iQ 1))),(gQ 79 73 true (.ia 2 (.t 76) (.t 78))),(gQ 80 73 true (.fa 1 (.t 79))),(gQ 81 73 true (.ld1 (.t 80))),(gQ 82 73 true (.bin .add (.t 81) (iQ 1))),(gQ 83 73 true (.bin .leq (.t 75) (.t 82))),(oQ 84 (.pick (.t 73) (.t 83) cF))] [(4,10)] [])
 (.cond (.t 84) (.seq (.regd [(mQ 85 10),(mQ 86 13),(cQ 87 .sub 86 1),(mQ 88 10),(mQ 89 13),(cQ 90 .sub 89 1),(jQ 91 2 88 90),(fQ 92 1 91),(lQ 93 92),(fQ 94 1 12),(lQ 95 94),(oQ 96 (.mm true (.t 93) (.t 95))),(jQ 97 2 85 87),(fQ 98 1 97),(sQ 1 98 96)] [(8,10)] [])
 (.exit 5)) .skip)))
 (.reg [(mQ 99 10),(nQ 100 2 12),(oQ 101 (.bsl false 8 2 1 [zQ,zQ] [(0,2,(.t 100))])),(oQ 102 (.app 9 2 16 (.t 99) (.t 101))),(mQ 10 102)]))))
 (.reg [(cQ 103 .add 65 1),(mQ 65 103)])))))))
 (.seq (.reg [(mQ 104 10),(mQ 4 104)])
 .ret))))))⟩
theorem jxk:cFn Try.prog 52 = some jkB.erase := by kernel_rfl
def jkC:TFn := ⟨19,6,[.tmp 2],(.seq (.reg [(oQ 2 (.mv (iQ 0)))])
 (.seq (.reg [(mQ 4 0),(kQ 5 0 64 [(.t 4),(.c (.clo 77 []))]),(mQ 3 5)])
 (.seq (.reg [(mQ 6 0),(hQ 7 6),(cQ 8 .gtr 7 0),(kQ 9 1 47 [(.t 8),(iQ 10)]),(mQ 10 0),(hQ 11 10),(cQ 12 .leq 11 40),(kQ 13 2 47 [(.t 12),(iQ 8)]),(mQ 14 3),(oQ 15 (.unot (.t 14))),(kQ 16 3 47 [(.t 15),(iQ 2)]),(oQ 17 (.bsl false 4 1 3 [zQ,zQ,zQ] [(0,1,(.t 9)),(1,1,(.t 13)),(2,1,(.t 16))])),(kQ 18 5 26 [(.t 17)]),(mQ 2 18)])
 .ret)))⟩
theorem jxl:cFn Try.prog 53 = some jkC.erase := by kernel_rfl
def jkD:TFn := ⟨44,0,[.tmp 6,.tmp 7],(.seq (.reg [(oQ 6 (.mv (iQ 0))),(oQ 7 (.mv (iQ 0)))])
 (.seq (.reg [(oQ 8 (.mv (iQ 0))),(oQ 9 (.mv (iQ 0)))])
 (.seq (.seq (.reg [(mQ 12 2),(mQ 10 12)])
 (.block 0 (.loop [.v 10 tQ,.v 9 tQ,.v 8 tQ] [] [] (.seq (.seq (.reg [(mQ 13 10),(mQ 14 0),(hQ 15 14),(mQ 16 2),(bQ 17 .sub 15 16),(bQ 18 .lss 13 17)])
 (.cond (.t 18) .skip (.exit 0)))
 (.seq (.block 1 (.seq (.regd [(mQ 21 0),(mQ 22 10),(mQ 23 2),(bQ 24 .add 22 23),(jQ 25 1 21 24),(lQ 26 25),(mQ 27 1),(mQ 28 10),(mQ 29 2),(bQ 30 .sub 28 29),(jQ 31 1 27 30),(lQ 32 31),(bQ 33 .sub 26 32),(mQ 11 33)] [(5,11)] [])
 (.seq (.reg [(mQ 34 8),(mQ 35 11),(mQ 36 11),(oQ 37 (.uneg (.t 36))),(oQ 38 (.mm true (.t 35) (.t 37))),(bQ 39 .add 34 38),(mQ 8 39)])
 (.reg [(mQ 40 9),(cQ 41 .add 40 1),(mQ 9 41)]))))
 (.reg [(mQ 19 10),(cQ 20 .add 19 1),(mQ 10 20)]))))))
 (.seq (.reg [(mQ 42 8),(mQ 43 9),(mQ 6 42),(mQ 7 43)])
 .ret))))⟩
theorem jxm:cFn Try.prog 54 = some jkD.erase := by kernel_rfl
def F_Z6:TFn := ⟨65,6,[.tmp 2,.tmp 3],(.seq (.reg [(oQ 2 (.mv (iQ 0))),(oQ 3 (.mv (iQ 0)))])
 (.seq (.seq (.reg [(mQ 6 0),(hQ 7 6),(cQ 8 .eql 7 0)])
 (.cond (.t 8) (.seq (.reg [(oQ 2 (.mv (iQ 0))),(oQ 3 (.mv (iQ 10)))])
 .ret) .skip))
 (.seq (.seq (.reg [(mQ 9 0),(hQ 10 9),(cQ 11 .gtr 10 20)])
 (.cond (.t 11) (.seq (.reg [(oQ 2 (.mv (iQ 0))),(oQ 3 (.mv (iQ 8)))])
 .ret) .skip))
 (.seq (.seq (.reg [(oQ 4 (.mv (iQ 0)))])
 (.block 0 (.loop [.v 4 tQ] [0] [0] (.seq (.seq (.reg [(mQ 12 4),(mQ 13 0),(hQ 14 13),(bQ 15 .lss 12 14)])
 (.cond (.t 15) .skip (.exit 0)))
 (.seq (.block 1 (.seq (.reg [(mQ 18 0),(mQ 19 4),(jQ 20 5 18 19),(nQ 21 5 20),(oQ 5 (.newz 0 [zQ,zQ,zQ,zQ,zQ])),(sQ 5 5 21)])
 (.seq (.seq (.reg [(fQ 22 0 5),(lQ 23 22),(kQ 24 1 79 [(.t 23)]),(oQ 25 (.unot (.t 24))),(mQ 26 25),(gQ 27 26 false (.fa 1 (.t 5))),(gQ 28 26 false (.ld1 (.t 27))),⟨some 29,some (some 26,false),(.call 2 80 [(.t 28)])⟩,(gQ 30 26 false (.unot (.t 29))),(oQ 31 (.pick (.t 26) cT (.t 30))),(mQ 32 31),(gQ 33 32 false (.fa 2 (.t 5))),(gQ 34 32 false (.ld1 (.t 33))),⟨some 35,some (some 32,false),(.call 3 80 [(.t 34)])⟩,(gQ 36 32 false (.unot (.t 35))),(oQ 37 (.pick (.t 32) cT (.t 36))),(mQ 38 37),(gQ 39 38 false (.fa 3 (.t 5))),(gQ 40 38 false (.ld1 (.t 39))),⟨some 41,some (some 38,false),(.call 4 80 [(.t 40)])⟩,(gQ 42 38 false (.unot (.t 41))),(oQ 43 (.pick (.t 38) cT (.t 42))),(mQ 44 43),(gQ 45 44 false (.fa 4 (.t 5))),(gQ 46 44 false (.ld1 (.t 45))),⟨some 47,some (some 44,false),(.call 5 81 [(.t 46)])⟩,(gQ 48 44 false (.unot (.t 47))),(oQ 49 (.pick (.t 44) cT (.t 48)))])
 (.cond (.t 49) (.seq (.reg [(mQ 50 4),(mQ 2 50),(oQ 3 (.mv (iQ 2)))])
 .ret) .skip))
 (.seq (.regd [(mQ 51 4),(cQ 52 .gtr 51 0),(mQ 53 52),(gQ 54 53 true (.fa 0 (.t 5))),(gQ 55 53 true (.ld1 (.t 54))),(vQ 56 53 true 0),(vQ 57 53 true 4),(gQ 58 53 true (.bin .sub (.t 57) (iQ 1))),(gQ 59 53 true (.ia 5 (.t 56) (.t 58))),(gQ 60 53 true (.fa 0 (.t 59))),(gQ 61 53 true (.ld1 (.t 60))),(gQ 62 53 true (.bin .leq (.t 55) (.t 61))),(oQ 63 (.pick (.t 53) (.t 62) cF))] [(4,10)] [])
 (.cond (.t 63) (.seq (.reg [(mQ 64 4),(mQ 2 64),(oQ 3 (.mv (iQ 9)))])
 .ret) .skip)))))
 (.reg [(mQ 16 4),(cQ 17 .add 16 1),(mQ 4 17)]))))))
 (.seq (.reg [(oQ 2 (.mv (iQ 0))),(oQ 3 (.mv (iQ 0)))])
 .ret)))))⟩
def A_Z6:Nat→Ty := tyAt [.un,.un,.un,.un,.un,.un]
abbrev P_Z6:List PSh := [.one (.sl (.pr tQ (.pr tQ (.pr tQ pQ))))]
abbrev R_Z6:List PSh := [.one tQ,.one tQ]
theorem e_Z6:cFn Try.prog 55 = some F_Z6.erase := by kernel_rfl
theorem k_Z6:jan Try.prog 55 = true := by kernel_rfl
def F_Zo:TFn := ⟨19,2,[.tmp 2],(.seq (.reg [(oQ 2 (.mv (.c (.p (.sl 0 [] true)))))])
 (.seq (.reg [(oQ 3 (.mv (.c (.p (.sl 0 [] true)))))])
 (.seq (.seq (.reg [(oQ 4 (.mv (iQ 0)))])
 (.block 0 (.loop [.v 4 tQ,.o 3 1 tQ] [1] [1] (.seq (.seq (.reg [(mQ 5 4),(cQ 6 .lss 5 8)])
 (.cond (.t 6) .skip (.exit 0)))
 (.seq (.block 1 (.seq (.reg [(mQ 9 0),(mQ 10 4),(oQ 11 (.sh false (.t 9) (.t 10))),(cQ 12 .and 11 1),(cQ 13 .eql 12 1)])
 (.cond (.t 13) (.reg [(mQ 14 3),(mQ 15 4),(oQ 16 (.bsl false 0 1 1 [zQ] [(0,1,(.t 15))])),(oQ 17 (.app 1 1 8 (.t 14) (.t 16))),(mQ 3 17)]) .skip)))
 (.reg [(mQ 7 4),(cQ 8 .add 7 1),(mQ 4 8)]))))))
 (.seq (.reg [(mQ 18 3),(mQ 2 18)])
 .ret))))⟩
def A_Zo:Nat→Ty := tyAt [tQ,tQ]
abbrev P_Zo:List PSh := [.one tQ]
abbrev R_Zo:List PSh := [.one (.sl tQ)]
theorem e_Zo:cFn Try.prog 56 = some F_Zo.erase := by kernel_rfl
theorem k_Zo:jan Try.prog 56 = true := by kernel_rfl
def F_Z4:TFn := ⟨73,14,[.tmp 2,.tmp 3],(.seq (.reg [(oQ 2 (.mv (iQ 0))),(oQ 3 (.mv (iQ 0)))])
 (.seq (.seq (.reg [(mQ 11 0),(hQ 12 11),(cQ 13 .gtr 12 0),(kQ 14 0 47 [(.t 13),(iQ 10)]),(mQ 15 0),(hQ 16 15),(cQ 17 .leq 16 20),(kQ 18 1 47 [(.t 17),(iQ 8)]),(oQ 19 (.bsl false 2 1 2 [zQ,zQ] [(0,1,(.t 14)),(1,1,(.t 18))])),(kQ 20 3 26 [(.t 19)]),(mQ 4 20)])
 (.seq (.reg [(mQ 21 4),(cQ 22 .neq 21 0)])
 (.cond (.t 22) (.seq (.reg [(mQ 23 4),(oQ 2 (.mv (iQ 0))),(mQ 3 23)])
 .ret) .skip)))
 (.seq (.reg [(oQ 5 (.mv (iQ (-1))))])
 (.seq (.reg [(oQ 6 (.mv (.c (.clo 82 []))))])
 (.seq (.seq (.reg [(mQ 24 0),(hQ 25 24),(oQ 26 (.mv (iQ 0)))])
 (.block 0 (.loop [.v 26 tQ,.v 5 tQ] [4] [4] (.seq (.reg [(bQ 27 .lss 26 25)])
 (.seq (.cond (.t 27) .skip (.exit 0))
 (.seq (.block 1 (.seq (.reg [(mQ 28 26),(jQ 29 5 24 26),(nQ 30 5 29),(oQ 8 (.newz 4 [zQ,zQ,zQ,zQ,zQ])),(mQ 7 28),(sQ 5 8 30)])
 (.seq (.reg [(fQ 31 0 8),(lQ 32 31),(kQ 33 5 83 [(.t 32)]),(mQ 34 33),(vQ 35 34 true 6),(gQ 36 34 true (.fa 1 (.t 8))),(gQ 37 34 true (.ld1 (.t 36))),⟨some 38,some (some 34,true),(.callv 6 (.t 35) [(.t 37)])⟩,(oQ 39 (.pick (.t 34) (.t 38) cF)),(mQ 40 39),(vQ 41 40 true 6),(gQ 42 40 true (.fa 2 (.t 8))),(gQ 43 40 true (.ld1 (.t 42))),⟨some 44,some (some 40,true),(.callv 7 (.t 41) [(.t 43)])⟩,(oQ 45 (.pick (.t 40) (.t 44) cF)),(mQ 46 45),(vQ 47 46 true 6),(gQ 48 46 true (.fa 3 (.t 8))),(gQ 49 46 true (.ld1 (.t 48))),⟨some 50,some (some 46,true),(.callv 8 (.t 47) [(.t 49)])⟩,(oQ 51 (.pick (.t 46) (.t 50) cF)),(mQ 52 51),(gQ 53 52 true (.fa 4 (.t 8))),(gQ 54 52 true (.ld1 (.t 53))),⟨some 55,some (some 52,true),(.call 9 78 [(.t 54)])⟩,(oQ 56 (.pick (.t 52) (.t 55) cF)),(mQ 9 56)])
 (.seq (.seq (.regd [(mQ 57 9),(kQ 58 10 47 [(.t 57),(iQ 2)]),(fQ 59 0 8),(lQ 60 59),(mQ 61 5),(bQ 62 .gtr 60 61),(kQ 63 11 47 [(.t 62),(iQ 9)]),(oQ 64 (.bsl false 12 1 2 [zQ,zQ] [(0,1,(.t 58)),(1,1,(.t 63))])),(kQ 65 13 26 [(.t 64)]),(mQ 10 65)] [(1,3)] [])
 (.seq (.reg [(mQ 66 10),(cQ 67 .neq 66 0)])
 (.cond (.t 67) (.seq (.reg [(mQ 68 7),(mQ 69 10),(mQ 2 68),(mQ 3 69)])
 .ret) .skip)))
 (.reg [(fQ 70 0 8),(lQ 71 70),(mQ 5 71)])))))
 (.reg [(cQ 72 .add 26 1),(mQ 26 72)])))))))
 (.seq (.reg [(oQ 2 (.mv (iQ 0))),(oQ 3 (.mv (iQ 0)))])
 .ret))))))⟩
def A_Z4:Nat→Ty := tyAt [.un,.un,tQ,.un,.un,.un,.un,.un,.un,.un,.un,.un,tQ,.un]
abbrev P_Z4:List PSh := [.one (.sl (.pr tQ (.pr tQ (.pr tQ pQ))))]
abbrev R_Z4:List PSh := [.one tQ,.one tQ]
theorem e_Z4:cFn Try.prog 57 = some F_Z4.erase := by kernel_rfl
theorem k_Z4:jan Try.prog 57 = true := by kernel_rfl
def F_Z8:TFn := ⟨15,0,[.tmp 6],(.seq (.reg [(oQ 6 (.mv cF))])
 (.seq (.reg [(mQ 7 1),(mQ 8 0),(bQ 9 .leq 7 8),(mQ 10 9),(vQ 11 10 true 0),(vQ 12 10 true 2),(gQ 13 10 true (.bin .leq (.t 11) (.t 12))),(oQ 14 (.pick (.t 10) (.t 13) cF)),(mQ 6 14)])
 .ret))⟩
def A_Z8:Nat→Ty := tyAt []
abbrev P_Z8:List PSh := [.one tQ,.one tQ,.one tQ]
abbrev R_Z8:List PSh := [.one .bool]
theorem e_Z8:cFn Try.prog 58 = some F_Z8.erase := by kernel_rfl
theorem k_Z8:jan Try.prog 58 = true := by kernel_rfl
theorem jxn:jf2 Try.prog 59 = true := by kernel_rfl
def F_Zt:TFn := ⟨27,6,[.celln 4 2],(.seq (.reg [(oQ 4 (.newz 0 [(.p (.int .u64 0)),(.p (.int .u64 0))]))])
 (.seq (.reg [(mQ 9 0),(kQ 10 1 38 [(.t 9)]),(mQ 11 1),(kQ 12 2 38 [(.t 11)]),(kQ 13 3 86 [(.t 10),(.t 12)]),(mQ 8 13),(oQ 14 (.ext 0 (.t 8))),(oQ 15 (.ext 1 (.t 8))),(mQ 5 14),(mQ 6 15)])
 (.seq (.reg [(mQ 16 5),(mQ 17 6),(oQ 18 (.build [(.p (.int .u64 0)),(.p (.int .u64 0))] [(0,1,(.t 16)),(1,1,(.t 17))])),(oQ 7 (.newz 4 [(.p (.int .u64 0)),(.p (.int .u64 0))])),(sQ 2 7 18)])
 (.seq (.seq (.reg [(mQ 19 0),(cQ 20 .lss 19 0),(mQ 21 1),(cQ 22 .lss 21 0),(oQ 23 (.eqb true (.t 20) (.t 22)))])
 (.cond (.t 23) (.seq (.reg [(nQ 24 2 7),(kQ 25 5 62 [(.t 24)]),(sQ 2 4 25)])
 .ret) .skip))
 (.seq (.reg [(nQ 26 2 7),(sQ 2 4 26)])
 .ret)))))⟩
def A_Zt:Nat→Ty := tyAt [.un,.un,.un,.un,.un,.un]
abbrev P_Zt:List PSh := [.one tQ,.one tQ]
abbrev R_Zt:List PSh := [.agg (.pr (.int .u64) (.int .u64))]
theorem e_Zt:cFn Try.prog 61 = some F_Zt.erase := by kernel_rfl
theorem k_Zt:jan Try.prog 61 = true := by kernel_rfl
def F_Zu:TFn := ⟨29,5,[.celln 4 2],(.seq (.reg [(oQ 2 (.box 0 (.t 0))),(oQ 3 (.box 1 (.t 1))),(oQ 4 (.newz 2 [(.p (.int .u64 0)),(.p (.int .u64 0))]))])
 (.seq (.reg [(fQ 10 1 2),(lQ 11 10),(fQ 12 1 3),(lQ 13 12),(oQ 14 (.a64 (.t 11) (.t 13) (.c (.p (.int .u64 0))))),(mQ 9 14),(oQ 15 (.ext 0 (.t 9))),(oQ 16 (.ext 1 (.t 9))),(mQ 5 15),(mQ 6 16)])
 (.seq (.reg [(fQ 18 0 2),(lQ 19 18),(fQ 20 0 3),(lQ 21 20),(mQ 22 6),(oQ 23 (.a64 (.t 19) (.t 21) (.t 22))),(mQ 17 23),(oQ 24 (.ext 0 (.t 17))),(oQ 25 (.ext 1 (.t 17))),(mQ 7 24),(mQ 8 25)])
 (.seq (.reg [(mQ 26 7),(mQ 27 5),(oQ 28 (.build [(.p (.int .u64 0)),(.p (.int .u64 0))] [(0,1,(.t 26)),(1,1,(.t 27))])),(sQ 2 4 28)])
 .ret))))⟩
def A_Zu:Nat→Ty := tyAt [.un,.un,.un,.un,.un]
abbrev P_Zu:List PSh := [.agg (.pr (.int .u64) (.int .u64)),.agg (.pr (.int .u64) (.int .u64))]
abbrev R_Zu:List PSh := [.agg (.pr (.int .u64) (.int .u64))]
theorem e_Zu:cFn Try.prog 60 = some F_Zu.erase := by kernel_rfl
theorem k_Zu:jan Try.prog 60 = true := by kernel_rfl
def F_Zr:TFn := ⟨19,3,[.celln 2 2],(.seq (.reg [(oQ 1 (.box 0 (.t 0))),(oQ 2 (.newz 1 [(.p (.int .u64 0)),(.p (.int .u64 0))]))])
 (.seq (.reg [(fQ 6 1 1),(lQ 7 6),(oQ 8 (.bnot (.t 7))),(oQ 9 (.a64 (.t 8) (.c (.p (.int .u64 1))) (.c (.p (.int .u64 0))))),(mQ 5 9),(oQ 10 (.ext 0 (.t 5))),(oQ 11 (.ext 1 (.t 5))),(mQ 3 10),(mQ 4 11)])
 (.seq (.reg [(fQ 12 0 1),(lQ 13 12),(oQ 14 (.bnot (.t 13))),(mQ 15 4),(bQ 16 .add 14 15),(mQ 17 3),(oQ 18 (.build [(.p (.int .u64 0)),(.p (.int .u64 0))] [(0,1,(.t 16)),(1,1,(.t 17))])),(sQ 2 2 18)])
 .ret)))⟩
def A_Zr:Nat→Ty := tyAt [.un,.un,.un]
abbrev P_Zr:List PSh := [.agg (.pr (.int .u64) (.int .u64))]
abbrev R_Zr:List PSh := [.agg (.pr (.int .u64) (.int .u64))]
theorem e_Zr:cFn Try.prog 62 = some F_Zr.erase := by kernel_rfl
theorem k_Zr:jan Try.prog 62 = true := by kernel_rfl
def jh4:TFn := ⟨6,1,[.tmp 2],(.seq (.reg [(oQ 2 (.mv (iQ 0)))])
 (.seq (.reg [(mQ 3 0),(kQ 4 0 87 [(.t 3)]),(oQ 5 (.bin .sub (iQ 64) (.t 4))),(mQ 2 5)])
 .ret))⟩
def jxo:Nat→Ty := tyAt [.un]
abbrev jpv:List PSh := [.one (.int .u64)]
abbrev jpw:List PSh := [.one tQ]
theorem jpx:cFn Try.prog 63 = some jh4.erase := by kernel_rfl
theorem jxp:jan Try.prog 63 = true := by kernel_rfl
def jh5:TFn := ⟨9,1,[.tmp 4],(.seq (.reg [(oQ 4 (.mv cF))])
 (.seq (.reg [(mQ 5 0),(mQ 6 1),(kQ 7 0 88 [(.t 5),(.t 6)]),(cQ 8 .geq 7 0),(mQ 4 8)])
 .ret))⟩
def jxq:Nat→Ty := tyAt [.un]
abbrev jpy:List PSh := [.one (.sl tQ),.fn 65 []]
abbrev jpz:List PSh := [.one .bool]
theorem jpA:cFn Try.prog 64 = some jh5.erase := by kernel_rfl
theorem jxr:jan Try.prog 64 = true := by kernel_rfl
def jpB:TFn := ⟨7,0,[.tmp 2],(.seq (.reg [(oQ 2 (.mv (iQ 0)))])
 (.seq (.reg [(mQ 3 0),(mQ 4 0),(oQ 5 (.uneg (.t 4))),(oQ 6 (.mm true (.t 3) (.t 5))),(mQ 2 6)])
 .ret))⟩
def jxs:Nat→Ty := tyAt []
abbrev jpC:List PSh := [.one tQ]
abbrev jpD:List PSh := [.one tQ]
theorem jxt:cFn Try.prog 68 = some jpB.erase := by kernel_rfl
theorem jxu:jan Try.prog 68 = true := by kernel_rfl
def F_Zx:TFn := ⟨13,2,[.celln 4 2],(.seq (.reg [(oQ 4 (.newz 0 [zQ,(.p (.sl 0 [] true))]))])
 (.seq (.reg [(mQ 5 1),(kQ 6 1 89 [(.t 5)]),(mQ 1 6)])
 (.seq (.seq (.reg [(mQ 7 1),(hQ 8 7),(cQ 9 .eql 8 0)])
 (.cond (.t 9) (.reg [(oQ 0 (.mv (iQ 0)))]) .skip))
 (.seq (.reg [(mQ 10 0),(mQ 11 1),(oQ 12 (.build [zQ,(.p (.sl 0 [] true))] [(0,1,(.t 10)),(1,1,(.t 11))])),(sQ 2 4 12)])
 .ret))))⟩
def A_Zx:Nat→Ty := tyAt [.un,.un]
abbrev P_Zx:List PSh := [.one tQ,.one (.sl tQ)]
abbrev R_Zx:List PSh := [.agg (.pr tQ (.sl tQ))]
theorem e_Zx:cFn Try.prog 69 = some F_Zx.erase := by kernel_rfl
theorem k_Zx:jan Try.prog 69 = true := by kernel_rfl
def F_Zc:TFn := ⟨42,4,[.tmp 4],(.seq (.reg [(oQ 4 (.mv (.c (.p (.sl 0 [] true)))))])
 (.seq (.reg [(oQ 5 (.mv (.c (.p (.sl 0 [] true)))))])
 (.seq (.reg [(oQ 6 (.mv (iQ 0)))])
 (.seq (.seq (.reg [(oQ 7 (.mv (iQ 0)))])
 (.block 0 (.loop [.v 7 tQ,.o 5 3 tQ,.v 6 tQ] [3] [3] (.seq (.seq (.reg [(mQ 9 7),(mQ 10 0),(hQ 11 10),(bQ 12 .lss 9 11),(mQ 13 12),(vQ 14 13 false 7),(vQ 15 13 false 1),(gQ 16 13 false (.len false (.t 15))),(gQ 17 13 false (.bin .lss (.t 14) (.t 16))),(oQ 18 (.pick (.t 13) cT (.t 17))),(mQ 19 18),(vQ 20 19 false 6),(gQ 21 19 false (.bin .gtr (.t 20) (iQ 0))),(oQ 22 (.pick (.t 19) cT (.t 21)))])
 (.cond (.t 22) .skip (.exit 0)))
 (.seq (.block 1 (.seq (.reg [(mQ 25 0),(mQ 26 7),(kQ 27 0 90 [(.t 25),(.t 26)]),(mQ 28 1),(mQ 29 7),(kQ 30 1 90 [(.t 28),(.t 29)]),(bQ 31 .add 27 30),(mQ 32 6),(bQ 33 .add 31 32),(mQ 8 33)])
 (.reg [(mQ 34 5),(mQ 35 8),(cQ 36 .rem 35 1000000000),(oQ 37 (.bsl false 2 1 1 [zQ] [(0,1,(.t 36))])),(oQ 38 (.app 3 1 8 (.t 34) (.t 37))),(mQ 39 8),(cQ 40 .quo 39 1000000000),(mQ 5 38),(mQ 6 40)])))
 (.reg [(mQ 23 7),(cQ 24 .add 23 1),(mQ 7 24)]))))))
 (.seq (.reg [(mQ 41 5),(mQ 4 41)])
 .ret)))))⟩
def A_Zc:Nat→Ty := tyAt [.un,.un,tQ,tQ]
abbrev P_Zc:List PSh := [.one (.sl tQ),.one (.sl tQ)]
abbrev R_Zc:List PSh := [.one (.sl tQ)]
theorem e_Zc:cFn Try.prog 70 = some F_Zc.erase := by kernel_rfl
theorem k_Zc:jan Try.prog 70 = true := by kernel_rfl
def F_Zp:TFn := ⟨41,0,[.tmp 4],(.seq (.reg [(oQ 4 (.mv (iQ 0)))])
 (.seq (.seq (.reg [(mQ 6 0),(hQ 7 6),(mQ 8 1),(hQ 9 8),(bQ 10 .neq 7 9)])
 (.cond (.t 10) (.seq (.seq (.reg [(mQ 11 0),(hQ 12 11),(mQ 13 1),(hQ 14 13),(bQ 15 .lss 12 14)])
 (.cond (.t 15) (.seq (.reg [(oQ 4 (.mv (iQ (-1))))])
 .ret) .skip))
 (.seq (.reg [(oQ 4 (.mv (iQ 1)))])
 .ret)) .skip))
 (.seq (.seq (.reg [(mQ 16 0),(hQ 17 16),(cQ 18 .sub 17 1),(mQ 5 18)])
 (.block 0 (.loop [.v 5 tQ] [] [] (.seq (.seq (.reg [(mQ 19 5),(cQ 20 .geq 19 0)])
 (.cond (.t 20) .skip (.exit 0)))
 (.seq (.block 1 (.seq (.seq (.regd [(mQ 23 0),(mQ 24 5),(jQ 25 1 23 24),(lQ 26 25),(mQ 27 1),(mQ 28 5),(jQ 29 1 27 28),(lQ 30 29),(bQ 31 .lss 26 30)] [(3,7)] [])
 (.cond (.t 31) (.seq (.reg [(oQ 4 (.mv (iQ (-1))))])
 .ret) .skip))
 (.seq (.regd [(mQ 32 0),(mQ 33 5),(jQ 34 1 32 33),(lQ 35 34),(mQ 36 1),(mQ 37 5),(jQ 38 1 36 37),(lQ 39 38),(bQ 40 .gtr 35 39)] [(3,7)] [])
 (.cond (.t 40) (.seq (.reg [(oQ 4 (.mv (iQ 1)))])
 .ret) .skip))))
 (.reg [(mQ 21 5),(cQ 22 .sub 21 1),(mQ 5 22)]))))))
 (.seq (.reg [(oQ 4 (.mv (iQ 0)))])
 .ret))))⟩
def A_Zp:Nat→Ty := tyAt []
abbrev P_Zp:List PSh := [.one (.sl tQ),.one (.sl tQ)]
abbrev R_Zp:List PSh := [.one tQ]
theorem e_Zp:cFn Try.prog 71 = some F_Zp.erase := by kernel_rfl
theorem k_Zp:jan Try.prog 71 = true := by kernel_rfl
def F_Zf:TFn := ⟨35,4,[.tmp 4],(.seq (.reg [(oQ 4 (.mv (.c (.p (.sl 0 [] true)))))])
 (.seq (.reg [(oQ 5 (.mv (.c (.p (.sl 0 [] true)))))])
 (.seq (.reg [(oQ 6 (.mv (iQ 0)))])
 (.seq (.seq (.reg [(oQ 7 (.mv (iQ 0)))])
 (.block 0 (.loop [.v 7 tQ,.o 5 2 tQ,.v 6 tQ] [2] [2] (.seq (.seq (.reg [(mQ 9 7),(mQ 10 0),(hQ 11 10),(bQ 12 .lss 9 11)])
 (.cond (.t 12) .skip (.exit 0)))
 (.seq (.block 1 (.seq (.regd [(mQ 15 0),(mQ 16 7),(jQ 17 1 15 16),(lQ 18 17),(mQ 19 1),(mQ 20 7),(kQ 21 0 90 [(.t 19),(.t 20)]),(bQ 22 .sub 18 21),(mQ 23 6),(bQ 24 .sub 22 23),(mQ 8 24)] [(3,6)] [])
 (.seq (.reg [(oQ 6 (.mv (iQ 0)))])
 (.seq (.seq (.reg [(mQ 25 8),(cQ 26 .lss 25 0)])
 (.cond (.t 26) (.reg [(mQ 27 8),(cQ 28 .add 27 1000000000),(mQ 8 28),(oQ 6 (.mv (iQ 1)))]) .skip))
 (.reg [(mQ 29 5),(mQ 30 8),(oQ 31 (.bsl false 1 1 1 [zQ] [(0,1,(.t 30))])),(oQ 32 (.app 2 1 8 (.t 29) (.t 31))),(mQ 5 32)])))))
 (.reg [(mQ 13 7),(cQ 14 .add 13 1),(mQ 7 14)]))))))
 (.seq (.reg [(mQ 33 5),(kQ 34 3 89 [(.t 33)]),(mQ 4 34)])
 .ret)))))⟩
def A_Zf:Nat→Ty := tyAt [.un,tQ,tQ,.un]
abbrev P_Zf:List PSh := [.one (.sl tQ),.one (.sl tQ)]
abbrev R_Zf:List PSh := [.one (.sl tQ)]
theorem e_Zf:cFn Try.prog 72 = some F_Zf.erase := by kernel_rfl
theorem k_Zf:jan Try.prog 72 = true := by kernel_rfl
def jpE:TFn := ⟨9,2,[.celln 2 2],(.seq (.reg [(oQ 1 (.box 0 (.t 0))),(oQ 2 (.newz 1 [zQ,(.p (.sl 0 [] true))]))])
 (.seq (.reg [(fQ 3 0 1),(lQ 4 3),(oQ 5 (.uneg (.t 4))),(fQ 6 1 1),(lQ 7 6),(oQ 8 (.build [zQ,(.p (.sl 0 [] true))] [(0,1,(.t 5)),(1,1,(.t 7))])),(sQ 2 2 8)])
 .ret))⟩
def jxv:Nat→Ty := tyAt [.un,.un]
abbrev jpF:List PSh := [.agg (.pr tQ (.sl tQ))]
abbrev jpG:List PSh := [.agg (.pr tQ (.sl tQ))]
theorem jxw:cFn Try.prog 67 = some jpE.erase := by kernel_rfl
theorem jxx:jan Try.prog 67 = true := by kernel_rfl
def jkE:TFn := ⟨59,14,[.tmp 2,.tmp 3],(.seq (.reg [(oQ 1 (.box 0 (.t 0))),(oQ 2 (.mv (iQ 0))),(oQ 3 (.mv (iQ 0)))])
 (.seq (.regd [(fQ 9 0 1),(lQ 10 9),(kQ 11 1 78 [(.t 10)]),(kQ 12 2 47 [(.t 11),(iQ 2)]),(fQ 13 1 1),(lQ 14 13),(hQ 15 14),(cQ 16 .geq 15 2),(kQ 17 3 47 [(.t 16),(iQ 10)]),(fQ 18 1 1),(lQ 19 18),(hQ 20 19),(cQ 21 .leq 20 20),(kQ 22 4 47 [(.t 21),(iQ 8)]),(oQ 23 (.bsl false 5 1 3 [zQ,zQ,zQ] [(0,1,(.t 12)),(1,1,(.t 17)),(2,1,(.t 22))])),(kQ 24 6 26 [(.t 23)]),(mQ 4 24)] [(1,5),(2,5),(3,5),(1,10),(2,10),(3,10),(5,10),(8,10)] [])
 (.seq (.seq (.reg [(mQ 25 4),(cQ 26 .neq 25 0)])
 (.cond (.t 26) (.seq (.reg [(mQ 27 4),(oQ 2 (.mv (iQ 0))),(mQ 3 27)])
 .ret) .skip))
 (.seq (.reg [(oQ 5 (.mv (iQ (-1))))])
 (.seq (.seq (.reg [(fQ 28 1 1),(lQ 29 28),(hQ 30 29),(oQ 31 (.mv (iQ 0)))])
 (.block 0 (.loop [.v 31 tQ,.v 5 tQ] [7] [7] (.seq (.reg [(bQ 32 .lss 31 30)])
 (.seq (.cond (.t 32) .skip (.exit 0))
 (.seq (.block 1 (.seq (.reg [(mQ 33 31),(jQ 34 2 29 31),(nQ 35 2 34),(oQ 7 (.newz 7 [zQ,zQ])),(mQ 6 33),(sQ 2 7 35)])
 (.seq (.seq (.regd [(fQ 36 0 7),(lQ 37 36),(kQ 38 8 83 [(.t 37)]),(mQ 39 38),(gQ 40 39 true (.fa 1 (.t 7))),(gQ 41 39 true (.ld1 (.t 40))),⟨some 42,some (some 39,true),(.call 9 78 [(.t 41)])⟩,(oQ 43 (.pick (.t 39) (.t 42) cF)),(kQ 44 10 47 [(.t 43),(iQ 2)]),(fQ 45 0 7),(lQ 46 45),(mQ 47 5),(bQ 48 .gtr 46 47),(kQ 49 11 47 [(.t 48),(iQ 9)]),(oQ 50 (.bsl false 12 1 2 [zQ,zQ] [(0,1,(.t 44)),(1,1,(.t 49))])),(kQ 51 13 26 [(.t 50)]),(mQ 8 51)] [(1,10),(2,10),(5,10),(6,10),(8,10)] [])
 (.seq (.reg [(mQ 52 8),(cQ 53 .neq 52 0)])
 (.cond (.t 53) (.seq (.reg [(mQ 54 6),(mQ 55 8),(mQ 2 54),(mQ 3 55)])
 .ret) .skip)))
 (.reg [(fQ 56 0 7),(lQ 57 56),(mQ 5 57)]))))
 (.reg [(cQ 58 .add 31 1),(mQ 31 58)])))))))
 (.seq (.reg [(oQ 2 (.mv (iQ 0))),(oQ 3 (.mv (iQ 0)))])
 .ret))))))⟩
theorem jxy:cFn Try.prog 73 = some jkE.erase := by kernel_rfl
def jkF:TFn := ⟨49,2,[.tmp 6,.tmp 7],(.seq (.reg [(oQ 6 (.mv (iQ 0))),(oQ 7 (.mv cF))])
 (.seq (.reg [(mQ 12 0),(hQ 13 12),(mQ 8 13)])
 (.seq (.reg [(mQ 14 8),(oQ 9 (.mv (iQ 0))),(mQ 10 14)])
 (.seq (.block 0 (.loop [.v 10 tQ,.v 9 tQ] [] [] (.seq (.seq (.reg [(mQ 15 9),(mQ 16 10),(bQ 17 .lss 15 16)])
 (.cond (.t 17) .skip (.exit 0)))
 (.block 1 (.seq (.reg [(mQ 18 9),(mQ 19 10),(bQ 20 .add 18 19),(oQ 21 (.conv .u64 (.t 20))),(oQ 22 (.sh false (.t 21) (.c (.p (.int .u64 1))))),(oQ 23 (.conv .i64 (.t 22))),(mQ 11 23)])
 (.seq (.reg [(mQ 24 2),(mQ 25 0),(mQ 26 11),(jQ 27 2 25 26),(nQ 28 2 27),(mQ 29 1),⟨some 30,none,(.callv 0 (.t 24) [(.t 28),(.t 29)])⟩,(cQ 31 .lss 30 0)])
 (.cond (.t 31) (.reg [(mQ 32 11),(cQ 33 .add 32 1),(mQ 9 33)]) (.reg [(mQ 34 11),(mQ 10 34)]))))))))
 (.seq (.reg [(mQ 35 9),(mQ 36 9),(mQ 37 8),(bQ 38 .lss 36 37),(mQ 39 38),(vQ 40 39 true 2),(vQ 41 39 true 0),(vQ 42 39 true 9),(gQ 43 39 true (.ia 2 (.t 41) (.t 42))),(gQ 44 39 true (.ldn 2 (.t 43))),(vQ 45 39 true 1),⟨some 46,some (some 39,true),(.callv 1 (.t 40) [(.t 44),(.t 45)])⟩,(gQ 47 39 true (.bin .eql (.t 46) (iQ 0))),(oQ 48 (.pick (.t 39) (.t 47) cF)),(mQ 6 35),(mQ 7 48)])
 .ret)))))⟩
theorem jxz:cFn Try.prog 74 = some jkF.erase := by kernel_rfl
def jh6:TFn := ⟨10,1,[.tmp 4],(.seq (.reg [(oQ 4 (.mv cF))])
 (.seq (.reg [(mQ 5 0),(mQ 6 1),(oQ 7 (.uneg (.t 6))),(mQ 8 1),(kQ 9 0 58 [(.t 5),(.t 7),(.t 8)]),(mQ 4 9)])
 .ret))⟩
def jxA:Nat→Ty := tyAt [.un]
abbrev jpH:List PSh := [.one tQ,.one tQ]
abbrev jpI:List PSh := [.one .bool]
theorem jpJ:cFn Try.prog 66 = some jh6.erase := by kernel_rfl
theorem jxB:jan Try.prog 66 = true := by kernel_rfl
def jpK:TFn := ⟨5,1,[.tmp 2],(.seq (.reg [(oQ 2 (.mv cF))])
 (.seq (.reg [(mQ 3 0),(kQ 4 0 11 [(.t 3),(iQ 0),(iQ 1000000000000)]),(mQ 2 4)])
 .ret))⟩
def jxC:Nat→Ty := tyAt [.un]
abbrev jpL:List PSh := [.one tQ]
abbrev jpM:List PSh := [.one .bool]
theorem jxD:cFn Try.prog 79 = some jpK.erase := by kernel_rfl
theorem jxE:jan Try.prog 79 = true := by kernel_rfl
def jpN:TFn := ⟨5,1,[.tmp 2],(.seq (.reg [(oQ 2 (.mv cF))])
 (.seq (.reg [(mQ 3 0),(kQ 4 0 11 [(.t 3),(iQ (-10)),(iQ 10)]),(mQ 2 4)])
 .ret))⟩
def jxF:Nat→Ty := tyAt [.un]
abbrev jpO:List PSh := [.one tQ]
abbrev jpP:List PSh := [.one .bool]
theorem jxG:cFn Try.prog 80 = some jpN.erase := by kernel_rfl
theorem jxH:jan Try.prog 80 = true := by kernel_rfl
def jpQ:TFn := ⟨5,1,[.tmp 2],(.seq (.reg [(oQ 2 (.mv cF))])
 (.seq (.reg [(mQ 3 0),(kQ 4 0 11 [(.t 3),(iQ (-100000)),(iQ 100000)]),(mQ 2 4)])
 .ret))⟩
def jxI:Nat→Ty := tyAt [.un]
abbrev jpR:List PSh := [.one tQ]
abbrev jpS:List PSh := [.one .bool]
theorem jxJ:cFn Try.prog 81 = some jpQ.erase := by kernel_rfl
theorem jxK:jan Try.prog 81 = true := by kernel_rfl
def jh7:TFn := ⟨5,1,[.tmp 2],(.seq (.reg [(oQ 2 (.mv cF))])
 (.seq (.reg [(mQ 3 0),(kQ 4 0 58 [(.t 3),(iQ 0),(iQ 1000000000000)]),(mQ 2 4)])
 .ret))⟩
def jxL:Nat→Ty := tyAt [.un]
abbrev jpT:List PSh := [.one tQ]
abbrev jpU:List PSh := [.one .bool]
theorem jpV:cFn Try.prog 83 = some jh7.erase := by kernel_rfl
theorem jxM:jan Try.prog 83 = true := by kernel_rfl
def jh8:TFn := ⟨5,1,[.tmp 2],(.seq (.reg [(oQ 2 (.mv cF))])
 (.seq (.reg [(mQ 3 0),(kQ 4 0 66 [(.t 3),(iQ 10)]),(mQ 2 4)])
 .ret))⟩
def jxN:Nat→Ty := tyAt [.un]
abbrev jpW:List PSh := [.one tQ]
abbrev jpX:List PSh := [.one .bool]
theorem jpY:cFn Try.prog 82 = some jh8.erase := by kernel_rfl
theorem jxO:jan Try.prog 82 = true := by kernel_rfl
def jh9:TFn := ⟨5,1,[.tmp 2],(.seq (.reg [(oQ 2 (.mv cF))])
 (.seq (.reg [(mQ 3 0),(kQ 4 0 66 [(.t 3),(iQ 100000)]),(mQ 2 4)])
 .ret))⟩
def jxP:Nat→Ty := tyAt [.un]
abbrev jpZ:List PSh := [.one tQ]
abbrev jp0:List PSh := [.one .bool]
theorem jp1:cFn Try.prog 78 = some jh9.erase := by kernel_rfl
theorem jxQ:jan Try.prog 78 = true := by kernel_rfl
def jfG:TFn := ⟨51,0,[.tmp 4,.tmp 5],(.seq (.reg [(oQ 4 (.mv (.c (.p (.int .u64 0))))),(oQ 5 (.mv (.c (.p (.int .u64 0)))))])
 (.seq (.reg [(mQ 14 0),(oQ 15 (.bin .and (.t 14) (.c (.p (.int .u64 4294967295))))),(mQ 6 15)])
 (.seq (.reg [(mQ 16 0),(oQ 17 (.sh false (.t 16) (.c (.p (.int .u64 32))))),(mQ 7 17)])
 (.seq (.reg [(mQ 18 1),(oQ 19 (.bin .and (.t 18) (.c (.p (.int .u64 4294967295))))),(mQ 8 19)])
 (.seq (.reg [(mQ 20 1),(oQ 21 (.sh false (.t 20) (.c (.p (.int .u64 32))))),(mQ 9 21)])
 (.seq (.reg [(mQ 22 6),(mQ 23 8),(bQ 24 .mul 22 23),(mQ 10 24)])
 (.seq (.reg [(mQ 25 7),(mQ 26 8),(bQ 27 .mul 25 26),(mQ 28 10),(oQ 29 (.sh false (.t 28) (.c (.p (.int .u64 32))))),(bQ 30 .add 27 29),(mQ 11 30)])
 (.seq (.reg [(mQ 31 11),(oQ 32 (.bin .and (.t 31) (.c (.p (.int .u64 4294967295))))),(mQ 12 32)])
 (.seq (.reg [(mQ 33 11),(oQ 34 (.sh false (.t 33) (.c (.p (.int .u64 32))))),(mQ 13 34)])
 (.seq (.reg [(mQ 35 12),(mQ 36 6),(mQ 37 9),(bQ 38 .mul 36 37),(bQ 39 .add 35 38),(mQ 12 39)])
 (.seq (.reg [(mQ 40 7),(mQ 41 9),(bQ 42 .mul 40 41),(mQ 43 13),(bQ 44 .add 42 43),(mQ 45 12),(oQ 46 (.sh false (.t 45) (.c (.p (.int .u64 32))))),(bQ 47 .add 44 46),(mQ 4 47)])
 (.seq (.reg [(mQ 48 0),(mQ 49 1),(bQ 50 .mul 48 49),(mQ 5 50)])
 .ret))))))))))))⟩
def jxR:Nat→Ty := tyAt []
abbrev jp2:List PSh := [.one (.int .u64),.one (.int .u64)]
abbrev jp3:List PSh := [.one (.int .u64),.one (.int .u64)]
theorem jkG:cFn Try.prog 86 = some jfG.erase := by kernel_rfl
theorem jxS:jan Try.prog 86 = true := by kernel_rfl
def jia:TFn := ⟨25,0,[.tmp 2],(.seq (.reg [(oQ 2 (.mv (iQ 0)))])
 (.seq (.seq (.reg [(mQ 3 0),(oQ 4 (.bin .geq (.t 3) (.c (.p (.int .u64 4294967296)))))])
 (.cond (.t 4) (.seq (.reg [(mQ 5 0),(oQ 6 (.sh false (.t 5) (.c (.p (.int .u64 32))))),(mQ 0 6)])
 (.reg [(oQ 2 (.mv (iQ 32)))])) .skip))
 (.seq (.seq (.reg [(mQ 7 0),(oQ 8 (.bin .geq (.t 7) (.c (.p (.int .u64 65536)))))])
 (.cond (.t 8) (.seq (.reg [(mQ 9 0),(oQ 10 (.sh false (.t 9) (.c (.p (.int .u64 16))))),(mQ 0 10)])
 (.reg [(mQ 11 2),(cQ 12 .add 11 16),(mQ 2 12)])) .skip))
 (.seq (.seq (.reg [(mQ 13 0),(oQ 14 (.bin .geq (.t 13) (.c (.p (.int .u64 256)))))])
 (.cond (.t 14) (.seq (.reg [(mQ 15 0),(oQ 16 (.sh false (.t 15) (.c (.p (.int .u64 8))))),(mQ 0 16)])
 (.reg [(mQ 17 2),(cQ 18 .add 17 8),(mQ 2 18)])) .skip))
 (.seq (.reg [(mQ 19 2),(mQ 20 0),(oQ 21 (.conv .u8 (.t 20))),⟨some 22,none,(.op (.six (.c (.p (.str ⟨#[0,1,2,2,3,3,3,3,4,4,4,4,4,4,4,4,5,5,5,5,5,5,5,5,5,5,5,5,5,5,5,5,6,6,6,6,6,6,6,6,6,6,6,6,6,6,6,6,6,6,6,6,6,6,6,6,6,6,6,6,6,6,6,6,7,7,7,7,7,7,7,7,7,7,7,7,7,7,7,7,7,7,7,7,7,7,7,7,7,7,7,7,7,7,7,7,7,7,7,7,7,7,7,7,7,7,7,7,7,7,7,7,7,7,7,7,7,7,7,7,7,7,7,7,7,7,7,7,8,8,8,8,8,8,8,8,8,8,8,8,8,8,8,8,8,8,8,8,8,8,8,8,8,8,8,8,8,8,8,8,8,8,8,8,8,8,8,8,8,8,8,8,8,8,8,8,8,8,8,8,8,8,8,8,8,8,8,8,8,8,8,8,8,8,8,8,8,8,8,8,8,8,8,8,8,8,8,8,8,8,8,8,8,8,8,8,8,8,8,8,8,8,8,8,8,8,8,8,8,8,8,8,8,8,8,8,8,8,8,8,8,8,8,8,8,8,8,8,8,8,8,8,8,8,8,8]⟩))) (.t 21)))⟩,(oQ 23 (.conv .i64 (.t 22))),(bQ 24 .add 19 23),(mQ 2 24)])
 .ret)))))⟩
def jxT:Nat→Ty := tyAt []
abbrev jp4:List PSh := [.one (.int .u64)]
abbrev jp5:List PSh := [.one tQ]
theorem jp6:cFn Try.prog 87 = some jia.erase := by kernel_rfl
theorem jxU:jan Try.prog 87 = true := by kernel_rfl
def F_Zm:TFn := ⟨19,1,[.tmp 4],(.seq (.reg [(oQ 4 (.mv (iQ 0)))])
 (.seq (.seq (.reg [(mQ 6 0),(hQ 7 6),(oQ 8 (.mv (iQ 0)))])
 (.block 0 (.loop [.v 8 tQ] [] [] (.seq (.reg [(bQ 9 .lss 8 7)])
 (.seq (.cond (.t 9) .skip (.exit 0))
 (.seq (.block 1 (.seq (.reg [(mQ 10 8),(mQ 5 10)])
 (.seq (.reg [(mQ 11 1),(mQ 12 0),(mQ 13 5),(jQ 14 1 12 13),(lQ 15 14),⟨some 16,none,(.callv 0 (.t 11) [(.t 15)])⟩])
 (.cond (.t 16) (.seq (.reg [(mQ 17 5),(mQ 4 17)])
 .ret) .skip))))
 (.reg [(cQ 18 .add 8 1),(mQ 8 18)])))))))
 (.seq (.reg [(oQ 4 (.mv (iQ (-1))))])
 .ret)))⟩
def A_Zm:Nat→Ty := tyAt [.un]
abbrev P_Zm:List PSh := [.one (.sl tQ),.fn 65 []]
abbrev R_Zm:List PSh := [.one tQ]
theorem e_Zm:cFn Try.prog 88 = some F_Zm.erase := by kernel_rfl
theorem k_Zm:jan Try.prog 88 = true := by kernel_rfl
def F_Zq:TFn := ⟨21,0,[.tmp 2],(.seq (.reg [(oQ 2 (.mv (.c (.p (.sl 0 [] true)))))])
 (.seq (.reg [(mQ 4 0),(hQ 5 4),(mQ 3 5)])
 (.seq (.block 0 (.loop [.v 3 tQ] [] [] (.seq (.seq (.reg [(mQ 6 3),(cQ 7 .gtr 6 0),(mQ 8 7),(vQ 9 8 true 0),(vQ 10 8 true 3),(gQ 11 8 true (.bin .sub (.t 10) (iQ 1))),(gQ 12 8 true (.ia 1 (.t 9) (.t 11))),(gQ 13 8 true (.ld1 (.t 12))),(gQ 14 8 true (.bin .eql (.t 13) (iQ 0))),(oQ 15 (.pick (.t 8) (.t 14) cF))])
 (.cond (.t 15) .skip (.exit 0)))
 (.block 1 (.reg [(mQ 16 3),(cQ 17 .sub 16 1),(mQ 3 17)])))))
 (.seq (.reg [(mQ 18 0),(mQ 19 3),(oQ 20 (.sl 1 (.t 18) none (some (.t 19)))),(mQ 2 20)])
 .ret))))⟩
def A_Zq:Nat→Ty := tyAt []
abbrev P_Zq:List PSh := [.one (.sl tQ)]
abbrev R_Zq:List PSh := [.one (.sl tQ)]
theorem e_Zq:cFn Try.prog 89 = some F_Zq.erase := by kernel_rfl
theorem k_Zq:jan Try.prog 89 = true := by kernel_rfl
def jp7:TFn := ⟨13,0,[.tmp 4],(.seq (.reg [(oQ 4 (.mv (iQ 0)))])
 (.seq (.seq (.reg [(mQ 5 1),(mQ 6 0),(hQ 7 6),(bQ 8 .lss 5 7)])
 (.cond (.t 8) (.seq (.reg [(mQ 9 0),(mQ 10 1),(jQ 11 1 9 10),(lQ 12 11),(mQ 4 12)])
 .ret) .skip))
 (.seq (.reg [(oQ 4 (.mv (iQ 0)))])
 .ret)))⟩
def jxV:Nat→Ty := tyAt []
abbrev jp8:List PSh := [.one (.sl tQ),.one tQ]
abbrev jp9:List PSh := [.one tQ]
theorem jxW:cFn Try.prog 90 = some jp7.erase := by kernel_rfl
theorem jxX:jan Try.prog 90 = true := by kernel_rfl
def jkH:TFn := ⟨9,2,[.tmp 4],(.seq (.reg [(oQ 2 (.box 0 (.t 0))),(oQ 4 (.mv (iQ 0)))])
 (.seq (.reg [(fQ 5 0 2),(lQ 6 5),(mQ 7 1),(kQ 8 1 76 [(.t 6),(.t 7)]),(mQ 4 8)])
 .ret))⟩
theorem jxY:cFn Try.prog 75 = some jkH.erase := by kernel_rfl
def jib:TFn := ⟨6,1,[.tmp 2],(.seq (.reg [(oQ 2 (.mv cF))])
 (.seq (.reg [(mQ 3 0),(kQ 4 0 66 [(.t 3),(iQ 1000000000)]),(oQ 5 (.unot (.t 4))),(mQ 2 5)])
 .ret))⟩
def jxZ:Nat→Ty := tyAt [.un]
abbrev jqa:List PSh := [.one tQ]
abbrev jqb:List PSh := [.one .bool]
theorem jqc:cFn Try.prog 65 = some jib.erase := by kernel_rfl
theorem jx0:jan Try.prog 65 = true := by kernel_rfl
def jkI:TFn := ⟨20,2,[.tmp 4],(.seq (.reg [(oQ 4 (.mv (iQ 0)))])
 (.seq (.reg [(mQ 7 0),(kQ 8 0 91 [(.t 7)]),(mQ 5 8)])
 (.seq (.reg [(mQ 9 1),(kQ 10 1 91 [(.t 9)]),(mQ 6 10)])
 (.seq (.seq (.reg [(mQ 11 5)])
 (.cond (.t 11) (.seq (.seq (.reg [(mQ 12 6)])
 (.cond (.t 12) (.seq (.reg [(oQ 4 (.mv (iQ 0)))])
 .ret) .skip))
 (.seq (.reg [(oQ 4 (.mv (iQ (-1))))])
 .ret)) .skip))
 (.seq (.seq (.reg [(mQ 13 6)])
 (.cond (.t 13) (.seq (.reg [(oQ 4 (.mv (iQ 1)))])
 .ret) .skip))
 (.seq (.seq (.reg [(mQ 14 0),(mQ 15 1),(bQ 16 .lss 14 15)])
 (.cond (.t 16) (.seq (.reg [(oQ 4 (.mv (iQ (-1))))])
 .ret) .skip))
 (.seq (.seq (.reg [(mQ 17 0),(mQ 18 1),(bQ 19 .gtr 17 18)])
 (.cond (.t 19) (.seq (.reg [(oQ 4 (.mv (iQ 1)))])
 .ret) .skip))
 (.seq (.reg [(oQ 4 (.mv (iQ 0)))])
 .ret))))))))⟩
theorem jx1:cFn Try.prog 76 = some jkI.erase := by kernel_rfl
def jkJ:TFn := ⟨6,1,[.tmp 2],(.seq (.reg [(oQ 2 (.mv cF))])
 (.seq (.reg [(mQ 3 0),(kQ 4 0 78 [(.t 3)]),(oQ 5 (.unot (.t 4))),(mQ 2 5)])
 .ret))⟩
theorem jx2:cFn Try.prog 77 = some jkJ.erase := by kernel_rfl
def jkK:TFn := ⟨6,0,[.tmp 2],(.seq (.reg [(oQ 2 (.mv cF))])
 (.seq (.reg [(mQ 3 0),(mQ 4 0),(bQ 5 .neq 3 4),(mQ 2 5)])
 .ret))⟩
theorem jx3:cFn Try.prog 91 = some jkK.erase := by kernel_rfl
end Go.Proofs.Ytcdbaepeabefnaa
