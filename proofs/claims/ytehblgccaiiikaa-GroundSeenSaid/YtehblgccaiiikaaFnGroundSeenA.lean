/- The code of the functions that GroundSeen reaches, as it is walked: each equals what the given program's text gives. -/
import Derived.Test.YtehblgccaiiikaaGg1GroundSeen
import Derived.Test.YtehblgccaiiikaaProg
import Derived.KernelRfl
namespace Go.Proofs.Ytehblgccaiiikaa
open Go Go.Mx
set_option maxRecDepth 100000
abbrev mQ (d x:Nat):AIns := ⟨some d,none,.op (.mv (.t x))⟩
abbrev fQ (d f x:Nat):AIns := ⟨some d,none,.op (.fa f (.t x))⟩
abbrev lQ (d x:Nat):AIns := ⟨some d,none,.op (.ld1 (.t x))⟩
abbrev nQ (d n x:Nat):AIns := ⟨some d,none,.op (.ldn n (.t x))⟩
abbrev hQ (d x:Nat):AIns := ⟨some d,none,.op (.len false (.t x))⟩
abbrev sQ (n x v:Nat):AIns := ⟨none,none,.op (.st n (.t x) (.t v))⟩
abbrev jQ (d k x i:Nat):AIns := ⟨some d,none,.op (.ia k (.t x) (.t i))⟩
abbrev bQ (d:Nat) (b:BinOp) (x y:Nat):AIns := ⟨some d,none,.op (.bin b (.t x) (.t y))⟩
abbrev cQ (d:Nat) (b:BinOp) (x:Nat) (n:Int):AIns := ⟨some d,none,.op (.bin b (.t x) (.c (.p (.int .i64 n))))⟩
abbrev vQ (d g:Nat) (b:Bool) (x:Nat):AIns := ⟨some d,some (some g,b),.op (.mv (.t x))⟩
abbrev cF:Opd := .c (.p (.bool false))
abbrev cT:Opd := .c (.p (.bool true))
abbrev oQ (d:Nat) (o:AOp):AIns := ⟨some d,none,.op o⟩
abbrev uQ (o:AOp):AIns := ⟨none,none,.op o⟩
abbrev gQ (d g:Nat) (b:Bool) (o:AOp):AIns := ⟨some d,some (some g,b),.op o⟩
abbrev kQ (d s f:Nat) (a:List Opd):AIns := ⟨some d,none,.call s f a⟩
abbrev iQ (n:Int):Opd := .c (.p (.int .i64 n))
abbrev zQ:V := .p (.int .i64 0)
abbrev tQ:Ty := .int .i64
abbrev pQ:Ty := .pr tQ tQ
def F_Z0:TFn := ⟨86,13,[.tmp 6],(.seq (.reg [(oQ 3 (.box 0 (.t 0))),(oQ 6 (.mv cF))])
 (.seq (.seq (.reg [(kQ 13 1 12 []),(oQ 14 (.unot (.t 13)))])
 (.cond (.t 14) (.seq (.reg [(oQ 6 (.mv cF))])
 .ret) .skip))
 (.seq (.seq (.reg [(nQ 15 1 3),(kQ 16 2 13 [(.t 15)]),(oQ 17 (.unot (.t 16)))])
 (.cond (.t 17) (.seq (.reg [(oQ 6 (.mv cT))])
 .ret) .skip))
 (.seq (.reg [(nQ 19 1 3),(kQ 20 3 15 [(.t 19)]),(mQ 21 1),(mQ 22 2),(kQ 23 4 57 [(.t 20),(.t 21),(.t 22)]),(mQ 18 23),(oQ 24 (.ext 0 (.t 18))),(oQ 25 (.ext 1 (.t 18))),(mQ 7 24),(mQ 8 25)])
 (.seq (.reg [(nQ 26 1 3),(kQ 27 5 21 [(.t 26)]),(mQ 9 27)])
 (.seq (.seq (.reg [(mQ 28 9),(cQ 29 .eql 28 0)])
 (.cond (.t 29) (.reg [(mQ 30 1),(kQ 31 6 18 [(.t 30)]),(mQ 9 31)]) .skip))
 (.seq (.seq (.reg [(mQ 32 9),(cQ 33 .eql 32 0),(mQ 34 33),(vQ 35 34 true 2),⟨some 36,some (some 34,true),(.call 7 35 [(.t 35),(iQ 0),(iQ 100000)])⟩,(gQ 37 34 true (.unot (.t 36))),(oQ 38 (.pick (.t 34) (.t 37) cF))])
 (.cond (.t 38) (.reg [(oQ 9 (.mv (iQ 2)))]) .skip))
 (.seq (.seq (.reg [(mQ 39 9),(cQ 40 .neq 39 0)])
 (.cond (.t 40) (.seq (.reg [(mQ 41 8),(mQ 42 9),(bQ 43 .eql 41 42),(mQ 44 43),(vQ 45 44 true 7),(gQ 46 44 true (.len false (.t 45))),(gQ 47 44 true (.bin .eql (.t 46) (iQ 0))),(oQ 48 (.pick (.t 44) (.t 47) cF)),(mQ 6 48)])
 .ret) .skip))
 (.seq (.seq (.reg [(mQ 49 8),(cQ 50 .neq 49 0),(mQ 51 50),(vQ 52 51 false 7),(gQ 53 51 false (.ldn 1 (.t 3))),(vQ 54 51 false 1),(vQ 55 51 false 2),⟨some 56,some (some 51,false),(.call 8 59 [(.t 53),(.t 54),(.t 55)])⟩,⟨some 57,some (some 51,false),(.call 9 58 [(.t 52),(.t 56)])⟩,(gQ 58 51 false (.unot (.t 57))),(oQ 59 (.pick (.t 51) cT (.t 58)))])
 (.cond (.t 59) (.seq (.reg [(oQ 6 (.mv cF))])
 .ret) .skip))
 (.seq (.seq (.reg [(mQ 60 2),(cQ 61 .eql 60 100000)])
 (.cond (.t 61) (.seq (.reg [(oQ 6 (.mv cT))])
 .ret) .skip))
 (.seq (.reg [(nQ 63 1 3),(kQ 64 10 15 [(.t 63)]),(mQ 65 1),(mQ 66 2),(cQ 67 .add 66 1),(kQ 68 11 57 [(.t 64),(.t 65),(.t 67)]),(mQ 62 68),(oQ 69 (.ext 0 (.t 62))),(oQ 70 (.ext 1 (.t 62))),(mQ 10 69),(mQ 11 70)])
 (.seq (.seq (.reg [(mQ 71 11),(cQ 72 .neq 71 0)])
 (.cond (.t 72) (.seq (.reg [(oQ 6 (.mv cF))])
 .ret) .skip))
 (.seq (.seq (.reg [(oQ 12 (.mv (iQ 0)))])
 (.block 0 (.loop [.v 12 tQ] [] [] (.seq (.seq (.reg [(mQ 73 12),(mQ 74 10),(hQ 75 74),(bQ 76 .lss 73 75)])
 (.cond (.t 76) .skip (.exit 0)))
 (.seq (.block 1 (.seq (.reg [(mQ 79 7),(mQ 80 10),(mQ 81 12),(jQ 82 1 80 81),(lQ 83 82),(kQ 84 12 51 [(.t 79),(.t 83)]),(oQ 85 (.unot (.t 84)))])
 (.cond (.t 85) (.seq (.reg [(oQ 6 (.mv cF))])
 .ret) .skip)))
 (.reg [(mQ 77 12),(cQ 78 .add 77 1),(mQ 12 78)]))))))
 (.seq (.reg [(oQ 6 (.mv cT))])
 .ret))))))))))))))⟩
def A_Z0:Nat→Ty := tyAt [.un,.un,.un,.un,.un,.un,.un,.un,.un,.un,.un,.un,.un]
abbrev P_Z0:List PSh := [.agg (.sl pQ),.one tQ,.one tQ]
abbrev R_Z0:List PSh := [.one .bool]
theorem e_Z0:cFn Try.prog 10 = some F_Z0.erase := by kernel_rfl
theorem k_Z0:callable Try.prog 10 = true := by kernel_rfl
def F_Z1m:TFn := ⟨65,15,[.tmp 0],(.seq (.reg [(oQ 0 (.mv cF))])
 (.seq (.reg [(kQ 10 0 69 []),(kQ 11 1 16 [(.t 10),(iQ 2)]),(mQ 9 11),(oQ 12 (.ext 0 (.t 9))),(oQ 13 (.ext 1 (.t 9))),(oQ 1 (.newz 2 [zQ,zQ])),(sQ 2 1 12),(mQ 2 13)])
 (.seq (.reg [(kQ 15 3 70 []),(kQ 16 4 71 []),(kQ 17 5 48 [(.t 15),(.t 16)]),(mQ 14 17),(oQ 18 (.ext 0 (.t 14))),(oQ 19 (.ext 1 (.t 14))),(mQ 3 18),(mQ 4 19)])
 (.seq (.reg [(kQ 21 6 70 []),(kQ 22 7 71 []),(kQ 23 8 72 [(.t 21),(.t 22),(iQ 2)]),(mQ 20 23),(oQ 24 (.ext 0 (.t 20))),(oQ 25 (.ext 1 (.t 20))),(oQ 5 (.newz 9 [zQ,zQ])),(sQ 2 5 24),(mQ 6 25)])
 (.seq (.reg [(kQ 27 10 70 []),(kQ 28 11 69 []),(kQ 29 12 32 [(.t 27),(.t 28)]),(mQ 26 29),(oQ 30 (.ext 0 (.t 26))),(oQ 31 (.ext 1 (.t 26))),(mQ 7 30),(mQ 8 31)])
 (.seq (.reg [(mQ 32 2),(cQ 33 .eql 32 0),(mQ 34 33),(gQ 35 34 true (.ldn 2 (.t 1))),(gQ 36 34 true (.build [zQ,zQ] [(0,1,(iQ 8)),(1,1,(iQ 3))])),(gQ 37 34 true (.eqa false 2 [(true,0),(true,1)] (.t 35) (.t 36))),(oQ 38 (.pick (.t 34) (.t 37) cF)),(mQ 39 38),(vQ 40 39 true 4),(gQ 41 39 true (.bin .eql (.t 40) (iQ 0))),(oQ 42 (.pick (.t 39) (.t 41) cF)),(mQ 43 42),(vQ 44 43 true 3),(gQ 45 43 true (.bsl false 13 1 3 [zQ,zQ,zQ] [(0,1,(iQ 1)),(1,1,(iQ 3)),(2,1,(iQ 4))])),⟨some 46,some (some 43,true),(.call 14 58 [(.t 44),(.t 45)])⟩,(oQ 47 (.pick (.t 43) (.t 46) cF)),(mQ 48 47),(vQ 49 48 true 6),(gQ 50 48 true (.bin .eql (.t 49) (iQ 0))),(oQ 51 (.pick (.t 48) (.t 50) cF)),(mQ 52 51),(gQ 53 52 true (.ldn 2 (.t 5))),(gQ 54 52 true (.build [zQ,zQ] [(0,1,(iQ 1)),(1,1,(iQ 4))])),(gQ 55 52 true (.eqa false 2 [(true,0),(true,1)] (.t 53) (.t 54))),(oQ 56 (.pick (.t 52) (.t 55) cF)),(mQ 57 56),(vQ 58 57 true 8),(gQ 59 57 true (.bin .eql (.t 58) (iQ 0))),(oQ 60 (.pick (.t 57) (.t 59) cF)),(mQ 61 60),(vQ 62 61 true 7),(gQ 63 61 true (.bin .eql (.t 62) (iQ 4))),(oQ 64 (.pick (.t 61) (.t 63) cF)),(mQ 0 64)])
 .ret))))))⟩
abbrev P_Z1m:List PSh := []
abbrev R_Z1m:List PSh := [.one .bool]
theorem e_Z1m:cFn Try.prog 12 = some F_Z1m.erase := by kernel_rfl
theorem k_Z1m:callable Try.prog 12 = true := by kernel_rfl
def F_Z1g:TFn := ⟨7,1,[.tmp 2],(.seq (.reg [(oQ 1 (.box 0 (.t 0))),(oQ 2 (.mv cF))])
 (.seq (.reg [(fQ 3 0 1),(lQ 4 3),(hQ 5 4),(cQ 6 .leq 5 6),(mQ 2 6)])
 .ret))⟩
def A_Z1g:Nat→Ty := tyAt [.un]
abbrev P_Z1g:List PSh := [.agg (.sl pQ)]
abbrev R_Z1g:List PSh := [.one .bool]
theorem e_Z1g:cFn Try.prog 13 = some F_Z1g.erase := by kernel_rfl
theorem k_Z1g:callable Try.prog 13 = true := by kernel_rfl
def F_Z1f:TFn := ⟨8,4,[.celln 2 1],(.seq (.reg [(oQ 1 (.box 0 (.t 0))),(oQ 2 (.newz 1 [(.p (.sl 0 [] true))]))])
 (.seq (.reg [(oQ 3 (.bsl true 2 2 0 [] [])),(fQ 4 0 1),(lQ 5 4),(oQ 6 (.app 3 2 16 (.t 3) (.t 5))),(oQ 7 (.build [(.p (.sl 0 [] true))] [(0,1,(.t 6))])),(sQ 1 2 7)])
 .ret))⟩
def A_Z1f:Nat→Ty := tyAt [.un,.un,pQ,pQ]
abbrev P_Z1f:List PSh := [.agg (.sl pQ)]
abbrev E_Z1f:Ty := pQ
theorem e_Z1f:cFn Try.prog 15 = some F_Z1f.erase := by kernel_rfl
theorem k_Z1f:callable Try.prog 15 = true := by kernel_rfl
def F_Z6:TFn := ⟨62,12,[.tmp 2,.tmp 3],(.seq (.reg [(oQ 1 (.box 0 (.t 0))),(oQ 2 (.mv (iQ 0))),(oQ 3 (.mv (iQ 0)))])
 (.seq (.seq (.regd [(fQ 9 0 1),(lQ 10 9),(hQ 11 10),(cQ 12 .gtr 11 0),(kQ 13 1 74 [(.t 12),(iQ 10)]),(fQ 14 0 1),(lQ 15 14),(hQ 16 15),(cQ 17 .leq 16 4),(kQ 18 2 74 [(.t 17),(iQ 8)]),(oQ 19 (.bsl false 3 1 2 [zQ,zQ] [(0,1,(.t 13)),(1,1,(.t 18))])),(kQ 20 4 73 [(.t 19)]),(mQ 4 20)] [(1,6),(4,6)] [])
 (.seq (.reg [(mQ 21 4),(cQ 22 .neq 21 0)])
 (.cond (.t 22) (.seq (.reg [(mQ 23 4),(oQ 2 (.mv (iQ 0))),(mQ 3 23)])
 .ret) .skip)))
 (.seq (.seq (.reg [(fQ 24 0 1),(lQ 25 24),(hQ 26 25),(oQ 27 (.mv (iQ 0)))])
 (.block 0 (.loop [.v 27 tQ] [5] [5] (.seq (.reg [(bQ 28 .lss 27 26)])
 (.seq (.cond (.t 28) .skip (.exit 0))
 (.seq (.block 1 (.seq (.reg [(mQ 29 27),(jQ 30 2 25 27),(nQ 31 2 30),(oQ 6 (.newz 5 [zQ,zQ])),(mQ 5 29),(sQ 2 6 31)])
 (.seq (.reg [(mQ 32 5),(fQ 33 0 1),(lQ 34 33),(hQ 35 34),(cQ 36 .sub 35 1),(bQ 37 .eql 32 36),(mQ 7 37)])
 (.seq (.reg [(fQ 38 0 6),(lQ 39 38),(kQ 40 6 75 [(.t 39)]),(mQ 41 40),(gQ 42 41 true (.fa 1 (.t 6))),(gQ 43 41 true (.ld1 (.t 42))),⟨some 44,some (some 41,true),(.call 7 76 [(.t 43)])⟩,(oQ 45 (.pick (.t 41) (.t 44) cF)),(kQ 46 8 74 [(.t 45),(iQ 2)]),(mQ 47 7),(oQ 48 (.unot (.t 47))),(mQ 49 48),(gQ 50 49 false (.fa 1 (.t 6))),(gQ 51 49 false (.ld1 (.t 50))),(gQ 52 49 false (.bin .eql (.t 51) (iQ 0))),(oQ 53 (.pick (.t 49) cT (.t 52))),(kQ 54 9 74 [(.t 53),(iQ 3)]),(oQ 55 (.bsl false 10 1 2 [zQ,zQ] [(0,1,(.t 46)),(1,1,(.t 54))])),(kQ 56 11 73 [(.t 55)]),(mQ 8 56)])
 (.seq (.reg [(mQ 57 8),(cQ 58 .neq 57 0)])
 (.cond (.t 58) (.seq (.reg [(mQ 59 5),(mQ 60 8),(mQ 2 59),(mQ 3 60)])
 .ret) .skip))))))
 (.reg [(cQ 61 .add 27 1),(mQ 27 61)])))))))
 (.seq (.reg [(oQ 2 (.mv (iQ 0))),(oQ 3 (.mv (iQ 0)))])
 .ret))))⟩
def A_Z6:Nat→Ty := tyAt [.un,.un,.un,tQ,.un,.un,.un,.un,.un,.un,tQ,.un]
abbrev P_Z6:List PSh := [.agg (.sl pQ)]
abbrev R_Z6:List PSh := [.one tQ,.one tQ]
theorem e_Z6:cFn Try.prog 14 = some F_Z6.erase := by kernel_rfl
theorem k_Z6:callable Try.prog 14 = true := by kernel_rfl
def F_Z1o:TFn := ⟨24,8,[.celln 4 2,.tmp 5],(.seq (.reg [(oQ 2 (.box 0 (.t 0))),(oQ 4 (.newz 1 [zQ,zQ])),(oQ 5 (.mv (iQ 0)))])
 (.seq (.seq (.reg [(nQ 7 1 2),(kQ 8 2 77 [(.t 7)]),(mQ 9 1),(kQ 10 3 78 [(.t 9)]),(oQ 11 (.bsl false 4 1 2 [zQ,zQ] [(0,1,(.t 8)),(1,1,(.t 10))])),(kQ 12 5 73 [(.t 11)]),(mQ 6 12)])
 (.seq (.reg [(mQ 13 6),(cQ 14 .neq 13 0)])
 (.cond (.t 14) (.seq (.reg [(oQ 15 (.build [zQ,zQ] [])),(mQ 16 6),(sQ 2 4 15),(mQ 5 16)])
 .ret) .skip)))
 (.seq (.reg [(fQ 17 0 2),(lQ 18 17),(mQ 19 1),(kQ 20 6 79 [(.t 18),(.t 19)]),(kQ 21 7 80 [(.t 20)]),(oQ 22 (.ext 0 (.t 21))),(oQ 23 (.ext 1 (.t 21))),(sQ 2 4 22),(mQ 5 23)])
 .ret)))⟩
theorem e_Z1o:cFn Try.prog 16 = some F_Z1o.erase := by kernel_rfl
def F_Z4:TFn := ⟨55,3,[.tmp 2,.tmp 3],(.seq (.reg [(oQ 1 (.box 0 (.t 0))),(oQ 2 (.mv (iQ 0))),(oQ 3 (.mv (iQ 0)))])
 (.seq (.seq (.reg [(fQ 5 0 1),(lQ 6 5),(hQ 7 6),(cQ 8 .eql 7 0)])
 (.cond (.t 8) (.seq (.reg [(oQ 2 (.mv (iQ 0))),(oQ 3 (.mv (iQ 10)))])
 .ret) .skip))
 (.seq (.seq (.reg [(fQ 9 0 1),(lQ 10 9),(hQ 11 10),(cQ 12 .gtr 11 4)])
 (.cond (.t 12) (.seq (.reg [(oQ 2 (.mv (iQ 0))),(oQ 3 (.mv (iQ 8)))])
 .ret) .skip))
 (.seq (.seq (.reg [(oQ 4 (.mv (iQ 0)))])
 (.block 0 (.loop [.v 4 tQ] [] [] (.seq (.seq (.reg [(mQ 13 4),(fQ 14 0 1),(lQ 15 14),(hQ 16 15),(bQ 17 .lss 13 16)])
 (.cond (.t 17) .skip (.exit 0)))
 (.seq (.block 1 (.seq (.seq (.reg [(fQ 20 0 1),(lQ 21 20),(mQ 22 4),(jQ 23 2 21 22),(fQ 24 0 23),(lQ 25 24),(kQ 26 1 81 [(.t 25)]),(oQ 27 (.unot (.t 26))),(mQ 28 27),(gQ 29 28 false (.fa 0 (.t 1))),(gQ 30 28 false (.ld1 (.t 29))),(vQ 31 28 false 4),(gQ 32 28 false (.ia 2 (.t 30) (.t 31))),(gQ 33 28 false (.fa 1 (.t 32))),(gQ 34 28 false (.ld1 (.t 33))),⟨some 35,some (some 28,false),(.call 2 82 [(.t 34)])⟩,(gQ 36 28 false (.unot (.t 35))),(oQ 37 (.pick (.t 28) cT (.t 36)))])
 (.cond (.t 37) (.seq (.reg [(mQ 38 4),(mQ 2 38),(oQ 3 (.mv (iQ 2)))])
 .ret) .skip))
 (.seq (.reg [(mQ 39 4),(fQ 40 0 1),(lQ 41 40),(hQ 42 41),(cQ 43 .sub 42 1),(bQ 44 .eql 39 43),(mQ 45 44),(gQ 46 45 true (.fa 0 (.t 1))),(gQ 47 45 true (.ld1 (.t 46))),(vQ 48 45 true 4),(gQ 49 45 true (.ia 2 (.t 47) (.t 48))),(gQ 50 45 true (.fa 1 (.t 49))),(gQ 51 45 true (.ld1 (.t 50))),(gQ 52 45 true (.bin .neq (.t 51) (iQ 0))),(oQ 53 (.pick (.t 45) (.t 52) cF))])
 (.cond (.t 53) (.seq (.reg [(mQ 54 4),(mQ 2 54),(oQ 3 (.mv (iQ 3)))])
 .ret) .skip))))
 (.reg [(mQ 18 4),(cQ 19 .add 18 1),(mQ 4 19)]))))))
 (.seq (.reg [(oQ 2 (.mv (iQ 0))),(oQ 3 (.mv (iQ 0)))])
 .ret)))))⟩
def A_Z4:Nat→Ty := tyAt [.un,.un,.un]
abbrev P_Z4:List PSh := [.agg (.sl pQ)]
abbrev R_Z4:List PSh := [.one tQ,.one tQ]
theorem e_Z4:cFn Try.prog 17 = some F_Z4.erase := by kernel_rfl
theorem k_Z4:callable Try.prog 17 = true := by kernel_rfl
def F_Z1h:TFn := ⟨6,1,[.tmp 2],(.seq (.reg [(oQ 2 (.mv (iQ 0)))])
 (.seq (.seq (.reg [(mQ 3 0),(kQ 4 0 35 [(.t 3),(iQ 1),(iQ 20)]),(oQ 5 (.unot (.t 4)))])
 (.cond (.t 5) (.seq (.reg [(oQ 2 (.mv (iQ 2)))])
 .ret) .skip))
 (.seq (.reg [(oQ 2 (.mv (iQ 0)))])
 .ret)))⟩
def A_Z1h:Nat→Ty := tyAt [.un]
abbrev P_Z1h:List PSh := [.one tQ]
abbrev R_Z1h:List PSh := [.one tQ]
theorem e_Z1h:cFn Try.prog 18 = some F_Z1h.erase := by kernel_rfl
theorem k_Z1h:callable Try.prog 18 = true := by kernel_rfl
def F_Z2:TFn := ⟨59,16,[.celln 4 4],(.seq (.reg [(oQ 2 (.box 0 (.t 0))),(oQ 4 (.newz 1 [zQ,(.p (.sl 0 [] true)),zQ,(.p (.sl 0 [] true))]))])
 (.seq (.reg [(fQ 12 0 2),(lQ 13 12),(hQ 14 13),(mQ 5 14)])
 (.seq (.reg [(fQ 15 0 2),(lQ 16 15),(mQ 17 5),(cQ 18 .sub 17 1),(jQ 19 2 16 18),(fQ 20 0 19),(lQ 21 20),(kQ 22 2 84 [(.t 21)]),(oQ 6 (.newz 3 [zQ,(.p (.sl 0 [] true)),zQ,(.p (.sl 0 [] true))])),(sQ 4 6 22)])
 (.seq (.seq (.reg [(mQ 23 5),(cQ 24 .sub 23 2),(mQ 7 24)])
 (.block 0 (.loop [.v 7 tQ,.c 3 (.pr tQ (.pr (.sl tQ) (.pr tQ (.sl tQ))))] [3,4,7,8,12] [4,7,8,12] (.seq (.seq (.reg [(mQ 25 7),(cQ 26 .geq 25 0)])
 (.cond (.t 26) .skip (.exit 0)))
 (.seq (.block 1 (.seq (.reg [(fQ 29 0 2),(lQ 30 29),(mQ 31 7),(jQ 32 2 30 31),(nQ 33 2 32),(oQ 8 (.newz 4 [zQ,zQ])),(sQ 2 8 33)])
 (.seq (.regd [(fQ 34 0 8),(lQ 35 34),(kQ 36 5 84 [(.t 35)]),(fQ 37 1 8),(lQ 38 37),(fQ 39 1 8),(lQ 40 39),(mQ 41 1),(bQ 42 .add 40 41),(kQ 43 6 85 [(.t 38),(.t 42)]),(oQ 9 (.newz 7 [zQ,(.p (.sl 0 [] true)),zQ,(.p (.sl 0 [] true))])),(oQ 10 (.newz 8 [zQ,(.p (.sl 0 [] true)),zQ,(.p (.sl 0 [] true))])),(sQ 4 9 36),(sQ 4 10 43)] [(1,4),(2,4),(1,6),(2,6),(4,6),(1,10),(2,10),(4,10),(6,10),(9,10),(1,11),(2,11),(4,11),(6,11),(9,11),(10,11)] [])
 (.seq (.regd [(nQ 44 4 9),(nQ 45 4 6),(nQ 46 4 9),(nQ 47 4 10),(kQ 48 9 86 [(.t 46),(.t 47)]),(kQ 49 10 87 [(.t 45),(.t 48)]),(kQ 50 11 86 [(.t 44),(.t 49)]),(oQ 11 (.newz 12 [zQ,(.p (.sl 0 [] true)),zQ,(.p (.sl 0 [] true))])),(sQ 4 11 50)] [(0,1),(0,2),(1,2),(0,3),(1,3),(2,3),(0,4),(1,4),(0,5),(0,7),(1,7),(2,7),(3,7),(4,7),(5,7),(6,7)] [])
 (.regd [(nQ 51 4 11),(nQ 52 4 9),(nQ 53 4 6),(nQ 54 4 10),(kQ 55 13 86 [(.t 53),(.t 54)]),(kQ 56 14 87 [(.t 52),(.t 55)]),(kQ 57 15 88 [(.t 51),(.t 56)]),(sQ 4 6 57)] [(0,1),(0,2),(1,2),(0,3),(1,3),(2,3),(0,4),(1,4),(0,5)] [])))))
 (.reg [(mQ 27 7),(cQ 28 .sub 27 1),(mQ 7 28)]))))))
 (.seq (.reg [(nQ 58 4 6),(sQ 4 4 58)])
 .ret)))))⟩
def A_Z2:Nat→Ty := tyAt [.un,.un,.un,.un,.un,.un,.un,.un,.un,.un,.un,.un,.un,.un,.un,.un]
abbrev P_Z2:List PSh := [.agg (.sl pQ),.one tQ]
abbrev R_Z2:List PSh := [.agg (.pr (.pr tQ (.sl tQ)) (.pr tQ (.sl tQ)))]
theorem e_Z2:cFn Try.prog 20 = some F_Z2.erase := by kernel_rfl
theorem k_Z2:callable Try.prog 20 = true := by kernel_rfl
def F_Z1i:TFn := ⟨11,2,[.tmp 2],(.seq (.reg [(oQ 1 (.box 0 (.t 0))),(oQ 2 (.mv (iQ 0)))])
 (.seq (.reg [(nQ 6 1 1),(kQ 7 1 17 [(.t 6)]),(mQ 5 7),(oQ 8 (.ext 0 (.t 5))),(oQ 9 (.ext 1 (.t 5))),(mQ 3 8),(mQ 4 9)])
 (.seq (.reg [(mQ 10 4),(mQ 2 10)])
 .ret)))⟩
def A_Z1i:Nat→Ty := tyAt [.un,.un]
abbrev P_Z1i:List PSh := [.agg (.sl pQ)]
abbrev R_Z1i:List PSh := [.one tQ]
theorem e_Z1i:cFn Try.prog 21 = some F_Z1i.erase := by kernel_rfl
theorem k_Z1i:callable Try.prog 21 = true := by kernel_rfl
def F_Z1p:TFn := ⟨84,15,[.tmp 2,.tmp 3],(.seq (.reg [(oQ 1 (.box 0 (.t 0))),(oQ 2 (.mv (iQ 0))),(oQ 3 (.mv (iQ 0)))])
 (.seq (.seq (.regd [(fQ 10 0 1),(lQ 11 10),(hQ 12 11),(cQ 13 .gtr 12 0),(kQ 14 1 74 [(.t 13),(iQ 10)]),(fQ 15 0 1),(lQ 16 15),(hQ 17 16),(cQ 18 .leq 17 4),(kQ 19 2 74 [(.t 18),(iQ 8)]),(oQ 20 (.bsl false 3 1 2 [zQ,zQ] [(0,1,(.t 14)),(1,1,(.t 19))])),(kQ 21 4 73 [(.t 20)]),(mQ 4 21)] [(1,6),(4,6)] [])
 (.seq (.reg [(mQ 22 4),(cQ 23 .neq 22 0)])
 (.cond (.t 23) (.seq (.reg [(mQ 24 4),(oQ 2 (.mv (iQ 0))),(mQ 3 24)])
 .ret) .skip)))
 (.seq (.reg [(oQ 5 (.mv (iQ 1)))])
 (.seq (.seq (.reg [(fQ 25 0 1),(lQ 26 25),(hQ 27 26),(oQ 28 (.mv (iQ 0)))])
 (.block 0 (.loop [.v 28 tQ,.v 5 tQ] [5] [5] (.seq (.reg [(bQ 29 .lss 28 27)])
 (.seq (.cond (.t 29) .skip (.exit 0))
 (.seq (.block 1 (.seq (.reg [(mQ 30 28),(jQ 31 2 26 28),(nQ 32 2 31),(oQ 7 (.newz 5 [(.p (.sl 0 [] true)),(.p (.sl 0 [] true))])),(mQ 6 30),(sQ 2 7 32)])
 (.seq (.reg [(mQ 33 6),(fQ 34 0 1),(lQ 35 34),(hQ 36 35),(cQ 37 .sub 36 1),(bQ 38 .eql 33 37),(mQ 8 38)])
 (.seq (.regd [(fQ 39 0 7),(lQ 40 39),(hQ 41 40),(cQ 42 .gtr 41 0),(mQ 43 42),(gQ 44 43 true (.fa 1 (.t 7))),(gQ 45 43 true (.ld1 (.t 44))),(gQ 46 43 true (.len false (.t 45))),(gQ 47 43 true (.bin .gtr (.t 46) (iQ 0))),(oQ 48 (.pick (.t 43) (.t 47) cF)),(kQ 49 6 74 [(.t 48),(iQ 10)]),(fQ 50 0 7),(lQ 51 50),(kQ 52 7 91 [(.t 51),(.c (.clo 75 []))]),(fQ 53 1 7),(lQ 54 53),(kQ 55 8 91 [(.t 54),(.c (.clo 76 []))]),(mQ 56 8),(oQ 57 (.unot (.t 56))),(mQ 58 57),(gQ 59 58 false (.fa 1 (.t 7))),(gQ 60 58 false (.ld1 (.t 59))),(gQ 61 58 false (.bsl false 9 1 1 [zQ] [(0,1,(iQ 0))])),⟨some 62,some (some 58,false),(.call 10 92 [(.t 60),(.t 61)])⟩,(oQ 63 (.pick (.t 58) cT (.t 62))),(kQ 64 11 74 [(.t 63),(iQ 3)]),(oQ 65 (.bsl false 12 1 4 [zQ,zQ,zQ,zQ] [(0,1,(.t 49)),(1,1,(.t 52)),(2,1,(.t 55)),(3,1,(.t 64))])),(kQ 66 13 73 [(.t 65)]),(mQ 9 66)] [(1,12),(6,12),(10,12),(1,15),(6,15),(10,15),(12,15),(13,15)] [])
 (.seq (.seq (.reg [(mQ 67 9),(cQ 68 .neq 67 0)])
 (.cond (.t 68) (.seq (.reg [(mQ 69 6),(mQ 70 9),(mQ 2 69),(mQ 3 70)])
 .ret) .skip))
 (.reg [(mQ 71 5),(fQ 72 0 7),(lQ 73 72),(hQ 74 73),(fQ 75 1 7),(lQ 76 75),(hQ 77 76),(bQ 78 .mul 74 77),(bQ 79 .mul 71 78),(mQ 5 79)]))))))
 (.reg [(cQ 80 .add 28 1),(mQ 28 80)])))))))
 (.seq (.reg [(mQ 81 5),(cQ 82 .leq 81 300),(kQ 83 14 74 [(.t 82),(iQ 16)]),(oQ 2 (.mv (iQ 0))),(mQ 3 83)])
 .ret)))))⟩
theorem e_Z1p:cFn Try.prog 28 = some F_Z1p.erase := by kernel_rfl
def F_Z1q:TFn := ⟨33,11,[.cell1 4,.cell1 5],(.seq (.reg [(oQ 2 (.box 0 (.t 0))),(oQ 3 (.box 1 (.t 1))),(oQ 4 (.newz 2 [zQ])),(oQ 5 (.newz 3 [zQ]))])
 (.seq (.reg [(nQ 11 1 2),(kQ 12 4 93 [(.t 11)]),(mQ 10 12),(oQ 13 (.ext 0 (.t 10))),(oQ 14 (.ext 1 (.t 10))),(oQ 6 (.newz 5 [(.p (.sl 0 [] true))])),(sQ 1 6 13),(mQ 7 14)])
 (.seq (.seq (.reg [(mQ 15 7),(nQ 16 1 3),(kQ 17 6 77 [(.t 16)]),(oQ 18 (.bsl false 7 1 2 [zQ,zQ] [(0,1,(.t 15)),(1,1,(.t 17))])),(kQ 19 8 73 [(.t 18)]),(mQ 7 19)])
 (.seq (.reg [(mQ 20 7),(cQ 21 .neq 20 0)])
 (.cond (.t 21) (.seq (.reg [(mQ 22 7),(uQ (.st 1 (.t 4) (iQ 0))),(sQ 1 5 22)])
 .ret) .skip)))
 (.seq (.seq (.reg [(nQ 23 1 6),(oQ 24 (.bnd 1000000097 (.t 23)))])
 (.block 0 (.rng (.t 24) [25,26] [25,26,8,9,27,28,29,30,31,32] [] [9] [9] (.seq (.reg [(mQ 8 25)])
 (.reg [(oQ 9 (.newz 9 [(.p (.sl 0 [] true))])),(sQ 1 9 26)]))
 (.block 1 (.seq (.reg [(fQ 27 0 9),(lQ 28 27),(fQ 29 0 3),(lQ 30 29),(kQ 31 10 98 [(.t 28),(.t 30)])])
 (.cond (.t 31) (.seq (.reg [(mQ 32 8),(sQ 1 4 32),(uQ (.st 1 (.t 5) (iQ 0)))])
 .ret) .skip))))))
 (.seq (.reg [(uQ (.st 1 (.t 4) (iQ 0))),(uQ (.st 1 (.t 5) (iQ 6)))])
 .ret)))))⟩
theorem e_Z1q:cFn Try.prog 32 = some F_Z1q.erase := by kernel_rfl
def F_Z1:TFn := ⟨15,0,[.tmp 6],(.seq (.reg [(oQ 6 (.mv cF))])
 (.seq (.reg [(mQ 7 1),(mQ 8 0),(bQ 9 .leq 7 8),(mQ 10 9),(vQ 11 10 true 0),(vQ 12 10 true 2),(gQ 13 10 true (.bin .leq (.t 11) (.t 12))),(oQ 14 (.pick (.t 10) (.t 13) cF)),(mQ 6 14)])
 .ret))⟩
def A_Z1:Nat→Ty := tyAt []
abbrev P_Z1:List PSh := [.one tQ,.one tQ,.one tQ]
abbrev R_Z1:List PSh := [.one .bool]
theorem e_Z1:cFn Try.prog 35 = some F_Z1.erase := by kernel_rfl
theorem k_Z1:callable Try.prog 35 = true := by kernel_rfl
def F_Z1r:TFn := ⟨20,4,[.tmp 4,.tmp 5],(.seq (.reg [(oQ 2 (.box 0 (.t 0))),(oQ 4 (.mv (.c (.p (.sl 0 [] true))))),(oQ 5 (.mv (iQ 0)))])
 (.seq (.reg [(nQ 9 1 2),(mQ 10 1),(kQ 11 1 107 [(.t 9),(.t 10)]),(mQ 8 11),(oQ 12 (.ext 0 (.t 8))),(oQ 13 (.ext 1 (.t 8))),(oQ 6 (.newz 2 [(.p (.sl 0 [] true))])),(sQ 1 6 12),(mQ 7 13)])
 (.seq (.seq (.reg [(mQ 14 7),(cQ 15 .neq 14 0)])
 (.cond (.t 15) (.seq (.reg [(mQ 16 7),(oQ 4 (.mv (.c (.p (.sl 0 [] true))))),(mQ 5 16)])
 .ret) .skip))
 (.seq (.reg [(nQ 17 1 6),(mQ 18 1),(kQ 19 3 108 [(.t 17),(.t 18)]),(mQ 4 19),(oQ 5 (.mv (iQ 0)))])
 .ret))))⟩
theorem e_Z1r:cFn Try.prog 48 = some F_Z1r.erase := by kernel_rfl
def F_Zn:TFn := ⟨18,0,[.tmp 4],(.seq (.reg [(oQ 4 (.mv cF))])
 (.seq (.seq (.reg [(oQ 5 (.mv (iQ 0)))])
 (.block 0 (.loop [.v 5 tQ] [] [] (.seq (.seq (.reg [(mQ 6 5),(mQ 7 0),(hQ 8 7),(bQ 9 .lss 6 8)])
 (.cond (.t 9) .skip (.exit 0)))
 (.seq (.block 1 (.seq (.reg [(mQ 12 0),(mQ 13 5),(jQ 14 1 12 13),(lQ 15 14),(mQ 16 1),(bQ 17 .eql 15 16)])
 (.cond (.t 17) (.seq (.reg [(oQ 4 (.mv cT))])
 .ret) .skip)))
 (.reg [(mQ 10 5),(cQ 11 .add 10 1),(mQ 5 11)]))))))
 (.seq (.reg [(oQ 4 (.mv cF))])
 .ret)))⟩
def A_Zn:Nat→Ty := tyAt []
abbrev P_Zn:List PSh := [.one (.sl tQ),.one tQ]
abbrev R_Zn:List PSh := [.one .bool]
theorem e_Zn:cFn Try.prog 51 = some F_Zn.erase := by kernel_rfl
theorem k_Zn:callable Try.prog 51 = true := by kernel_rfl
def F_Z1s:TFn := ⟨77,12,[.tmp 2,.tmp 3],(.seq (.reg [(oQ 2 (.mv (iQ 0))),(oQ 3 (.mv (iQ 0)))])
 (.seq (.seq (.reg [(mQ 10 0),(hQ 11 10),(cQ 12 .gtr 11 0),(kQ 13 0 74 [(.t 12),(iQ 10)]),(mQ 14 0),(hQ 15 14),(cQ 16 .leq 15 6),(kQ 17 1 74 [(.t 16),(iQ 8)]),(oQ 18 (.bsl false 2 1 2 [zQ,zQ] [(0,1,(.t 13)),(1,1,(.t 17))])),(kQ 19 3 73 [(.t 18)]),(mQ 4 19)])
 (.seq (.reg [(mQ 20 4),(cQ 21 .neq 20 0)])
 (.cond (.t 21) (.seq (.reg [(mQ 22 4),(oQ 2 (.mv (iQ 0))),(mQ 3 22)])
 .ret) .skip)))
 (.seq (.reg [(oQ 5 (.mv (.c (.clo 110 []))))])
 (.seq (.seq (.reg [(mQ 23 0),(hQ 24 23),(oQ 25 (.mv (iQ 0)))])
 (.block 0 (.loop [.v 25 tQ] [4] [4] (.seq (.reg [(bQ 26 .lss 25 24)])
 (.seq (.cond (.t 26) .skip (.exit 0))
 (.seq (.block 1 (.seq (.reg [(mQ 27 25),(jQ 28 3 23 25),(nQ 29 3 28),(oQ 7 (.newz 4 [zQ,zQ,zQ])),(mQ 6 27),(sQ 3 7 29)])
 (.seq (.regd [(mQ 30 6),(cQ 31 .eql 30 0),(mQ 32 31),(gQ 33 32 false (.fa 0 (.t 7))),(gQ 34 32 false (.ld1 (.t 33))),(vQ 35 32 false 0),(vQ 36 32 false 6),(gQ 37 32 false (.bin .sub (.t 36) (iQ 1))),(gQ 38 32 false (.ia 3 (.t 35) (.t 37))),(gQ 39 32 false (.fa 0 (.t 38))),(gQ 40 32 false (.ld1 (.t 39))),(gQ 41 32 false (.bin .gtr (.t 34) (.t 40))),(oQ 42 (.pick (.t 32) cT (.t 41))),(mQ 8 42)] [(4,10)] [])
 (.seq (.regd [(fQ 43 0 7),(lQ 44 43),(kQ 45 5 78 [(.t 44)]),(mQ 46 5),(fQ 47 1 7),(fQ 48 0 47),(lQ 49 48),⟨some 50,none,(.callv 6 (.t 46) [(.t 49)])⟩,(mQ 51 50),(vQ 52 51 true 5),(gQ 53 51 true (.fa 1 (.t 7))),(gQ 54 51 true (.fa 1 (.t 53))),(gQ 55 51 true (.ld1 (.t 54))),⟨some 56,some (some 51,true),(.callv 7 (.t 52) [(.t 55)])⟩,(oQ 57 (.pick (.t 51) (.t 56) cF)),(kQ 58 8 74 [(.t 57),(iQ 2)]),(fQ 59 1 7),(fQ 60 0 59),(lQ 61 60),(fQ 62 1 7),(fQ 63 1 62),(lQ 64 63),(bQ 65 .leq 61 64),(mQ 66 65),(vQ 67 66 true 8),(oQ 68 (.pick (.t 66) (.t 67) cF)),(kQ 69 9 74 [(.t 68),(iQ 9)]),(oQ 70 (.bsl false 10 1 3 [zQ,zQ,zQ] [(0,1,(.t 45)),(1,1,(.t 58)),(2,1,(.t 69))])),(kQ 71 11 73 [(.t 70)]),(mQ 9 71)] [(1,6),(2,6),(1,18),(2,18),(6,18),(7,18),(12,18),(13,18),(15,18),(1,21),(2,21),(6,21),(7,21),(12,21),(13,21),(15,21),(18,21)] [])
 (.seq (.reg [(mQ 72 9),(cQ 73 .neq 72 0)])
 (.cond (.t 73) (.seq (.reg [(mQ 74 6),(mQ 75 9),(mQ 2 74),(mQ 3 75)])
 .ret) .skip))))))
 (.reg [(cQ 76 .add 25 1),(mQ 25 76)])))))))
 (.seq (.reg [(oQ 2 (.mv (iQ 0))),(oQ 3 (.mv (iQ 0)))])
 .ret)))))⟩
theorem e_Z1s:cFn Try.prog 52 = some F_Z1s.erase := by kernel_rfl
def F_Ze:TFn := ⟨62,16,[.tmp 6,.tmp 7],(.seq (.reg [(oQ 3 (.box 0 (.t 0))),(oQ 4 (.box 1 (.t 1))),(oQ 6 (.mv (.c (.p (.sl 0 [] true))))),(oQ 7 (.mv (iQ 0)))])
 (.seq (.seq (.regd [(nQ 14 1 3),(kQ 15 2 77 [(.t 14)]),(lQ 16 4),(kQ 17 3 78 [(.t 16)]),(mQ 18 2),(kQ 19 4 95 [(.t 18),(iQ 0),(iQ 100000)]),(kQ 20 5 74 [(.t 19),(iQ 2)]),(oQ 21 (.bsl false 6 1 3 [zQ,zQ,zQ] [(0,1,(.t 15)),(1,1,(.t 17)),(2,1,(.t 20))])),(kQ 22 7 73 [(.t 21)]),(mQ 8 22)] [(0,2),(1,2)] [])
 (.seq (.reg [(mQ 23 8),(cQ 24 .neq 23 0)])
 (.cond (.t 24) (.seq (.reg [(mQ 25 8),(oQ 6 (.mv (.c (.p (.sl 0 [] true))))),(mQ 7 25)])
 .ret) .skip)))
 (.seq (.reg [(oQ 9 (.mv (.c (.p (.sl 0 [] true)))))])
 (.seq (.seq (.reg [(fQ 26 0 3),(lQ 27 26),(hQ 28 27),(oQ 29 (.mv (iQ 0)))])
 (.block 0 (.frz [0,1] (.loop [.v 29 tQ,.o 9 15 tQ] [15,8,11,12] [15,8,11,12] (.seq (.reg [(bQ 30 .lss 29 28)])
 (.seq (.cond (.t 30) .skip (.exit 0))
 (.seq (.block 1 (.seq (.reg [(mQ 31 29),(oQ 10 (.newz 8 [zQ])),(sQ 1 10 31)])
 (.seq (.reg [(oQ 32 (.clo 114 [(.t 3),(.t 10),(.t 4)])),(mQ 11 32)])
 (.seq (.reg [(mQ 33 11),⟨some 34,none,(.callv 9 (.t 33) [(iQ 1)])⟩,(mQ 35 11),⟨some 36,none,(.callv 10 (.t 35) [(iQ 20)])⟩,(oQ 12 (.newz 11 [zQ,zQ])),(oQ 13 (.newz 12 [zQ,zQ])),(sQ 2 12 34),(sQ 2 13 36)])
 (.seq (.reg [(fQ 37 0 13),(lQ 38 37),(fQ 39 1 12),(lQ 40 39),(bQ 41 .mul 38 40),(fQ 42 0 12),(lQ 43 42),(fQ 44 1 13),(lQ 45 44),(bQ 46 .mul 43 45),(bQ 47 .sub 41 46),(mQ 48 2),(fQ 49 1 12),(lQ 50 49),(fQ 51 1 13),(lQ 52 51),(bQ 53 .mul 50 52),(kQ 54 13 116 [(.t 47),(iQ 1000),(.t 48),(.t 53)]),(cQ 55 .gtr 54 0)])
 (.cond (.t 55) (.reg [(mQ 56 9),(lQ 57 10),(oQ 58 (.bsl false 14 1 1 [zQ] [(0,1,(.t 57))])),(oQ 59 (.app 15 1 8 (.t 56) (.t 58))),(mQ 9 59)]) .skip))))))
 (.reg [(cQ 60 .add 29 1),(mQ 29 60)]))))))))
 (.seq (.reg [(mQ 61 9),(mQ 6 61),(oQ 7 (.mv (iQ 0)))])
 .ret)))))⟩
def A_Ze:Nat→Ty := tyAt [.un,.un,.un,.un,.un,.un,tQ,.un,.un,.un,.un,.un,.un,.un,tQ,tQ]
abbrev P_Ze:List PSh := [.agg (.sl pQ),.one tQ,.one tQ]
abbrev R_Ze:List PSh := [.one (.sl tQ),.one tQ]
theorem e_Ze:cFn Try.prog 57 = some F_Ze.erase := by kernel_rfl
theorem k_Ze:callable Try.prog 57 = true := by kernel_rfl
def F_Za:TFn := ⟨56,16,[.tmp 6],(.seq (.reg [(oQ 3 (.box 0 (.t 0))),(oQ 6 (.mv (.c (.p (.sl 0 [] true)))))])
 (.seq (.reg [(oQ 7 (.mv (.c (.p (.sl 0 [] true)))))])
 (.seq (.seq (.reg [(oQ 8 (.mv (iQ 0)))])
 (.block 0 (.loop [.v 8 tQ,.o 7 15 tQ] [15,1,2,3,4,8] [15,1,2,3,4,8] (.seq (.seq (.reg [(mQ 12 8),(fQ 13 0 3),(lQ 14 13),(hQ 15 14),(bQ 16 .lss 12 15)])
 (.cond (.t 16) .skip (.exit 0)))
 (.seq (.block 1 (.seq (.regd [(nQ 19 1 3),(kQ 20 1 15 [(.t 19)]),(nQ 21 1 3),(kQ 22 2 15 [(.t 21)]),(oQ 9 (.newz 3 [(.p (.sl 0 [] true))])),(oQ 10 (.newz 4 [(.p (.sl 0 [] true))])),(sQ 1 9 20),(sQ 1 10 22)] [(0,2),(1,2),(0,4),(1,4),(2,4),(3,4),(0,5),(1,5),(2,5),(3,5),(4,5)] [])
 (.seq (.regd [(fQ 23 0 9),(lQ 24 23),(mQ 25 8),(fQ 26 0 10),(lQ 27 26),(mQ 28 8),(jQ 29 2 24 25),(fQ 30 0 29),(uQ (.st 1 (.t 30) (iQ 1))),(jQ 31 2 27 28),(fQ 32 0 31),(uQ (.st 1 (.t 32) (iQ 20)))] [(1,4),(4,8)] [])
 (.seq (.regd [(nQ 33 1 10),(mQ 34 1),(kQ 35 5 20 [(.t 33),(.t 34)]),(nQ 36 1 9),(mQ 37 1),(kQ 38 6 20 [(.t 36),(.t 37)]),(kQ 39 7 117 [(.t 35),(.t 38)]),(oQ 11 (.newz 8 [zQ,(.p (.sl 0 [] true)),zQ,(.p (.sl 0 [] true))])),(sQ 4 11 39)] [(0,3),(2,3),(0,7),(2,7),(3,7),(5,7),(6,7)] [])
 (.seq (.seq (.reg [(nQ 40 4 11),(kQ 41 9 113 [(.t 40)]),(cQ 42 .lss 41 0)])
 (.cond (.t 42) (.reg [(nQ 43 4 11),(kQ 44 10 118 [(.t 43)]),(sQ 4 11 44)]) .skip))
 (.seq (.reg [(nQ 45 4 11),(kQ 46 11 104 [(.t 45)]),(mQ 47 2),(kQ 48 12 84 [(.t 47)]),(kQ 49 13 105 [(.t 46),(.t 48)]),(cQ 50 .gtr 49 0)])
 (.cond (.t 50) (.reg [(mQ 51 7),(mQ 52 8),(oQ 53 (.bsl false 14 1 1 [zQ] [(0,1,(.t 52))])),(oQ 54 (.app 15 1 8 (.t 51) (.t 53))),(mQ 7 54)]) .skip)))))))
 (.reg [(mQ 17 8),(cQ 18 .add 17 1),(mQ 8 18)]))))))
 (.seq (.reg [(mQ 55 7),(mQ 6 55)])
 .ret))))⟩
def A_Za:Nat→Ty := tyAt [.un,.un,.un,.un,.un,.un,.un,.un,.un,.un,.un,.un,.un,.un,tQ,tQ]
abbrev P_Za:List PSh := [.agg (.sl pQ),.one tQ,.one tQ]
abbrev R_Za:List PSh := [.one (.sl tQ)]
theorem e_Za:cFn Try.prog 59 = some F_Za.erase := by kernel_rfl
theorem k_Za:callable Try.prog 59 = true := by kernel_rfl
def F_Zh:TFn := ⟨26,0,[.tmp 4],(.seq (.reg [(oQ 4 (.mv cF))])
 (.seq (.seq (.reg [(mQ 6 0),(hQ 7 6),(mQ 8 1),(hQ 9 8),(bQ 10 .neq 7 9)])
 (.cond (.t 10) (.seq (.reg [(oQ 4 (.mv cF))])
 .ret) .skip))
 (.seq (.seq (.reg [(oQ 5 (.mv (iQ 0)))])
 (.block 0 (.loop [.v 5 tQ] [] [] (.seq (.seq (.reg [(mQ 11 5),(mQ 12 0),(hQ 13 12),(bQ 14 .lss 11 13)])
 (.cond (.t 14) .skip (.exit 0)))
 (.seq (.block 1 (.seq (.regd [(mQ 17 0),(mQ 18 5),(jQ 19 1 17 18),(lQ 20 19),(mQ 21 1),(mQ 22 5),(jQ 23 1 21 22),(lQ 24 23),(bQ 25 .neq 20 24)] [(3,7)] [])
 (.cond (.t 25) (.seq (.reg [(oQ 4 (.mv cF))])
 .ret) .skip)))
 (.reg [(mQ 15 5),(cQ 16 .add 15 1),(mQ 5 16)]))))))
 (.seq (.reg [(oQ 4 (.mv cT))])
 .ret))))⟩
def A_Zh:Nat→Ty := tyAt []
abbrev P_Zh:List PSh := [.one (.sl tQ),.one (.sl tQ)]
abbrev R_Zh:List PSh := [.one .bool]
theorem e_Zh:cFn Try.prog 58 = some F_Zh.erase := by kernel_rfl
theorem k_Zh:callable Try.prog 58 = true := by kernel_rfl
def F_Z1t:TFn := ⟨5,2,[.celln 0 1],(.seq (.reg [(oQ 0 (.newz 0 [(.p (.sl 0 [] true))]))])
 (.seq (.reg [(oQ 1 (.build [zQ,zQ] [(0,1,(iQ 4)),(1,1,(iQ 2))])),(oQ 2 (.build [zQ,zQ] [(0,1,(iQ 1))])),(oQ 3 (.bsl false 1 2 2 [zQ,zQ,zQ,zQ] [(0,2,(.t 1)),(2,2,(.t 2))])),(oQ 4 (.build [(.p (.sl 0 [] true))] [(0,1,(.t 3))])),(sQ 1 0 4)])
 .ret))⟩
theorem e_Z1t:cFn Try.prog 69 = some F_Z1t.erase := by kernel_rfl
def F_Z1u:TFn := ⟨9,6,[.celln 0 1],(.seq (.reg [(oQ 0 (.newz 0 [(.p (.sl 0 [] true))]))])
 (.seq (.reg [(oQ 1 (.bsl false 1 1 2 [zQ,zQ] [(0,1,(iQ 2)),(1,1,(iQ 4))])),(oQ 2 (.bsl false 2 1 2 [zQ,zQ] [(0,1,(iQ 2)),(1,1,(iQ 4))])),(oQ 3 (.build [(.p (.sl 0 [] true)),(.p (.sl 0 [] true))] [(0,1,(.t 1)),(1,1,(.t 2))])),(oQ 4 (.bsl false 3 1 2 [zQ,zQ] [(0,1,(iQ 1)),(1,1,(iQ 8))])),(oQ 5 (.bsl false 4 1 1 [zQ] [(0,1,(iQ 0))])),(oQ 6 (.build [(.p (.sl 0 [] true)),(.p (.sl 0 [] true))] [(0,1,(.t 4)),(1,1,(.t 5))])),(oQ 7 (.bsl false 5 2 2 [(.p (.sl 0 [] true)),(.p (.sl 0 [] true)),(.p (.sl 0 [] true)),(.p (.sl 0 [] true))] [(0,2,(.t 3)),(2,2,(.t 6))])),(oQ 8 (.build [(.p (.sl 0 [] true))] [(0,1,(.t 7))])),(sQ 1 0 8)])
 .ret))⟩
theorem e_Z1u:cFn Try.prog 70 = some F_Z1u.erase := by kernel_rfl
def F_Z1v:TFn := ⟨4,1,[.tmp 0],(.seq (.reg [(oQ 0 (.mv (.c (.p (.sl 0 [] true)))))])
 (.seq (.reg [(oQ 1 (.build [zQ,zQ] [(0,1,(iQ 2500)),(1,1,(iQ 3100))])),(oQ 2 (.build [zQ,zQ,zQ] [(0,1,(iQ 2)),(1,2,(.t 1))])),(oQ 3 (.bsl false 0 3 1 [zQ,zQ,zQ] [(0,3,(.t 2))])),(mQ 0 3)])
 .ret))⟩
theorem e_Z1v:cFn Try.prog 71 = some F_Z1v.erase := by kernel_rfl
def F_Z1w:TFn := ⟨64,12,[.celln 6 2,.tmp 7],(.seq (.reg [(oQ 3 (.box 0 (.t 0))),(oQ 6 (.newz 1 [zQ,zQ])),(oQ 7 (.mv (iQ 0)))])
 (.seq (.reg [(nQ 16 1 3),(mQ 17 1),(kQ 18 2 107 [(.t 16),(.t 17)]),(mQ 15 18),(oQ 19 (.ext 0 (.t 15))),(oQ 20 (.ext 1 (.t 15))),(oQ 8 (.newz 3 [(.p (.sl 0 [] true))])),(sQ 1 8 19),(mQ 9 20)])
 (.seq (.seq (.reg [(mQ 21 9),(mQ 22 2),(kQ 23 4 95 [(.t 22),(iQ 1),(iQ 20)]),(kQ 24 5 74 [(.t 23),(iQ 2)]),(oQ 25 (.bsl false 6 1 2 [zQ,zQ] [(0,1,(.t 21)),(1,1,(.t 24))])),(kQ 26 7 73 [(.t 25)]),(mQ 9 26)])
 (.seq (.reg [(mQ 27 9),(cQ 28 .neq 27 0)])
 (.cond (.t 28) (.seq (.reg [(oQ 29 (.build [zQ,zQ] [])),(mQ 30 9),(sQ 2 6 29),(mQ 7 30)])
 .ret) .skip)))
 (.seq (.reg [(nQ 31 1 8),(mQ 32 1),(kQ 33 8 108 [(.t 31),(.t 32)]),(mQ 10 33)])
 (.seq (.seq (.reg [(mQ 34 10),(hQ 35 34),(oQ 36 (.mv (iQ 0)))])
 (.block 0 (.loop [.v 36 tQ] [] [] (.seq (.reg [(bQ 37 .lss 36 35)])
 (.seq (.cond (.t 37) .skip (.exit 0))
 (.seq (.block 1 (.seq (.reg [(mQ 38 36),(jQ 39 1 34 36),(lQ 40 39),(mQ 11 38),(mQ 12 40)])
 (.seq (.reg [(mQ 41 10),(mQ 42 11),(cQ 43 .add 42 1),(oQ 44 (.sl 1 (.t 41) (some (.t 43)) none)),(hQ 45 44),(oQ 46 (.mv (iQ 0)))])
 (.block 2 (.loop [.v 46 tQ] [] [] (.seq (.reg [(bQ 47 .lss 46 45)])
 (.seq (.cond (.t 47) .skip (.exit 2))
 (.seq (.block 3 (.seq (.reg [(jQ 48 1 44 46),(lQ 49 48),(mQ 14 49)])
 (.seq (.regd [(nQ 50 1 8),(mQ 51 12),(kQ 52 9 96 [(.t 50),(.t 51)]),(nQ 53 1 8),(mQ 54 14),(kQ 55 10 96 [(.t 53),(.t 54)]),(mQ 56 2),(kQ 57 11 124 [(.t 52),(.t 55),(.t 56)])] [(0,3),(2,3)] [])
 (.cond (.t 57) (.seq (.reg [(mQ 58 12),(mQ 59 14),(oQ 60 (.build [zQ,zQ] [(0,1,(.t 58)),(1,1,(.t 59))])),(sQ 2 6 60),(oQ 7 (.mv (iQ 0)))])
 .ret) .skip))))
 (.reg [(cQ 61 .add 46 1),(mQ 46 61)])))))))))
 (.reg [(cQ 62 .add 36 1),(mQ 36 62)])))))))
 (.seq (.reg [(oQ 63 (.build [zQ,zQ] [])),(sQ 2 6 63),(oQ 7 (.mv (iQ 12)))])
 .ret))))))⟩
theorem e_Z1w:cFn Try.prog 72 = some F_Z1w.erase := by kernel_rfl
def F_Z8:TFn := ⟨7,0,[.tmp 4],(.seq (.reg [(oQ 4 (.mv (iQ 0)))])
 (.seq (.seq (.reg [(mQ 5 0)])
 (.cond (.t 5) (.seq (.reg [(oQ 4 (.mv (iQ 0)))])
 .ret) .skip))
 (.seq (.reg [(mQ 6 1),(mQ 4 6)])
 .ret)))⟩
def A_Z8:Nat→Ty := tyAt []
abbrev P_Z8:List PSh := [.one .bool,.one tQ]
abbrev R_Z8:List PSh := [.one tQ]
theorem e_Z8:cFn Try.prog 74 = some F_Z8.erase := by kernel_rfl
theorem k_Z8:callable Try.prog 74 = true := by kernel_rfl
def F_Zi:TFn := ⟨15,0,[.tmp 2],(.seq (.reg [(oQ 2 (.mv (iQ 0)))])
 (.seq (.seq (.reg [(mQ 5 0),(hQ 6 5),(oQ 7 (.mv (iQ 0)))])
 (.block 0 (.loop [.v 7 tQ] [] [] (.seq (.reg [(bQ 8 .lss 7 6)])
 (.seq (.cond (.t 8) .skip (.exit 0))
 (.seq (.block 1 (.seq (.reg [(jQ 9 1 5 7),(lQ 10 9),(mQ 4 10)])
 (.seq (.reg [(mQ 11 4),(cQ 12 .neq 11 0)])
 (.cond (.t 12) (.seq (.reg [(mQ 13 4),(mQ 2 13)])
 .ret) .skip))))
 (.reg [(cQ 14 .add 7 1),(mQ 7 14)])))))))
 (.seq (.reg [(oQ 2 (.mv (iQ 0)))])
 .ret)))⟩
def A_Zi:Nat→Ty := tyAt []
abbrev P_Zi:List PSh := [.one (.sl tQ)]
abbrev R_Zi:List PSh := [.one tQ]
theorem e_Zi:cFn Try.prog 73 = some F_Zi.erase := by kernel_rfl
theorem k_Zi:callable Try.prog 73 = true := by kernel_rfl
def F_Z1a:TFn := ⟨5,1,[.tmp 2],(.seq (.reg [(oQ 2 (.mv cF))])
 (.seq (.reg [(mQ 3 0),(kQ 4 0 95 [(.t 3),(iQ 1),(iQ 20)]),(mQ 2 4)])
 .ret))⟩
def A_Z1a:Nat→Ty := tyAt [.un]
abbrev P_Z1a:List PSh := [.one tQ]
abbrev R_Z1a:List PSh := [.one .bool]
theorem e_Z1a:cFn Try.prog 75 = some F_Z1a.erase := by kernel_rfl
theorem k_Z1a:callable Try.prog 75 = true := by kernel_rfl
def F_Z1b:TFn := ⟨5,1,[.tmp 2],(.seq (.reg [(oQ 2 (.mv cF))])
 (.seq (.reg [(mQ 3 0),(kQ 4 0 95 [(.t 3),(iQ 0),(iQ 10)]),(mQ 2 4)])
 .ret))⟩
def A_Z1b:Nat→Ty := tyAt [.un]
abbrev P_Z1b:List PSh := [.one tQ]
abbrev R_Z1b:List PSh := [.one .bool]
theorem e_Z1b:cFn Try.prog 76 = some F_Z1b.erase := by kernel_rfl
theorem k_Z1b:callable Try.prog 76 = true := by kernel_rfl
def F_Z1c:TFn := ⟨11,2,[.tmp 2],(.seq (.reg [(oQ 1 (.box 0 (.t 0))),(oQ 2 (.mv (iQ 0)))])
 (.seq (.reg [(nQ 6 1 1),(kQ 7 1 14 [(.t 6)]),(mQ 5 7),(oQ 8 (.ext 0 (.t 5))),(oQ 9 (.ext 1 (.t 5))),(mQ 3 8),(mQ 4 9)])
 (.seq (.reg [(mQ 10 4),(mQ 2 10)])
 .ret)))⟩
def A_Z1c:Nat→Ty := tyAt [.un,.un]
abbrev P_Z1c:List PSh := [.agg (.sl pQ)]
abbrev R_Z1c:List PSh := [.one tQ]
theorem e_Z1c:cFn Try.prog 77 = some F_Z1c.erase := by kernel_rfl
theorem k_Z1c:callable Try.prog 77 = true := by kernel_rfl
def F_Z1d:TFn := ⟨6,2,[.tmp 2],(.seq (.reg [(oQ 2 (.mv (iQ 0)))])
 (.seq (.reg [(mQ 3 0),(kQ 4 0 95 [(.t 3),(iQ 1),(iQ 20)]),(kQ 5 1 74 [(.t 4),(iQ 2)]),(mQ 2 5)])
 .ret))⟩
def A_Z1d:Nat→Ty := tyAt [.un,.un]
abbrev P_Z1d:List PSh := [.one tQ]
abbrev R_Z1d:List PSh := [.one tQ]
theorem e_Z1d:cFn Try.prog 78 = some F_Z1d.erase := by kernel_rfl
theorem k_Z1d:callable Try.prog 78 = true := by kernel_rfl
def F_Zf:TFn := ⟨57,7,[.celln 4 2],(.seq (.reg [(oQ 2 (.box 0 (.t 0))),(oQ 3 (.box 1 (.t 1))),(oQ 4 (.newz 2 [zQ,zQ]))])
 (.seq (.reg [(oQ 5 (.newz 3 [zQ,zQ]))])
 (.seq (.seq (.reg [(lQ 11 2),(kQ 12 4 125 [(.t 11)])])
 (.block 0 (.rng (.t 12) [13,14] [13,14,6,7,15,16,17,18,19,20,21,22,23,24,25,26,27,28,29,30,8,9,10,31,32,33,34,35,36,37,38,39,40,41,42,43,44,45,46,47,48,49,50,51,52,53,54,55] [.c 3 pQ] [3,5] [5] (.seq (.reg [(mQ 6 13)])
 (.reg [(oQ 7 (.newz 5 [zQ,zQ])),(sQ 2 7 14)]))
 (.block 1 (.seq (.seq (.reg [(mQ 15 6),(lQ 16 2),(hQ 17 16),(cQ 18 .sub 17 1),(bQ 19 .eql 15 18)])
 (.cond (.t 19) (.seq (.reg [(fQ 20 0 7),(lQ 21 20),(oQ 22 (.build [zQ,zQ] [(0,1,(.t 21)),(1,1,(iQ 1))])),(sQ 2 5 22)])
 (.exit 1)) .skip))
 (.seq (.regd [(fQ 23 0 7),(lQ 24 23),(fQ 25 1 7),(lQ 26 25),(fQ 27 1 7),(lQ 28 27),(lQ 29 3),(bQ 30 .add 28 29),(mQ 8 24),(mQ 9 26),(mQ 10 30)] [(1,3),(1,5),(3,5),(1,6),(3,6),(5,6)] [])
 (.reg [(mQ 31 8),(fQ 32 0 5),(lQ 33 32),(mQ 34 10),(bQ 35 .mul 33 34),(mQ 36 8),(mQ 37 9),(bQ 38 .mul 36 37),(fQ 39 1 5),(lQ 40 39),(bQ 41 .mul 38 40),(bQ 42 .add 35 41),(bQ 43 .mul 31 42),(mQ 44 8),(fQ 45 1 5),(lQ 46 45),(bQ 47 .mul 44 46),(mQ 48 10),(bQ 49 .mul 47 48),(fQ 50 0 5),(lQ 51 50),(mQ 52 9),(bQ 53 .mul 51 52),(bQ 54 .add 49 53),(kQ 55 6 126 [(.t 43),(.t 54)]),(sQ 2 5 55)])))))))
 (.seq (.reg [(nQ 56 2 5),(sQ 2 4 56)])
 .ret))))⟩
def A_Zf:Nat→Ty := tyAt [.un,.un,.un,.un,.un,.un,.un]
abbrev P_Zf:List PSh := [.one (.sl pQ),.one tQ]
abbrev R_Zf:List PSh := [.agg pQ]
theorem e_Zf:cFn Try.prog 79 = some F_Zf.erase := by kernel_rfl
theorem k_Zf:callable Try.prog 79 = true := by kernel_rfl
def F_Z1x:TFn := ⟨18,2,[.celln 2 2,.tmp 3],(.seq (.reg [(oQ 1 (.box 0 (.t 0))),(oQ 2 (.newz 1 [zQ,zQ])),(oQ 3 (.mv (iQ 0)))])
 (.seq (.seq (.reg [(fQ 4 0 1),(lQ 5 4),(cQ 6 .gtr 5 1000000000),(mQ 7 6),(gQ 8 7 false (.fa 1 (.t 1))),(gQ 9 7 false (.ld1 (.t 8))),(gQ 10 7 false (.bin .gtr (.t 9) (iQ 1000000000))),(oQ 11 (.pick (.t 7) cT (.t 10)))])
 (.cond (.t 11) (.seq (.reg [(oQ 12 (.build [zQ,zQ] [])),(sQ 2 2 12),(oQ 3 (.mv (iQ 8)))])
 .ret) .skip))
 (.seq (.reg [(fQ 13 0 1),(lQ 14 13),(fQ 15 1 1),(lQ 16 15),(oQ 17 (.build [zQ,zQ] [(0,1,(.t 14)),(1,1,(.t 16))])),(sQ 2 2 17),(oQ 3 (.mv (iQ 0)))])
 .ret)))⟩
theorem e_Z1x:cFn Try.prog 80 = some F_Z1x.erase := by kernel_rfl
def F_Z1j:TFn := ⟨5,1,[.tmp 2],(.seq (.reg [(oQ 2 (.mv cF))])
 (.seq (.reg [(mQ 3 0),(kQ 4 0 35 [(.t 3),(iQ 1),(iQ 20)]),(mQ 2 4)])
 .ret))⟩
def A_Z1j:Nat→Ty := tyAt [.un]
abbrev P_Z1j:List PSh := [.one tQ]
abbrev R_Z1j:List PSh := [.one .bool]
theorem e_Z1j:cFn Try.prog 81 = some F_Z1j.erase := by kernel_rfl
theorem k_Z1j:callable Try.prog 81 = true := by kernel_rfl
def F_Z1k:TFn := ⟨5,1,[.tmp 2],(.seq (.reg [(oQ 2 (.mv cF))])
 (.seq (.reg [(mQ 3 0),(kQ 4 0 35 [(.t 3),(iQ 0),(iQ 10)]),(mQ 2 4)])
 .ret))⟩
def A_Z1k:Nat→Ty := tyAt [.un]
abbrev P_Z1k:List PSh := [.one tQ]
abbrev R_Z1k:List PSh := [.one .bool]
theorem e_Z1k:cFn Try.prog 82 = some F_Z1k.erase := by kernel_rfl
theorem k_Z1k:callable Try.prog 82 = true := by kernel_rfl
def F_Zq:TFn := ⟨7,3,[.celln 2 4],(.seq (.reg [(oQ 2 (.newz 0 [zQ,(.p (.sl 0 [] true)),zQ,(.p (.sl 0 [] true))]))])
 (.seq (.reg [(mQ 3 0),(kQ 4 1 127 [(.t 3)]),(kQ 5 2 127 [(iQ 1)]),(oQ 6 (.build [zQ,(.p (.sl 0 [] true)),zQ,(.p (.sl 0 [] true))] [(0,2,(.t 4)),(2,2,(.t 5))])),(sQ 4 2 6)])
 .ret))⟩
def A_Zq:Nat→Ty := tyAt [.un,.un,.un]
abbrev P_Zq:List PSh := [.one tQ]
abbrev R_Zq:List PSh := [.agg (.pr (.pr tQ (.sl tQ)) (.pr tQ (.sl tQ)))]
theorem e_Zq:cFn Try.prog 84 = some F_Zq.erase := by kernel_rfl
theorem k_Zq:callable Try.prog 84 = true := by kernel_rfl
def F_Zz:TFn := ⟨10,4,[.celln 4 4],(.seq (.reg [(oQ 4 (.newz 0 [zQ,(.p (.sl 0 [] true)),zQ,(.p (.sl 0 [] true))]))])
 (.seq (.reg [(mQ 5 0),(kQ 6 1 127 [(.t 5)]),(mQ 7 1),(kQ 8 2 127 [(.t 7)]),(kQ 9 3 128 [(.t 6),(.t 8)]),(sQ 4 4 9)])
 .ret))⟩
def A_Zz:Nat→Ty := tyAt [.un,.un,.un,.un]
abbrev P_Zz:List PSh := [.one tQ,.one tQ]
abbrev R_Zz:List PSh := [.agg (.pr (.pr tQ (.sl tQ)) (.pr tQ (.sl tQ)))]
theorem e_Zz:cFn Try.prog 85 = some F_Zz.erase := by kernel_rfl
theorem k_Zz:callable Try.prog 85 = true := by kernel_rfl
def F_Zt:TFn := ⟨16,6,[.celln 4 4],(.seq (.reg [(oQ 2 (.box 0 (.t 0))),(oQ 3 (.box 1 (.t 1))),(oQ 4 (.newz 2 [zQ,(.p (.sl 0 [] true)),zQ,(.p (.sl 0 [] true))]))])
 (.seq (.regd [(fQ 5 0 2),(nQ 6 2 5),(fQ 7 0 3),(nQ 8 2 7),(kQ 9 3 129 [(.t 6),(.t 8)]),(fQ 10 2 2),(nQ 11 2 10),(fQ 12 2 3),(nQ 13 2 12),(kQ 14 4 129 [(.t 11),(.t 13)]),(kQ 15 5 128 [(.t 9),(.t 14)]),(sQ 4 4 15)] [(1,3),(1,6),(3,6),(4,6),(1,8),(3,8),(4,8),(6,8)] [])
 .ret))⟩
def A_Zt:Nat→Ty := tyAt [.un,.un,.un,.un,.un,.un]
abbrev P_Zt:List PSh := [.agg (.pr (.pr tQ (.sl tQ)) (.pr tQ (.sl tQ))),.agg (.pr (.pr tQ (.sl tQ)) (.pr tQ (.sl tQ)))]
abbrev R_Zt:List PSh := [.agg (.pr (.pr tQ (.sl tQ)) (.pr tQ (.sl tQ)))]
theorem e_Zt:cFn Try.prog 86 = some F_Zt.erase := by kernel_rfl
theorem k_Zt:callable Try.prog 86 = true := by kernel_rfl
def F_Zu:TFn := ⟨22,8,[.celln 4 4],(.seq (.reg [(oQ 2 (.box 0 (.t 0))),(oQ 3 (.box 1 (.t 1))),(oQ 4 (.newz 2 [zQ,(.p (.sl 0 [] true)),zQ,(.p (.sl 0 [] true))]))])
 (.seq (.regd [(fQ 5 0 2),(nQ 6 2 5),(fQ 7 2 3),(nQ 8 2 7),(kQ 9 3 129 [(.t 6),(.t 8)]),(fQ 10 0 3),(nQ 11 2 10),(fQ 12 2 2),(nQ 13 2 12),(kQ 14 4 129 [(.t 11),(.t 13)]),(kQ 15 5 130 [(.t 9),(.t 14)]),(fQ 16 2 2),(nQ 17 2 16),(fQ 18 2 3),(nQ 19 2 18),(kQ 20 6 129 [(.t 17),(.t 19)]),(kQ 21 7 128 [(.t 15),(.t 20)]),(sQ 4 4 21)] [(1,3),(1,6),(3,6),(4,6),(1,8),(3,8),(4,8),(6,8),(1,12),(3,12),(4,12),(6,12),(8,12),(9,12),(10,12),(1,14),(3,14),(4,14),(6,14),(8,14),(9,14),(10,14),(12,14)] [])
 .ret))⟩
def A_Zu:Nat→Ty := tyAt [.un,.un,.un,.un,.un,.un,.un,.un]
abbrev P_Zu:List PSh := [.agg (.pr (.pr tQ (.sl tQ)) (.pr tQ (.sl tQ))),.agg (.pr (.pr tQ (.sl tQ)) (.pr tQ (.sl tQ)))]
abbrev R_Zu:List PSh := [.agg (.pr (.pr tQ (.sl tQ)) (.pr tQ (.sl tQ)))]
theorem e_Zu:cFn Try.prog 87 = some F_Zu.erase := by kernel_rfl
theorem k_Zu:callable Try.prog 87 = true := by kernel_rfl
def F_Z10:TFn := ⟨16,6,[.celln 4 4],(.seq (.reg [(oQ 2 (.box 0 (.t 0))),(oQ 3 (.box 1 (.t 1))),(oQ 4 (.newz 2 [zQ,(.p (.sl 0 [] true)),zQ,(.p (.sl 0 [] true))]))])
 (.seq (.regd [(fQ 5 0 2),(nQ 6 2 5),(fQ 7 2 3),(nQ 8 2 7),(kQ 9 3 129 [(.t 6),(.t 8)]),(fQ 10 2 2),(nQ 11 2 10),(fQ 12 0 3),(nQ 13 2 12),(kQ 14 4 129 [(.t 11),(.t 13)]),(kQ 15 5 128 [(.t 9),(.t 14)]),(sQ 4 4 15)] [(1,3),(1,6),(3,6),(4,6),(1,8),(3,8),(4,8),(6,8)] [])
 .ret))⟩
def A_Z10:Nat→Ty := tyAt [.un,.un,.un,.un,.un,.un]
abbrev P_Z10:List PSh := [.agg (.pr (.pr tQ (.sl tQ)) (.pr tQ (.sl tQ))),.agg (.pr (.pr tQ (.sl tQ)) (.pr tQ (.sl tQ)))]
abbrev R_Z10:List PSh := [.agg (.pr (.pr tQ (.sl tQ)) (.pr tQ (.sl tQ)))]
theorem e_Z10:cFn Try.prog 88 = some F_Z10.erase := by kernel_rfl
theorem k_Z10:callable Try.prog 88 = true := by kernel_rfl
def F_Z1y:TFn := ⟨38,5,[.tmp 4],(.seq (.reg [(oQ 4 (.mv (iQ 0)))])
 (.seq (.seq (.reg [(mQ 8 0),(hQ 9 8),(oQ 10 (.mv (iQ 0)))])
 (.block 0 (.loop [.v 10 tQ] [] [] (.seq (.reg [(bQ 11 .lss 10 9)])
 (.seq (.cond (.t 11) .skip (.exit 0))
 (.seq (.block 1 (.seq (.reg [(mQ 12 10),(jQ 13 1 8 10),(lQ 14 13),(mQ 5 12),(mQ 6 14)])
 (.seq (.reg [(mQ 15 1),(mQ 16 6),⟨some 17,none,(.callv 0 (.t 15) [(.t 16)])⟩,(kQ 18 1 74 [(.t 17),(iQ 2)]),(mQ 19 5),(cQ 20 .eql 19 0),(mQ 21 20),(vQ 22 21 false 6),(vQ 23 21 false 0),(vQ 24 21 false 5),(gQ 25 21 false (.bin .sub (.t 24) (iQ 1))),(gQ 26 21 false (.mm true (iQ 0) (.t 25))),(gQ 27 21 false (.ia 1 (.t 23) (.t 26))),(gQ 28 21 false (.ld1 (.t 27))),(gQ 29 21 false (.bin .gtr (.t 22) (.t 28))),(oQ 30 (.pick (.t 21) cT (.t 29))),(kQ 31 2 74 [(.t 30),(iQ 9)]),(oQ 32 (.bsl false 3 1 2 [zQ,zQ] [(0,1,(.t 18)),(1,1,(.t 31))])),(kQ 33 4 73 [(.t 32)]),(mQ 7 33)])
 (.seq (.reg [(mQ 34 7),(cQ 35 .neq 34 0)])
 (.cond (.t 35) (.seq (.reg [(mQ 36 7),(mQ 4 36)])
 .ret) .skip)))))
 (.reg [(cQ 37 .add 10 1),(mQ 10 37)])))))))
 (.seq (.reg [(oQ 4 (.mv (iQ 0)))])
 .ret)))⟩
theorem e_Z1y:cFn Try.prog 91 = some F_Z1y.erase := by kernel_rfl
def F_Z1z:TFn := ⟨26,0,[.tmp 4],(.seq (.reg [(oQ 4 (.mv cF))])
 (.seq (.seq (.reg [(mQ 6 0),(hQ 7 6),(mQ 8 1),(hQ 9 8),(bQ 10 .neq 7 9)])
 (.cond (.t 10) (.seq (.reg [(oQ 4 (.mv cF))])
 .ret) .skip))
 (.seq (.seq (.reg [(mQ 11 0),(hQ 12 11),(oQ 13 (.mv (iQ 0)))])
 (.block 0 (.loop [.v 13 tQ] [] [] (.seq (.reg [(bQ 14 .lss 13 12)])
 (.seq (.cond (.t 14) .skip (.exit 0))
 (.seq (.block 1 (.seq (.reg [(mQ 15 13),(mQ 5 15)])
 (.seq (.regd [(mQ 16 0),(mQ 17 5),(jQ 18 1 16 17),(lQ 19 18),(mQ 20 1),(mQ 21 5),(jQ 22 1 20 21),(lQ 23 22),(bQ 24 .neq 19 23)] [(3,7)] [])
 (.cond (.t 24) (.seq (.reg [(oQ 4 (.mv cF))])
 .ret) .skip))))
 (.reg [(cQ 25 .add 13 1),(mQ 13 25)])))))))
 (.seq (.reg [(oQ 4 (.mv cT))])
 .ret))))⟩
theorem e_Z1z:cFn Try.prog 92 = some F_Z1z.erase := by kernel_rfl
def F_Z20:TFn := ⟨14,3,[.celln 2 1,.tmp 3],(.seq (.reg [(oQ 1 (.box 0 (.t 0))),(oQ 2 (.newz 1 [(.p (.sl 0 [] true))])),(oQ 3 (.mv (iQ 0)))])
 (.seq (.reg [(nQ 7 1 1),(kQ 8 2 28 [(.t 7)]),(mQ 6 8),(oQ 9 (.ext 0 (.t 6))),(oQ 10 (.ext 1 (.t 6))),(mQ 4 9),(mQ 5 10)])
 (.seq (.reg [(nQ 11 1 1),(oQ 12 (.build [(.p (.sl 0 [] true))] [(0,1,(.t 11))])),(mQ 13 5),(sQ 1 2 12),(mQ 3 13)])
 .ret)))⟩
theorem e_Z20:cFn Try.prog 93 = some F_Z20.erase := by kernel_rfl
def F_Z21:TFn := ⟨25,2,[.tmp 2],(.seq (.reg [(oQ 1 (.box 0 (.t 0))),(oQ 2 (.mv (iQ 0)))])
 (.seq (.reg [(oQ 3 (.mv (iQ 1)))])
 (.seq (.seq (.reg [(fQ 6 0 1),(fQ 7 0 6),(lQ 8 7),(hQ 9 8),(oQ 10 (.mv (iQ 0)))])
 (.block 0 (.loop [.v 10 tQ,.v 3 tQ] [1] [1] (.seq (.reg [(bQ 11 .lss 10 9)])
 (.seq (.cond (.t 11) .skip (.exit 0))
 (.seq (.block 1 (.seq (.reg [(jQ 12 2 8 10),(nQ 13 2 12),(oQ 5 (.newz 1 [(.p (.sl 0 [] true)),(.p (.sl 0 [] true))])),(sQ 2 5 13)])
 (.reg [(mQ 14 3),(fQ 15 0 5),(lQ 16 15),(hQ 17 16),(fQ 18 1 5),(lQ 19 18),(hQ 20 19),(bQ 21 .mul 17 20),(bQ 22 .mul 14 21),(mQ 3 22)])))
 (.reg [(cQ 23 .add 10 1),(mQ 10 23)])))))))
 (.seq (.reg [(mQ 24 3),(mQ 2 24)])
 .ret))))⟩
theorem e_Z21:cFn Try.prog 94 = some F_Z21.erase := by kernel_rfl
def F_Zb:TFn := ⟨15,0,[.tmp 6],(.seq (.reg [(oQ 6 (.mv cF))])
 (.seq (.reg [(mQ 7 1),(mQ 8 0),(bQ 9 .leq 7 8),(mQ 10 9),(vQ 11 10 true 0),(vQ 12 10 true 2),(gQ 13 10 true (.bin .leq (.t 11) (.t 12))),(oQ 14 (.pick (.t 10) (.t 13) cF)),(mQ 6 14)])
 .ret))⟩
def A_Zb:Nat→Ty := tyAt []
abbrev P_Zb:List PSh := [.one tQ,.one tQ,.one tQ]
abbrev R_Zb:List PSh := [.one .bool]
theorem e_Zb:cFn Try.prog 95 = some F_Zb.erase := by kernel_rfl
theorem k_Zb:callable Try.prog 95 = true := by kernel_rfl
def F_Z22:TFn := ⟨39,10,[.celln 4 1],(.seq (.reg [(oQ 2 (.box 0 (.t 0))),(oQ 3 (.box 1 (.t 1))),(oQ 4 (.newz 2 [(.p (.sl 0 [] true))]))])
 (.seq (.reg [(fQ 9 0 2),(fQ 10 0 9),(lQ 11 10),(hQ 12 11),(oQ 13 (.mk 3 2 16 [zQ,zQ] (.t 12))),(oQ 5 (.newz 4 [(.p (.sl 0 [] true))])),(sQ 1 5 13)])
 (.seq (.reg [(oQ 14 (.clo 132 [(.t 3)])),(oQ 6 (.newz 5 [.und])),(sQ 1 6 14)])
 (.seq (.seq (.reg [(fQ 15 0 2),(fQ 16 0 15),(lQ 17 16),(kQ 18 6 133 [(.t 17)])])
 (.block 0 (.rng (.t 18) [19,20] [19,20,7,8,21,22,23,24,25,26,27,28,29,30,31,32,33,34,35,36] [.c 1 tQ,.d 3 pQ] [1,3,7] [7] (.seq (.reg [(mQ 7 19)])
 (.reg [(oQ 8 (.newz 7 [(.p (.sl 0 [] true)),(.p (.sl 0 [] true))])),(sQ 2 8 20)]))
 (.block 1 (.seq (.regd [(lQ 21 5),(mQ 22 7),(lQ 23 6),(fQ 24 1 8),(lQ 25 24),⟨some 26,none,(.callv 8 (.t 23) [(.t 25)])⟩,(jQ 27 2 21 22),(fQ 28 1 27),(sQ 1 28 26)] [(0,2),(0,4),(2,4),(0,5)] [])
 (.regd [(lQ 29 5),(mQ 30 7),(lQ 31 6),(fQ 32 0 8),(lQ 33 32),⟨some 34,none,(.callv 9 (.t 31) [(.t 33)])⟩,(jQ 35 2 29 30),(fQ 36 0 35),(sQ 1 36 34)] [(0,2),(0,4),(2,4),(0,5)] []))))))
 (.seq (.reg [(lQ 37 5),(oQ 38 (.build [(.p (.sl 0 [] true))] [(0,1,(.t 37))])),(sQ 1 4 38)])
 .ret)))))⟩
theorem e_Z22:cFn Try.prog 96 = some F_Z22.erase := by kernel_rfl
def F_Z2i:TFn := ⟨18,4,[],(.seq (.reg [(oQ 2 (.box 0 (.t 0)))])
 (.seq (.reg [(nQ 5 1 2),(kQ 6 1 94 [(.t 5)]),(oQ 7 (.mv (iQ 0)))])
 (.block 0 (.loop [] [] [] (.seq (.reg [(bQ 8 .lss 7 6)])
 (.seq (.cond (.t 8) .skip (.exit 0))
 (.seq (.block 1 (.seq (.reg [(mQ 9 7),(mQ 4 9)])
 (.seq (.reg [(mQ 10 1),(mQ 11 4),(nQ 12 1 2),(mQ 13 4),(kQ 14 2 96 [(.t 12),(.t 13)]),⟨some 15,none,(.callv 3 (.t 10) [(.t 11),(.t 14)])⟩,(oQ 16 (.unot (.t 15)))])
 (.cond (.t 16) .ret .skip))))
 (.reg [(cQ 17 .add 7 1),(mQ 7 17)]))))))))⟩
theorem e_Z2i:cFn Try.prog 97 = some F_Z2i.erase := by kernel_rfl
def F_Z23:TFn := ⟨26,0,[.tmp 4],(.seq (.reg [(oQ 4 (.mv cF))])
 (.seq (.seq (.reg [(mQ 6 0),(hQ 7 6),(mQ 8 1),(hQ 9 8),(bQ 10 .neq 7 9)])
 (.cond (.t 10) (.seq (.reg [(oQ 4 (.mv cF))])
 .ret) .skip))
 (.seq (.seq (.reg [(mQ 11 0),(hQ 12 11),(oQ 13 (.mv (iQ 0)))])
 (.block 0 (.loop [.v 13 tQ] [] [] (.seq (.reg [(bQ 14 .lss 13 12)])
 (.seq (.cond (.t 14) .skip (.exit 0))
 (.seq (.block 1 (.seq (.reg [(mQ 15 13),(mQ 5 15)])
 (.seq (.regd [(mQ 16 0),(mQ 17 5),(jQ 18 2 16 17),(nQ 19 2 18),(mQ 20 1),(mQ 21 5),(jQ 22 2 20 21),(nQ 23 2 22),(oQ 24 (.eqa true 2 [(true,0),(true,1)] (.t 19) (.t 23)))] [(3,7)] [])
 (.cond (.t 24) (.seq (.reg [(oQ 4 (.mv cF))])
 .ret) .skip))))
 (.reg [(cQ 25 .add 13 1),(mQ 13 25)])))))))
 (.seq (.reg [(oQ 4 (.mv cT))])
 .ret))))⟩
theorem e_Z23:cFn Try.prog 98 = some F_Z23.erase := by kernel_rfl
def F_Z24:TFn := ⟨11,1,[.tmp 2],(.seq (.reg [(oQ 2 (.mv (iQ 0)))])
 (.seq (.reg [(mQ 6 0),(kQ 7 0 52 [(.t 6)]),(mQ 5 7),(oQ 8 (.ext 0 (.t 5))),(oQ 9 (.ext 1 (.t 5))),(mQ 3 8),(mQ 4 9)])
 (.seq (.reg [(mQ 10 4),(mQ 2 10)])
 .ret)))⟩
theorem e_Z24:cFn Try.prog 101 = some F_Z24.erase := by kernel_rfl
def F_Z25:TFn := ⟨15,2,[.tmp 4],(.seq (.reg [(oQ 2 (.box 0 (.t 0))),(oQ 3 (.box 1 (.t 1))),(oQ 4 (.mv cF))])
 (.seq (.reg [(fQ 5 0 2),(lQ 6 5),(oQ 7 (.bin .mul (iQ 1000) (.t 6))),(fQ 8 1 3),(fQ 9 0 8),(lQ 10 9),(fQ 11 1 2),(lQ 12 11),(bQ 13 .mul 10 12),(bQ 14 .lss 7 13),(mQ 4 14)])
 .ret))⟩
theorem e_Z25:cFn Try.prog 102 = some F_Z25.erase := by kernel_rfl
def F_Z26:TFn := ⟨15,2,[.tmp 4],(.seq (.reg [(oQ 2 (.box 0 (.t 0))),(oQ 3 (.box 1 (.t 1))),(oQ 4 (.mv cF))])
 (.seq (.reg [(fQ 5 0 2),(lQ 6 5),(oQ 7 (.bin .mul (iQ 1000) (.t 6))),(fQ 8 1 3),(fQ 9 1 8),(lQ 10 9),(fQ 11 1 2),(lQ 12 11),(bQ 13 .mul 10 12),(bQ 14 .gtr 7 13),(mQ 4 14)])
 .ret))⟩
theorem e_Z26:cFn Try.prog 103 = some F_Z26.erase := by kernel_rfl
def F_Z11:TFn := ⟨6,4,[.celln 2 4],(.seq (.reg [(oQ 1 (.box 0 (.t 0))),(oQ 2 (.newz 1 [zQ,(.p (.sl 0 [] true)),zQ,(.p (.sl 0 [] true))]))])
 (.seq (.regd [(nQ 3 4 1),(kQ 4 2 84 [(iQ 1000)]),(kQ 5 3 86 [(.t 3),(.t 4)]),(sQ 4 2 5)] [(0,1)] [])
 .ret))⟩
def A_Z11:Nat→Ty := tyAt [.un,.un,.un,.un]
abbrev P_Z11:List PSh := [.agg (.pr (.pr tQ (.sl tQ)) (.pr tQ (.sl tQ)))]
abbrev R_Z11:List PSh := [.agg (.pr (.pr tQ (.sl tQ)) (.pr tQ (.sl tQ)))]
theorem e_Z11:cFn Try.prog 104 = some F_Z11.erase := by kernel_rfl
theorem k_Z11:callable Try.prog 104 = true := by kernel_rfl
def F_Z12:TFn := ⟨16,5,[.tmp 4],(.seq (.reg [(oQ 2 (.box 0 (.t 0))),(oQ 3 (.box 1 (.t 1))),(oQ 4 (.mv (iQ 0)))])
 (.seq (.regd [(fQ 5 0 2),(nQ 6 2 5),(fQ 7 2 3),(nQ 8 2 7),(kQ 9 2 129 [(.t 6),(.t 8)]),(fQ 10 0 3),(nQ 11 2 10),(fQ 12 2 2),(nQ 13 2 12),(kQ 14 3 129 [(.t 11),(.t 13)]),(kQ 15 4 134 [(.t 9),(.t 14)]),(mQ 4 15)] [(1,3),(1,6),(3,6),(4,6),(1,8),(3,8),(4,8),(6,8)] [])
 .ret))⟩
def A_Z12:Nat→Ty := tyAt [.un,.un,.un,.un,.un]
abbrev P_Z12:List PSh := [.agg (.pr (.pr tQ (.sl tQ)) (.pr tQ (.sl tQ))),.agg (.pr (.pr tQ (.sl tQ)) (.pr tQ (.sl tQ)))]
abbrev R_Z12:List PSh := [.one tQ]
theorem e_Z12:cFn Try.prog 105 = some F_Z12.erase := by kernel_rfl
theorem k_Z12:callable Try.prog 105 = true := by kernel_rfl
def F_Z27:TFn := ⟨9,2,[.tmp 4],(.seq (.reg [(oQ 2 (.box 0 (.t 0))),(oQ 4 (.mv cF))])
 (.seq (.reg [(mQ 5 1),(oQ 6 (.clo 136 [(.t 2)])),(kQ 7 1 135 [(.t 5),(.t 6)]),(oQ 8 (.unot (.t 7))),(mQ 4 8)])
 .ret))⟩
theorem e_Z27:cFn Try.prog 106 = some F_Z27.erase := by kernel_rfl
def F_Z28:TFn := ⟨19,7,[.celln 4 1,.tmp 5],(.seq (.reg [(oQ 2 (.box 0 (.t 0))),(oQ 4 (.newz 1 [(.p (.sl 0 [] true))])),(oQ 5 (.mv (iQ 0)))])
 (.seq (.reg [(nQ 9 1 2),(kQ 10 2 93 [(.t 9)]),(mQ 8 10),(oQ 11 (.ext 0 (.t 8))),(oQ 12 (.ext 1 (.t 8))),(oQ 6 (.newz 3 [(.p (.sl 0 [] true))])),(sQ 1 6 11),(mQ 7 12)])
 (.seq (.regd [(nQ 13 1 6),(mQ 14 7),(mQ 15 1),(kQ 16 4 101 [(.t 15)]),(oQ 17 (.bsl false 5 1 2 [zQ,zQ] [(0,1,(.t 14)),(1,1,(.t 16))])),(kQ 18 6 73 [(.t 17)]),(sQ 1 4 13),(mQ 5 18)] [(0,3),(0,5)] [])
 .ret)))⟩
theorem e_Z28:cFn Try.prog 107 = some F_Z28.erase := by kernel_rfl
def F_Z29:TFn := ⟨20,7,[.tmp 4],(.seq (.reg [(oQ 2 (.box 0 (.t 0))),(oQ 3 (.box 1 (.t 1))),(oQ 4 (.mv (.c (.p (.sl 0 [] true)))))])
 (.seq (.reg [(oQ 5 (.newz 2 [(.p (.sl 0 [] true))]))])
 (.seq (.seq (.reg [(nQ 8 1 2),(oQ 9 (.bnd 1000000097 (.t 8)))])
 (.block 0 (.rng (.t 9) [10,11] [10,11,6,7,12,13,14,15,16,17,18] [.q 2 6 tQ] [2,3,6] [3,6] (.seq (.reg [(mQ 6 10)])
 (.reg [(oQ 7 (.newz 3 [(.p (.sl 0 [] true))])),(sQ 1 7 11)]))
 (.block 1 (.seq (.reg [(nQ 12 1 7),(lQ 13 3),(kQ 14 4 106 [(.t 12),(.t 13)])])
 (.cond (.t 14) (.reg [(lQ 15 5),(mQ 16 6),(oQ 17 (.bsl false 5 1 1 [zQ] [(0,1,(.t 16))])),(oQ 18 (.app 6 1 8 (.t 15) (.t 17))),(sQ 1 5 18)]) .skip))))))
 (.seq (.reg [(lQ 19 5),(mQ 4 19)])
 .ret))))⟩
theorem e_Z29:cFn Try.prog 108 = some F_Z29.erase := by kernel_rfl
def F_Z2a:TFn := ⟨5,1,[.tmp 2],(.seq (.reg [(oQ 2 (.mv cF))])
 (.seq (.reg [(mQ 3 0),(kQ 4 0 95 [(.t 3),(iQ 0),(iQ 100000)]),(mQ 2 4)])
 .ret))⟩
theorem e_Z2a:cFn Try.prog 110 = some F_Z2a.erase := by kernel_rfl
def F_Z13:TFn := ⟨6,2,[.tmp 2],(.seq (.reg [(oQ 1 (.box 0 (.t 0))),(oQ 2 (.mv (iQ 0)))])
 (.seq (.reg [(fQ 3 0 1),(nQ 4 2 3),(kQ 5 1 139 [(.t 4)]),(mQ 2 5)])
 .ret))⟩
def A_Z13:Nat→Ty := tyAt [.un,.un]
abbrev P_Z13:List PSh := [.agg (.pr (.pr tQ (.sl tQ)) (.pr tQ (.sl tQ)))]
abbrev R_Z13:List PSh := [.one tQ]
theorem e_Z13:cFn Try.prog 113 = some F_Z13.erase := by kernel_rfl
theorem k_Z13:callable Try.prog 113 = true := by kernel_rfl
def F_Z7:TFn := ⟨18,3,[.celln 5 2],(.seq (.reg [(oQ 5 (.newz 0 [zQ,zQ]))])
 (.seq (.reg [(fQ 7 0 1),(lQ 8 7),(kQ 9 1 115 [(.t 8)]),(mQ 6 9)])
 (.seq (.reg [(mQ 10 6),(lQ 11 2),(mQ 12 0),(jQ 13 2 10 11),(fQ 14 0 13),(sQ 1 14 12)])
 (.seq (.reg [(mQ 15 6),(lQ 16 3),(kQ 17 2 79 [(.t 15),(.t 16)]),(sQ 2 5 17)])
 .ret))))⟩
def A_Z7:Nat→Ty := tyAt [.un,.un,.un]
abbrev P_Z7:List PSh := [.one tQ,.ptr (.sl pQ),.ptr tQ,.ptr tQ]
abbrev R_Z7:List PSh := [.agg pQ]
theorem e_Z7:cFn Try.prog 114 = some F_Z7.erase := by kernel_rfl
theorem k_Z7:callable Try.prog 114 = true := by kernel_rfl
def F_Z14:TFn := ⟨52,2,[.tmp 8],(.seq (.reg [(oQ 8 (.mv (iQ 0)))])
 (.seq (.reg [(mQ 14 0),(oQ 15 (.conv .u64 (.t 14))),(mQ 16 1),(oQ 17 (.conv .u64 (.t 16))),(kQ 18 0 140 [(.t 15),(.t 17)]),(mQ 13 18),(oQ 19 (.ext 0 (.t 13))),(oQ 20 (.ext 1 (.t 13))),(mQ 9 19),(mQ 10 20)])
 (.seq (.reg [(mQ 22 2),(oQ 23 (.conv .u64 (.t 22))),(mQ 24 3),(oQ 25 (.conv .u64 (.t 24))),(kQ 26 1 140 [(.t 23),(.t 25)]),(mQ 21 26),(oQ 27 (.ext 0 (.t 21))),(oQ 28 (.ext 1 (.t 21))),(mQ 11 27),(mQ 12 28)])
 (.seq (.block 0 (.seq (.reg [(mQ 30 9),(mQ 31 11),(bQ 32 .eql 30 31),(mQ 33 32),(vQ 34 33 true 10),(vQ 35 33 true 12),(gQ 36 33 true (.bin .eql (.t 34) (.t 35))),(oQ 37 (.pick (.t 33) (.t 36) cF)),(mQ 29 37)])
 (.cond (.t 29) (.seq (.reg [(oQ 8 (.mv (iQ 0)))])
 .ret) (.seq (.reg [(mQ 39 9),(mQ 40 11),(bQ 41 .gtr 39 40),(mQ 42 41),(vQ 43 42 false 9),(vQ 44 42 false 11),(gQ 45 42 false (.bin .eql (.t 43) (.t 44))),(vQ 46 42 false 45),(vQ 47 46 true 10),(vQ 48 46 true 12),(gQ 49 46 true (.bin .gtr (.t 47) (.t 48))),(gQ 50 42 false (.pick (.t 46) (.t 49) cF)),(oQ 51 (.pick (.t 42) cT (.t 50))),(mQ 38 51)])
 (.cond (.t 38) (.seq (.reg [(oQ 8 (.mv (iQ 1)))])
 .ret) .skip)))))
 (.seq (.reg [(oQ 8 (.mv (iQ (-1))))])
 .ret)))))⟩
def A_Z14:Nat→Ty := tyAt [.un,.un]
abbrev P_Z14:List PSh := [.one tQ,.one tQ,.one tQ,.one tQ]
abbrev R_Z14:List PSh := [.one tQ]
theorem e_Z14:cFn Try.prog 116 = some F_Z14.erase := by kernel_rfl
theorem k_Z14:callable Try.prog 116 = true := by kernel_rfl
def F_Z15:TFn := ⟨9,5,[.celln 4 4],(.seq (.reg [(oQ 2 (.box 0 (.t 0))),(oQ 3 (.box 1 (.t 1))),(oQ 4 (.newz 2 [zQ,(.p (.sl 0 [] true)),zQ,(.p (.sl 0 [] true))]))])
 (.seq (.regd [(nQ 5 4 2),(nQ 6 4 3),(kQ 7 3 118 [(.t 6)]),(kQ 8 4 87 [(.t 5),(.t 7)]),(sQ 4 4 8)] [(0,1),(0,2)] [])
 .ret))⟩
def A_Z15:Nat→Ty := tyAt [.un,.un,.un,.un,.un]
abbrev P_Z15:List PSh := [.agg (.pr (.pr tQ (.sl tQ)) (.pr tQ (.sl tQ))),.agg (.pr (.pr tQ (.sl tQ)) (.pr tQ (.sl tQ)))]
abbrev R_Z15:List PSh := [.agg (.pr (.pr tQ (.sl tQ)) (.pr tQ (.sl tQ)))]
theorem e_Z15:cFn Try.prog 117 = some F_Z15.erase := by kernel_rfl
theorem k_Z15:callable Try.prog 117 = true := by kernel_rfl
def F_Zv:TFn := ⟨9,3,[.celln 2 4],(.seq (.reg [(oQ 1 (.box 0 (.t 0))),(oQ 2 (.newz 1 [zQ,(.p (.sl 0 [] true)),zQ,(.p (.sl 0 [] true))]))])
 (.seq (.regd [(fQ 3 0 1),(nQ 4 2 3),(kQ 5 2 141 [(.t 4)]),(fQ 6 2 1),(nQ 7 2 6),(oQ 8 (.build [zQ,(.p (.sl 0 [] true)),zQ,(.p (.sl 0 [] true))] [(0,2,(.t 5)),(2,2,(.t 7))])),(sQ 4 2 8)] [(1,4),(2,4)] [])
 .ret))⟩
def A_Zv:Nat→Ty := tyAt [.un,.un,.un]
abbrev P_Zv:List PSh := [.agg (.pr (.pr tQ (.sl tQ)) (.pr tQ (.sl tQ)))]
abbrev R_Zv:List PSh := [.agg (.pr (.pr tQ (.sl tQ)) (.pr tQ (.sl tQ)))]
theorem e_Zv:cFn Try.prog 118 = some F_Zv.erase := by kernel_rfl
theorem k_Zv:callable Try.prog 118 = true := by kernel_rfl
def F_Z2b:TFn := ⟨37,4,[.tmp 6],(.seq (.reg [(oQ 3 (.box 0 (.t 0))),(oQ 4 (.box 1 (.t 1))),(oQ 6 (.mv cF))])
 (.seq (.seq (.reg [(fQ 10 0 3),(lQ 11 10),(hQ 12 11),(oQ 13 (.mv (iQ 0)))])
 (.block 0 (.loop [.v 13 tQ] [2,3] [2,3] (.seq (.reg [(bQ 14 .lss 13 12)])
 (.seq (.cond (.t 14) .skip (.exit 0))
 (.seq (.block 1 (.seq (.reg [(mQ 15 13),(jQ 16 2 11 13),(nQ 17 2 16),(oQ 8 (.newz 2 [zQ,zQ])),(mQ 7 15),(sQ 2 8 17)])
 (.seq (.reg [(fQ 18 0 4),(lQ 19 18),(mQ 20 7),(jQ 21 2 19 20),(nQ 22 2 21),(oQ 9 (.newz 3 [zQ,zQ])),(sQ 2 9 22)])
 (.seq (.reg [(fQ 23 0 8),(lQ 24 23),(fQ 25 0 9),(lQ 26 25),(oQ 27 (.mm true (.t 24) (.t 26))),(fQ 28 0 8),(lQ 29 28),(fQ 30 0 9),(lQ 31 30),(oQ 32 (.mm false (.t 29) (.t 31))),(bQ 33 .sub 27 32),(mQ 34 2),(bQ 35 .geq 33 34)])
 (.cond (.t 35) (.seq (.reg [(oQ 6 (.mv cT))])
 .ret) .skip)))))
 (.reg [(cQ 36 .add 13 1),(mQ 13 36)])))))))
 (.seq (.reg [(oQ 6 (.mv cF))])
 .ret)))⟩
theorem e_Z2b:cFn Try.prog 124 = some F_Z2b.erase := by kernel_rfl
def F_Z1e:TFn := ⟨4,1,[.tmp 2],(.seq (.reg [(oQ 1 (.box 0 (.t 0))),(oQ 2 (.mv (.c .und)))])
 (.seq (.reg [(oQ 3 (.clo 144 [(.t 1)])),(mQ 2 3)])
 .ret))⟩
def A_Z1e:Nat→Ty := tyAt [.un]
abbrev P_Z1e:List PSh := [.one (.sl pQ)]
abbrev R_Z1e:List PSh := [.fn 144 [(.sl pQ)]]
theorem e_Z1e:cFn Try.prog 125 = some F_Z1e.erase := by kernel_rfl
theorem k_Z1e:callable Try.prog 125 = true := by kernel_rfl
def F_Z1n:TFn := ⟨19,1,[],(.seq (.reg [(lQ 4 1),(hQ 5 4),(cQ 6 .sub 5 1),(mQ 3 6)])
 (.block 0 (.loop [] [] [] (.seq (.seq (.reg [(mQ 7 3),(cQ 8 .geq 7 0)])
 (.cond (.t 8) .skip (.exit 0)))
 (.seq (.block 1 (.seq (.reg [(mQ 11 0),(mQ 12 3),(lQ 13 1),(mQ 14 3),(jQ 15 2 13 14),(nQ 16 2 15),⟨some 17,none,(.callv 0 (.t 11) [(.t 12),(.t 16)])⟩,(oQ 18 (.unot (.t 17)))])
 (.cond (.t 18) .ret .skip)))
 (.reg [(mQ 9 3),(cQ 10 .sub 9 1),(mQ 3 10)]))))))⟩
theorem e_Z1n:cFn Try.prog 144 = some F_Z1n.erase := by kernel_rfl
theorem k_Z1n:callI Try.prog 144 = true := by kernel_rfl
def F_Zs:TFn := ⟨16,2,[.celln 4 2],(.seq (.reg [(oQ 4 (.newz 0 [zQ,zQ]))])
 (.seq (.reg [(mQ 6 0),(mQ 7 1),(kQ 8 1 145 [(.t 6),(.t 7)]),(mQ 5 8)])
 (.seq (.regd [(mQ 9 0),(mQ 10 5),(bQ 11 .quo 9 10),(mQ 12 1),(mQ 13 5),(bQ 14 .quo 12 13),(oQ 15 (.build [zQ,zQ] [(0,1,(.t 11)),(1,1,(.t 14))])),(sQ 2 4 15)] [] [])
 .ret)))⟩
def A_Zs:Nat→Ty := tyAt [.un,.un]
abbrev P_Zs:List PSh := [.one tQ,.one tQ]
abbrev R_Zs:List PSh := [.agg pQ]
theorem e_Zs:cFn Try.prog 126 = some F_Zs.erase := by kernel_rfl
theorem k_Zs:callable Try.prog 126 = true := by kernel_rfl
def F_Zg:TFn := ⟨20,5,[.celln 2 2],(.seq (.reg [(oQ 2 (.newz 0 [zQ,(.p (.sl 0 [] true))]))])
 (.seq (.reg [(oQ 3 (.mv (iQ 1)))])
 (.seq (.seq (.reg [(mQ 5 0),(cQ 6 .lss 5 0)])
 (.cond (.t 6) (.reg [(oQ 3 (.mv (iQ (-1))))]) .skip))
 (.seq (.reg [(oQ 4 (.mv (.c (.p (.sl 0 [] true)))))])
 (.seq (.block 0 (.loop [.v 0 tQ,.o 4 3 tQ] [3] [3] (.seq (.seq (.reg [(mQ 7 0),(cQ 8 .neq 7 0)])
 (.cond (.t 8) .skip (.exit 0)))
 (.block 1 (.seq (.reg [(mQ 9 4),(mQ 10 0),(cQ 11 .rem 10 1000000000),(kQ 12 1 131 [(.t 11)]),(oQ 13 (.bsl false 2 1 1 [zQ] [(0,1,(.t 12))])),(oQ 14 (.app 3 1 8 (.t 9) (.t 13))),(mQ 4 14)])
 (.reg [(mQ 15 0),(cQ 16 .quo 15 1000000000),(mQ 0 16)]))))))
 (.seq (.reg [(mQ 17 3),(mQ 18 4),(kQ 19 4 146 [(.t 17),(.t 18)]),(sQ 2 2 19)])
 .ret))))))⟩
def A_Zg:Nat→Ty := tyAt [.un,.un,tQ,tQ,.un]
abbrev P_Zg:List PSh := [.one tQ]
abbrev R_Zg:List PSh := [.agg (.pr tQ (.sl tQ))]
theorem e_Zg:cFn Try.prog 127 = some F_Zg.erase := by kernel_rfl
theorem k_Zg:callable Try.prog 127 = true := by kernel_rfl
def F_Zj:TFn := ⟨30,12,[.celln 4 4],(.seq (.reg [(oQ 2 (.box 0 (.t 0))),(oQ 3 (.box 1 (.t 1))),(oQ 4 (.newz 2 [zQ,(.p (.sl 0 [] true)),zQ,(.p (.sl 0 [] true))]))])
 (.seq (.seq (.reg [(nQ 6 2 3),(kQ 7 3 139 [(.t 6)]),(cQ 8 .lss 7 0)])
 (.cond (.t 8) (.regd [(nQ 9 2 2),(kQ 10 4 141 [(.t 9)]),(nQ 11 2 3),(kQ 12 5 141 [(.t 11)]),(sQ 2 2 10),(sQ 2 3 12)] [(0,2),(1,2)] []) .skip))
 (.seq (.reg [(nQ 13 2 2),(nQ 14 2 3),(kQ 15 6 147 [(.t 13),(.t 14)]),(oQ 5 (.newz 7 [zQ,(.p (.sl 0 [] true))])),(sQ 2 5 15)])
 (.seq (.seq (.regd [(nQ 16 2 5),(kQ 17 8 127 [(iQ 1)]),(kQ 18 9 134 [(.t 16),(.t 17)]),(cQ 19 .eql 18 0)] [(0,1)] [])
 (.cond (.t 19) (.seq (.reg [(nQ 20 2 2),(nQ 21 2 3),(oQ 22 (.build [zQ,(.p (.sl 0 [] true)),zQ,(.p (.sl 0 [] true))] [(0,2,(.t 20)),(2,2,(.t 21))])),(sQ 4 4 22)])
 .ret) .skip))
 (.seq (.regd [(nQ 23 2 2),(nQ 24 2 5),(kQ 25 10 148 [(.t 23),(.t 24)]),(nQ 26 2 3),(nQ 27 2 5),(kQ 28 11 148 [(.t 26),(.t 27)]),(oQ 29 (.build [zQ,(.p (.sl 0 [] true)),zQ,(.p (.sl 0 [] true))] [(0,2,(.t 25)),(2,2,(.t 28))])),(sQ 4 4 29)] [(0,1),(0,3),(1,3),(2,3),(0,4),(1,4),(2,4),(3,4)] [])
 .ret)))))⟩
def A_Zj:Nat→Ty := tyAt [.un,.un,.un,.un,.un,.un,.un,.un,.un,.un,.un,.un]
abbrev P_Zj:List PSh := [.agg (.pr tQ (.sl tQ)),.agg (.pr tQ (.sl tQ))]
abbrev R_Zj:List PSh := [.agg (.pr (.pr tQ (.sl tQ)) (.pr tQ (.sl tQ)))]
theorem e_Zj:cFn Try.prog 128 = some F_Zj.erase := by kernel_rfl
theorem k_Zj:callable Try.prog 128 = true := by kernel_rfl
def F_Z3:TFn := ⟨86,5,[.celln 4 2],(.seq (.reg [(oQ 2 (.box 0 (.t 0))),(oQ 3 (.box 1 (.t 1))),(oQ 4 (.newz 2 [zQ,(.p (.sl 0 [] true))]))])
 (.seq (.reg [(fQ 10 1 2),(lQ 11 10),(hQ 12 11),(fQ 13 1 3),(lQ 14 13),(hQ 15 14),(bQ 16 .add 12 15),(cQ 17 .add 16 1),(oQ 18 (.mk 3 1 8 [zQ] (.t 17))),(mQ 5 18)])
 (.seq (.seq (.reg [(oQ 6 (.mv (iQ 0)))])
 (.block 0 (.loop [.v 6 tQ,.d 3 tQ] [3] [] (.seq (.seq (.reg [(mQ 19 6),(fQ 20 1 2),(lQ 21 20),(hQ 22 21),(bQ 23 .lss 19 22)])
 (.cond (.t 23) .skip (.exit 0)))
 (.seq (.block 1 (.seq (.reg [(oQ 7 (.mv (iQ 0)))])
 (.seq (.seq (.reg [(oQ 8 (.mv (iQ 0)))])
 (.block 2 (.loop [.v 8 tQ,.v 7 tQ,.d 3 tQ] [3] [] (.seq (.seq (.reg [(mQ 26 8),(fQ 27 1 3),(lQ 28 27),(hQ 29 28),(bQ 30 .lss 26 29)])
 (.cond (.t 30) .skip (.exit 2)))
 (.seq (.block 3 (.seq (.regd [(mQ 33 5),(mQ 34 6),(mQ 35 8),(bQ 36 .add 34 35),(jQ 37 1 33 36),(lQ 38 37),(fQ 39 1 2),(lQ 40 39),(mQ 41 6),(jQ 42 1 40 41),(lQ 43 42),(fQ 44 1 3),(lQ 45 44),(mQ 46 8),(jQ 47 1 45 46),(lQ 48 47),(bQ 49 .mul 43 48),(bQ 50 .add 38 49),(mQ 51 7),(bQ 52 .add 50 51),(mQ 9 52)] [(5,7),(5,10),(5,12),(7,12),(10,12),(5,15),(7,15),(10,15)] [])
 (.reg [(mQ 53 5),(mQ 54 6),(mQ 55 8),(bQ 56 .add 54 55),(mQ 57 9),(cQ 58 .rem 57 1000000000),(mQ 59 9),(cQ 60 .quo 59 1000000000),(jQ 61 1 53 56),(sQ 1 61 58),(mQ 7 60)])))
 (.reg [(mQ 31 8),(cQ 32 .add 31 1),(mQ 8 32)]))))))
 (.regd [(mQ 62 5),(mQ 63 6),(fQ 64 1 3),(lQ 65 64),(hQ 66 65),(bQ 67 .add 63 66),(mQ 68 5),(mQ 69 6),(fQ 70 1 3),(lQ 71 70),(hQ 72 71),(bQ 73 .add 69 72),(jQ 74 1 68 73),(lQ 75 74),(mQ 76 7),(bQ 77 .add 75 76),(jQ 78 1 62 67),(sQ 1 78 77)] [(3,9),(3,13)] []))))
 (.reg [(mQ 24 6),(cQ 25 .add 24 1),(mQ 6 25)]))))))
 (.seq (.reg [(fQ 79 0 2),(lQ 80 79),(fQ 81 0 3),(lQ 82 81),(bQ 83 .mul 80 82),(mQ 84 5),(kQ 85 4 146 [(.t 83),(.t 84)]),(sQ 2 4 85)])
 .ret))))⟩
def A_Z3:Nat→Ty := tyAt [.un,.un,.un,tQ,.un]
abbrev P_Z3:List PSh := [.agg (.pr tQ (.sl tQ)),.agg (.pr tQ (.sl tQ))]
abbrev R_Z3:List PSh := [.agg (.pr tQ (.sl tQ))]
theorem e_Z3:cFn Try.prog 129 = some F_Z3.erase := by kernel_rfl
theorem k_Z3:callable Try.prog 129 = true := by kernel_rfl
def F_Zw:TFn := ⟨53,10,[.celln 4 2],(.seq (.reg [(oQ 2 (.box 0 (.t 0))),(oQ 3 (.box 1 (.t 1))),(oQ 4 (.newz 2 [zQ,(.p (.sl 0 [] true))]))])
 (.seq (.seq (.reg [(fQ 6 0 2),(lQ 7 6),(cQ 8 .eql 7 0)])
 (.cond (.t 8) (.seq (.reg [(nQ 9 2 3),(sQ 2 4 9)])
 .ret) .skip))
 (.seq (.seq (.reg [(fQ 10 0 3),(lQ 11 10),(cQ 12 .eql 11 0)])
 (.cond (.t 12) (.seq (.reg [(nQ 13 2 2),(sQ 2 4 13)])
 .ret) .skip))
 (.seq (.seq (.reg [(fQ 14 0 2),(lQ 15 14),(fQ 16 0 3),(lQ 17 16),(bQ 18 .eql 15 17)])
 (.cond (.t 18) (.seq (.regd [(fQ 19 0 2),(lQ 20 19),(fQ 21 1 2),(lQ 22 21),(fQ 23 1 3),(lQ 24 23),(kQ 25 3 149 [(.t 22),(.t 24)]),(kQ 26 4 146 [(.t 20),(.t 25)]),(sQ 2 4 26)] [(1,3),(1,5),(3,5),(1,6)] [])
 .ret) .skip))
 (.seq (.reg [(fQ 27 1 2),(lQ 28 27),(fQ 29 1 3),(lQ 30 29),(kQ 31 5 150 [(.t 28),(.t 30)]),(mQ 5 31)])
 (.seq (.seq (.reg [(mQ 32 5),(cQ 33 .eql 32 0)])
 (.cond (.t 33) (.seq (.reg [(oQ 34 (.build [zQ,(.p (.sl 0 [] true))] [])),(sQ 2 4 34)])
 .ret) .skip))
 (.seq (.seq (.reg [(mQ 35 5),(cQ 36 .gtr 35 0)])
 (.cond (.t 36) (.seq (.regd [(fQ 37 0 2),(lQ 38 37),(fQ 39 1 2),(lQ 40 39),(fQ 41 1 3),(lQ 42 41),(kQ 43 6 151 [(.t 40),(.t 42)]),(kQ 44 7 146 [(.t 38),(.t 43)]),(sQ 2 4 44)] [(1,3),(1,5),(3,5),(1,6)] [])
 .ret) .skip))
 (.seq (.regd [(fQ 45 0 3),(lQ 46 45),(fQ 47 1 3),(lQ 48 47),(fQ 49 1 2),(lQ 50 49),(kQ 51 8 151 [(.t 48),(.t 50)]),(kQ 52 9 146 [(.t 46),(.t 51)]),(sQ 2 4 52)] [(1,3),(1,5),(3,5),(1,6)] [])
 .ret))))))))⟩
def A_Zw:Nat→Ty := tyAt [.un,.un,.un,.un,.un,.un,.un,.un,.un,.un]
abbrev P_Zw:List PSh := [.agg (.pr tQ (.sl tQ)),.agg (.pr tQ (.sl tQ))]
abbrev R_Zw:List PSh := [.agg (.pr tQ (.sl tQ))]
theorem e_Zw:cFn Try.prog 130 = some F_Zw.erase := by kernel_rfl
theorem k_Zw:callable Try.prog 130 = true := by kernel_rfl
def F_Z17:TFn := ⟨7,0,[.tmp 2],(.seq (.reg [(oQ 2 (.mv (iQ 0)))])
 (.seq (.reg [(mQ 3 0),(mQ 4 0),(oQ 5 (.uneg (.t 4))),(oQ 6 (.mm true (.t 3) (.t 5))),(mQ 2 6)])
 .ret))⟩
def A_Z17:Nat→Ty := tyAt []
abbrev P_Z17:List PSh := [.one tQ]
abbrev R_Z17:List PSh := [.one tQ]
theorem e_Z17:cFn Try.prog 131 = some F_Z17.erase := by kernel_rfl
theorem k_Z17:callable Try.prog 131 = true := by kernel_rfl
def F_Z2c:TFn := ⟨4,1,[.tmp 2],(.seq (.reg [(oQ 1 (.box 0 (.t 0))),(oQ 2 (.mv (.c .und)))])
 (.seq (.reg [(oQ 3 (.clo 152 [(.t 1)])),(mQ 2 3)])
 .ret))⟩
theorem e_Z2c:cFn Try.prog 133 = some F_Z2c.erase := by kernel_rfl
def F_Z2j:TFn := ⟨19,1,[],(.seq (.reg [(lQ 4 1),(hQ 5 4),(cQ 6 .sub 5 1),(mQ 3 6)])
 (.block 0 (.loop [] [] [] (.seq (.seq (.reg [(mQ 7 3),(cQ 8 .geq 7 0)])
 (.cond (.t 8) .skip (.exit 0)))
 (.seq (.block 1 (.seq (.reg [(mQ 11 0),(mQ 12 3),(lQ 13 1),(mQ 14 3),(jQ 15 2 13 14),(nQ 16 2 15),⟨some 17,none,(.callv 0 (.t 11) [(.t 12),(.t 16)])⟩,(oQ 18 (.unot (.t 17)))])
 (.cond (.t 18) .ret .skip)))
 (.reg [(mQ 9 3),(cQ 10 .sub 9 1),(mQ 3 10)]))))))⟩
theorem e_Z2j:cFn Try.prog 152 = some F_Z2j.erase := by kernel_rfl
def F_Z2d:TFn := ⟨17,0,[.tmp 3],(.seq (.reg [(oQ 3 (.mv (iQ 0)))])
 (.seq (.reg [(mQ 5 0),(lQ 6 1),(mQ 7 0),(hQ 8 7),(bQ 9 .rem 6 8),(jQ 10 1 5 9),(lQ 11 10),(mQ 4 11)])
 (.seq (.reg [(lQ 12 1),(mQ 13 0),(hQ 14 13),(bQ 15 .quo 12 14),(sQ 1 1 15)])
 (.seq (.reg [(mQ 16 4),(mQ 3 16)])
 .ret))))⟩
theorem e_Z2d:cFnM Try.prog 132 = some F_Z2d.erase := by kernel_rfl
def F_Zx:TFn := ⟨9,3,[.tmp 4],(.seq (.reg [(oQ 2 (.box 0 (.t 0))),(oQ 3 (.box 1 (.t 1))),(oQ 4 (.mv (iQ 0)))])
 (.seq (.reg [(nQ 5 2 2),(nQ 6 2 3),(kQ 7 2 153 [(.t 5),(.t 6)]),(oQ 8 (.prt 0 none (.t 7))),(mQ 4 8)])
 .ret))⟩
def A_Zx:Nat→Ty := tyAt [.un,.un,.un]
abbrev P_Zx:List PSh := [.agg (.pr tQ (.sl tQ)),.agg (.pr tQ (.sl tQ))]
abbrev R_Zx:List PSh := [.one tQ]
theorem e_Zx:cFn Try.prog 134 = some F_Zx.erase := by kernel_rfl
theorem k_Zx:callable Try.prog 134 = true := by kernel_rfl
def F_Z2e:TFn := ⟨9,1,[.tmp 4],(.seq (.reg [(oQ 4 (.mv cF))])
 (.seq (.reg [(mQ 5 0),(mQ 6 1),(kQ 7 0 154 [(.t 5),(.t 6)]),(cQ 8 .geq 7 0),(mQ 4 8)])
 .ret))⟩
theorem e_Z2e:cFn Try.prog 135 = some F_Z2e.erase := by kernel_rfl
def F_Z19:TFn := ⟨5,1,[.tmp 2],(.seq (.reg [(oQ 1 (.box 0 (.t 0))),(oQ 2 (.mv (iQ 0)))])
 (.seq (.reg [(fQ 3 0 1),(lQ 4 3),(mQ 2 4)])
 .ret))⟩
def A_Z19:Nat→Ty := tyAt [.un]
abbrev P_Z19:List PSh := [.agg (.pr tQ (.sl tQ))]
abbrev R_Z19:List PSh := [.one tQ]
theorem e_Z19:cFn Try.prog 139 = some F_Z19.erase := by kernel_rfl
theorem k_Z19:callable Try.prog 139 = true := by kernel_rfl
def F_Z1l:TFn := ⟨8,2,[.tmp 2],(.seq (.reg [(oQ 2 (.mv (.c (.p (.sl 0 [] true)))))])
 (.seq (.seq (.reg [(mQ 3 0),(oQ 4 (.isn (.t 3)))])
 (.cond (.t 4) (.seq (.reg [(oQ 2 (.mv (.c (.p (.sl 0 [] true)))))])
 .ret) .skip))
 (.seq (.reg [(oQ 5 (.bsl true 0 2 0 [] [])),(mQ 6 0),(oQ 7 (.app 1 2 16 (.t 5) (.t 6))),(mQ 2 7)])
 .ret)))⟩
def A_Z1l:Nat→Ty := tyAt [pQ,pQ]
abbrev P_Z1l:List PSh := [.one (.sl pQ)]
abbrev E_Z1l:Ty := pQ
theorem e_Z1l:cFn Try.prog 115 = some F_Z1l.erase := by kernel_rfl
theorem k_Z1l:callable Try.prog 115 = true := by kernel_rfl
def F_Z18:TFn := ⟨51,0,[.tmp 4,.tmp 5],(.seq (.reg [(oQ 4 (.mv (.c (.p (.int .u64 0))))),(oQ 5 (.mv (.c (.p (.int .u64 0)))))])
 (.seq (.reg [(mQ 14 0),(oQ 15 (.bin .and (.t 14) (.c (.p (.int .u64 4294967295))))),(mQ 6 15)])
 (.seq (.reg [(mQ 16 0),(oQ 17 (.sh false (.t 16) (.c (.p (.int .u64 32))))),(mQ 7 17)])
 (.seq (.reg [(mQ 18 1),(oQ 19 (.bin .and (.t 18) (.c (.p (.int .u64 4294967295))))),(mQ 8 19)])
 (.seq (.reg [(mQ 20 1),(oQ 21 (.sh false (.t 20) (.c (.p (.int .u64 32))))),(mQ 9 21)])
 (.seq (.reg [(mQ 22 6),(mQ 23 8),(bQ 24 .mul 22 23),(mQ 10 24)])
 (.seq (.reg [(mQ 25 7),(mQ 26 8),(bQ 27 .mul 25 26),(mQ 28 10),(oQ 29 (.sh false (.t 28) (.c (.p (.int .u64 32))))),(bQ 30 .add 27 29),(mQ 11 30)])
 (.seq (.reg [(mQ 31 11),(oQ 32 (.bin .and (.t 31) (.c (.p (.int .u64 4294967295))))),(mQ 12 32)])
 (.seq (.reg [(mQ 33 11),(oQ 34 (.sh false (.t 33) (.c (.p (.int .u64 32))))),(mQ 13 34)])
 (.seq (.reg [(mQ 35 12),(mQ 36 6),(mQ 37 9),(bQ 38 .mul 36 37),(bQ 39 .add 35 38),(mQ 12 39)])
 (.seq (.reg [(mQ 40 7),(mQ 41 9),(bQ 42 .mul 40 41),(mQ 43 13),(bQ 44 .add 42 43),(mQ 45 12),(oQ 46 (.sh false (.t 45) (.c (.p (.int .u64 32))))),(bQ 47 .add 44 46),(mQ 4 47)])
 (.seq (.reg [(mQ 48 0),(mQ 49 1),(bQ 50 .mul 48 49),(mQ 5 50)])
 .ret))))))))))))⟩
def A_Z18:Nat→Ty := tyAt []
abbrev P_Z18:List PSh := [.one (.int .u64),.one (.int .u64)]
abbrev R_Z18:List PSh := [.one (.int .u64),.one (.int .u64)]
theorem e_Z18:cFn Try.prog 140 = some F_Z18.erase := by kernel_rfl
theorem k_Z18:callable Try.prog 140 = true := by kernel_rfl
def F_Zo:TFn := ⟨9,2,[.celln 2 2],(.seq (.reg [(oQ 1 (.box 0 (.t 0))),(oQ 2 (.newz 1 [zQ,(.p (.sl 0 [] true))]))])
 (.seq (.reg [(fQ 3 0 1),(lQ 4 3),(oQ 5 (.uneg (.t 4))),(fQ 6 1 1),(lQ 7 6),(oQ 8 (.build [zQ,(.p (.sl 0 [] true))] [(0,1,(.t 5)),(1,1,(.t 7))])),(sQ 2 2 8)])
 .ret))⟩
def A_Zo:Nat→Ty := tyAt [.un,.un]
abbrev P_Zo:List PSh := [.agg (.pr tQ (.sl tQ))]
abbrev R_Zo:List PSh := [.agg (.pr tQ (.sl tQ))]
theorem e_Zo:cFn Try.prog 141 = some F_Zo.erase := by kernel_rfl
theorem k_Zo:callable Try.prog 141 = true := by kernel_rfl
def F_Zm:TFn := ⟨13,0,[.tmp 4],(.seq (.reg [(oQ 4 (.mv (iQ 0)))])
 (.seq (.block 0 (.loop [.v 1 tQ,.v 0 tQ] [] [] (.seq (.seq (.reg [(mQ 5 1),(cQ 6 .neq 5 0)])
 (.cond (.t 6) .skip (.exit 0)))
 (.block 1 (.regd [(mQ 7 1),(mQ 8 0),(mQ 9 1),(bQ 10 .rem 8 9),(mQ 0 7),(mQ 1 10)] [] [])))))
 (.seq (.reg [(mQ 11 0),(oQ 12 (.mm true (.t 11) (iQ 1))),(mQ 4 12)])
 .ret)))⟩
def A_Zm:Nat→Ty := tyAt []
abbrev P_Zm:List PSh := [.one tQ,.one tQ]
abbrev R_Zm:List PSh := [.one tQ]
theorem e_Zm:cFn Try.prog 145 = some F_Zm.erase := by kernel_rfl
theorem k_Zm:callable Try.prog 145 = true := by kernel_rfl
def F_Zp:TFn := ⟨13,2,[.celln 4 2],(.seq (.reg [(oQ 4 (.newz 0 [zQ,(.p (.sl 0 [] true))]))])
 (.seq (.reg [(mQ 5 1),(kQ 6 1 156 [(.t 5)]),(mQ 1 6)])
 (.seq (.seq (.reg [(mQ 7 1),(hQ 8 7),(cQ 9 .eql 8 0)])
 (.cond (.t 9) (.reg [(oQ 0 (.mv (iQ 0)))]) .skip))
 (.seq (.reg [(mQ 10 0),(mQ 11 1),(oQ 12 (.build [zQ,(.p (.sl 0 [] true))] [(0,1,(.t 10)),(1,1,(.t 11))])),(sQ 2 4 12)])
 .ret))))⟩
def A_Zp:Nat→Ty := tyAt [.un,.un]
abbrev P_Zp:List PSh := [.one tQ,.one (.sl tQ)]
abbrev R_Zp:List PSh := [.agg (.pr tQ (.sl tQ))]
theorem e_Zp:cFn Try.prog 146 = some F_Zp.erase := by kernel_rfl
theorem k_Zp:callable Try.prog 146 = true := by kernel_rfl
def F_Z9:TFn := ⟨23,10,[.celln 4 2],(.seq (.reg [(oQ 2 (.box 0 (.t 0))),(oQ 3 (.box 1 (.t 1))),(oQ 4 (.newz 2 [zQ,(.p (.sl 0 [] true))]))])
 (.seq (.regd [(nQ 6 2 2),(kQ 7 3 157 [(.t 6)]),(nQ 8 2 3),(kQ 9 4 157 [(.t 8)]),(sQ 2 2 7),(sQ 2 3 9)] [(0,2),(1,2)] [])
 (.seq (.block 0 (.loop [.c 0 (.pr tQ (.sl tQ)),.c 1 (.pr tQ (.sl tQ))] [0,1,9] [9] (.seq (.seq (.reg [(nQ 10 2 3),(kQ 11 5 139 [(.t 10)]),(cQ 12 .neq 11 0)])
 (.cond (.t 12) .skip (.exit 0)))
 (.block 1 (.seq (.regd [(nQ 13 2 2),(nQ 14 2 2),(nQ 15 2 3),(kQ 16 6 148 [(.t 14),(.t 15)]),(nQ 17 2 3),(kQ 18 7 129 [(.t 16),(.t 17)]),(kQ 19 8 153 [(.t 13),(.t 18)]),(oQ 5 (.newz 9 [zQ,(.p (.sl 0 [] true))])),(sQ 2 5 19)] [(0,1),(0,2),(1,2),(0,3),(0,4),(1,4),(2,4),(3,4),(0,5),(0,7),(1,7),(2,7),(3,7),(4,7),(5,7),(6,7)] [])
 (.regd [(nQ 20 2 3),(nQ 21 2 5),(sQ 2 2 20),(sQ 2 3 21)] [(0,1),(1,2)] []))))))
 (.seq (.reg [(nQ 22 2 2),(sQ 2 4 22)])
 .ret))))⟩
def A_Z9:Nat→Ty := tyAt [.un,.un,.un,.un,.un,.un,.un,.un,.un,.un]
abbrev P_Z9:List PSh := [.agg (.pr tQ (.sl tQ)),.agg (.pr tQ (.sl tQ))]
abbrev R_Z9:List PSh := [.agg (.pr tQ (.sl tQ))]
theorem e_Z9:cFn Try.prog 147 = some F_Z9.erase := by kernel_rfl
theorem k_Z9:callable Try.prog 147 = true := by kernel_rfl
def F_Z5:TFn := ⟨88,20,[.celln 4 2],(.seq (.reg [(oQ 2 (.box 0 (.t 0))),(oQ 3 (.box 1 (.t 1))),(oQ 4 (.newz 2 [zQ,(.p (.sl 0 [] true))]))])
 (.seq (.seq (.reg [(fQ 12 0 2),(lQ 13 12),(cQ 14 .eql 13 0)])
 (.cond (.t 14) (.seq (.reg [(oQ 15 (.build [zQ,(.p (.sl 0 [] true))] [])),(sQ 2 4 15)])
 .ret) .skip))
 (.seq (.reg [(fQ 16 1 2),(lQ 17 16),(hQ 18 17),(oQ 19 (.mk 3 1 8 [zQ] (.t 18))),(oQ 20 (.bsl false 4 1 0 [] [])),(mQ 5 19),(mQ 6 20)])
 (.seq (.seq (.reg [(fQ 21 1 2),(lQ 22 21),(hQ 23 22),(cQ 24 .sub 23 1),(mQ 7 24)])
 (.block 0 (.loop [.v 7 tQ,.v 6 (.sl tQ),.d 3 tQ] [3,5] [5] (.seq (.seq (.reg [(mQ 25 7),(cQ 26 .geq 25 0)])
 (.cond (.t 26) .skip (.exit 0)))
 (.seq (.block 1 (.seq (.reg [(fQ 29 1 2),(lQ 30 29),(mQ 31 7),(jQ 32 1 30 31),(lQ 33 32),(oQ 34 (.bsl true 5 1 1 [zQ] [(0,1,(.t 33))])),(mQ 35 6),(oQ 36 (.app 6 1 8 (.t 34) (.t 35))),(kQ 37 7 156 [(.t 36)]),(mQ 6 37)])
 (.seq (.reg [(oQ 8 (.mv (iQ 0))),(oQ 9 (.mv (iQ 999999999)))])
 (.seq (.block 2 (.loop [.v 9 tQ,.v 8 tQ] [] [] (.seq (.seq (.reg [(mQ 38 8),(mQ 39 9),(bQ 40 .lss 38 39)])
 (.cond (.t 40) .skip (.exit 2)))
 (.block 3 (.seq (.reg [(mQ 41 8),(mQ 42 9),(bQ 43 .add 41 42),(cQ 44 .add 43 1),(cQ 45 .quo 44 2),(mQ 10 45)])
 (.seq (.reg [(fQ 46 1 3),(lQ 47 46),(kQ 48 8 146 [(iQ 1),(.t 47)]),(mQ 49 10),(kQ 50 9 127 [(.t 49)]),(kQ 51 10 129 [(.t 48),(.t 50)]),(oQ 52 (.prt 1 none (.t 51))),(mQ 53 6),(kQ 54 11 150 [(.t 52),(.t 53)]),(cQ 55 .leq 54 0)])
 (.cond (.t 55) (.reg [(mQ 56 10),(mQ 8 56)]) (.reg [(mQ 57 10),(cQ 58 .sub 57 1),(mQ 9 58)]))))))))
 (.seq (.reg [(mQ 59 5),(mQ 60 7),(mQ 61 8),(jQ 62 1 59 60),(sQ 1 62 61)])
 (.reg [(mQ 63 6),(fQ 64 1 3),(lQ 65 64),(kQ 66 12 146 [(iQ 1),(.t 65)]),(mQ 67 8),(kQ 68 13 127 [(.t 67)]),(kQ 69 14 129 [(.t 66),(.t 68)]),(oQ 70 (.prt 1 none (.t 69))),(kQ 71 15 151 [(.t 63),(.t 70)]),(mQ 6 71)]))))))
 (.reg [(mQ 27 7),(cQ 28 .sub 27 1),(mQ 7 28)]))))))
 (.seq (.reg [(fQ 72 0 2),(lQ 73 72),(mQ 74 5),(kQ 75 16 146 [(.t 73),(.t 74)]),(oQ 11 (.newz 17 [zQ,(.p (.sl 0 [] true))])),(sQ 2 11 75)])
 (.seq (.seq (.reg [(fQ 76 0 2),(lQ 77 76),(cQ 78 .lss 77 0),(mQ 79 78),(vQ 80 79 true 6),(gQ 81 79 true (.len false (.t 80))),(gQ 82 79 true (.bin .gtr (.t 81) (iQ 0))),(oQ 83 (.pick (.t 79) (.t 82) cF))])
 (.cond (.t 83) (.regd [(nQ 84 2 11),(kQ 85 18 127 [(iQ 1)]),(kQ 86 19 153 [(.t 84),(.t 85)]),(sQ 2 11 86)] [(0,1)] []) .skip))
 (.seq (.reg [(nQ 87 2 11),(sQ 2 4 87)])
 .ret)))))))⟩
def A_Z5:Nat→Ty := tyAt [.un,.un,.un,tQ,tQ,tQ,tQ,.un,.un,.un,.un,.un,.un,.un,.un,.un,.un,.un,.un,.un]
abbrev P_Z5:List PSh := [.agg (.pr tQ (.sl tQ)),.agg (.pr tQ (.sl tQ))]
abbrev R_Z5:List PSh := [.agg (.pr tQ (.sl tQ))]
theorem e_Z5:cFn Try.prog 148 = some F_Z5.erase := by kernel_rfl
theorem k_Z5:callable Try.prog 148 = true := by kernel_rfl
def F_Zc:TFn := ⟨42,4,[.tmp 4],(.seq (.reg [(oQ 4 (.mv (.c (.p (.sl 0 [] true)))))])
 (.seq (.reg [(oQ 5 (.mv (.c (.p (.sl 0 [] true)))))])
 (.seq (.reg [(oQ 6 (.mv (iQ 0)))])
 (.seq (.seq (.reg [(oQ 7 (.mv (iQ 0)))])
 (.block 0 (.loop [.v 7 tQ,.o 5 3 tQ,.v 6 tQ] [3] [3] (.seq (.seq (.reg [(mQ 9 7),(mQ 10 0),(hQ 11 10),(bQ 12 .lss 9 11),(mQ 13 12),(vQ 14 13 false 7),(vQ 15 13 false 1),(gQ 16 13 false (.len false (.t 15))),(gQ 17 13 false (.bin .lss (.t 14) (.t 16))),(oQ 18 (.pick (.t 13) cT (.t 17))),(mQ 19 18),(vQ 20 19 false 6),(gQ 21 19 false (.bin .gtr (.t 20) (iQ 0))),(oQ 22 (.pick (.t 19) cT (.t 21)))])
 (.cond (.t 22) .skip (.exit 0)))
 (.seq (.block 1 (.seq (.reg [(mQ 25 0),(mQ 26 7),(kQ 27 0 158 [(.t 25),(.t 26)]),(mQ 28 1),(mQ 29 7),(kQ 30 1 158 [(.t 28),(.t 29)]),(bQ 31 .add 27 30),(mQ 32 6),(bQ 33 .add 31 32),(mQ 8 33)])
 (.reg [(mQ 34 5),(mQ 35 8),(cQ 36 .rem 35 1000000000),(oQ 37 (.bsl false 2 1 1 [zQ] [(0,1,(.t 36))])),(oQ 38 (.app 3 1 8 (.t 34) (.t 37))),(mQ 39 8),(cQ 40 .quo 39 1000000000),(mQ 5 38),(mQ 6 40)])))
 (.reg [(mQ 23 7),(cQ 24 .add 23 1),(mQ 7 24)]))))))
 (.seq (.reg [(mQ 41 5),(mQ 4 41)])
 .ret)))))⟩
def A_Zc:Nat→Ty := tyAt [.un,.un,tQ,tQ]
abbrev P_Zc:List PSh := [.one (.sl tQ),.one (.sl tQ)]
abbrev R_Zc:List PSh := [.one (.sl tQ)]
theorem e_Zc:cFn Try.prog 149 = some F_Zc.erase := by kernel_rfl
theorem k_Zc:callable Try.prog 149 = true := by kernel_rfl
def F_Zk:TFn := ⟨41,0,[.tmp 4],(.seq (.reg [(oQ 4 (.mv (iQ 0)))])
 (.seq (.seq (.reg [(mQ 6 0),(hQ 7 6),(mQ 8 1),(hQ 9 8),(bQ 10 .neq 7 9)])
 (.cond (.t 10) (.seq (.seq (.reg [(mQ 11 0),(hQ 12 11),(mQ 13 1),(hQ 14 13),(bQ 15 .lss 12 14)])
 (.cond (.t 15) (.seq (.reg [(oQ 4 (.mv (iQ (-1))))])
 .ret) .skip))
 (.seq (.reg [(oQ 4 (.mv (iQ 1)))])
 .ret)) .skip))
 (.seq (.seq (.reg [(mQ 16 0),(hQ 17 16),(cQ 18 .sub 17 1),(mQ 5 18)])
 (.block 0 (.loop [.v 5 tQ] [] [] (.seq (.seq (.reg [(mQ 19 5),(cQ 20 .geq 19 0)])
 (.cond (.t 20) .skip (.exit 0)))
 (.seq (.block 1 (.seq (.seq (.regd [(mQ 23 0),(mQ 24 5),(jQ 25 1 23 24),(lQ 26 25),(mQ 27 1),(mQ 28 5),(jQ 29 1 27 28),(lQ 30 29),(bQ 31 .lss 26 30)] [(3,7)] [])
 (.cond (.t 31) (.seq (.reg [(oQ 4 (.mv (iQ (-1))))])
 .ret) .skip))
 (.seq (.regd [(mQ 32 0),(mQ 33 5),(jQ 34 1 32 33),(lQ 35 34),(mQ 36 1),(mQ 37 5),(jQ 38 1 36 37),(lQ 39 38),(bQ 40 .gtr 35 39)] [(3,7)] [])
 (.cond (.t 40) (.seq (.reg [(oQ 4 (.mv (iQ 1)))])
 .ret) .skip))))
 (.reg [(mQ 21 5),(cQ 22 .sub 21 1),(mQ 5 22)]))))))
 (.seq (.reg [(oQ 4 (.mv (iQ 0)))])
 .ret))))⟩
def A_Zk:Nat→Ty := tyAt []
abbrev P_Zk:List PSh := [.one (.sl tQ),.one (.sl tQ)]
abbrev R_Zk:List PSh := [.one tQ]
theorem e_Zk:cFn Try.prog 150 = some F_Zk.erase := by kernel_rfl
theorem k_Zk:callable Try.prog 150 = true := by kernel_rfl
def F_Zd:TFn := ⟨35,4,[.tmp 4],(.seq (.reg [(oQ 4 (.mv (.c (.p (.sl 0 [] true)))))])
 (.seq (.reg [(oQ 5 (.mv (.c (.p (.sl 0 [] true)))))])
 (.seq (.reg [(oQ 6 (.mv (iQ 0)))])
 (.seq (.seq (.reg [(oQ 7 (.mv (iQ 0)))])
 (.block 0 (.loop [.v 7 tQ,.o 5 2 tQ,.v 6 tQ] [2] [2] (.seq (.seq (.reg [(mQ 9 7),(mQ 10 0),(hQ 11 10),(bQ 12 .lss 9 11)])
 (.cond (.t 12) .skip (.exit 0)))
 (.seq (.block 1 (.seq (.regd [(mQ 15 0),(mQ 16 7),(jQ 17 1 15 16),(lQ 18 17),(mQ 19 1),(mQ 20 7),(kQ 21 0 158 [(.t 19),(.t 20)]),(bQ 22 .sub 18 21),(mQ 23 6),(bQ 24 .sub 22 23),(mQ 8 24)] [(3,6)] [])
 (.seq (.reg [(oQ 6 (.mv (iQ 0)))])
 (.seq (.seq (.reg [(mQ 25 8),(cQ 26 .lss 25 0)])
 (.cond (.t 26) (.reg [(mQ 27 8),(cQ 28 .add 27 1000000000),(mQ 8 28),(oQ 6 (.mv (iQ 1)))]) .skip))
 (.reg [(mQ 29 5),(mQ 30 8),(oQ 31 (.bsl false 1 1 1 [zQ] [(0,1,(.t 30))])),(oQ 32 (.app 2 1 8 (.t 29) (.t 31))),(mQ 5 32)])))))
 (.reg [(mQ 13 7),(cQ 14 .add 13 1),(mQ 7 14)]))))))
 (.seq (.reg [(mQ 33 5),(kQ 34 3 156 [(.t 33)]),(mQ 4 34)])
 .ret)))))⟩
def A_Zd:Nat→Ty := tyAt [.un,tQ,tQ,.un]
abbrev P_Zd:List PSh := [.one (.sl tQ),.one (.sl tQ)]
abbrev R_Zd:List PSh := [.one (.sl tQ)]
theorem e_Zd:cFn Try.prog 151 = some F_Zd.erase := by kernel_rfl
theorem k_Zd:callable Try.prog 151 = true := by kernel_rfl
def F_Zr:TFn := ⟨9,5,[.celln 4 2],(.seq (.reg [(oQ 2 (.box 0 (.t 0))),(oQ 3 (.box 1 (.t 1))),(oQ 4 (.newz 2 [zQ,(.p (.sl 0 [] true))]))])
 (.seq (.regd [(nQ 5 2 2),(nQ 6 2 3),(kQ 7 3 141 [(.t 6)]),(kQ 8 4 130 [(.t 5),(.t 7)]),(sQ 2 4 8)] [(0,1),(0,2)] [])
 .ret))⟩
def A_Zr:Nat→Ty := tyAt [.un,.un,.un,.un,.un]
abbrev P_Zr:List PSh := [.agg (.pr tQ (.sl tQ)),.agg (.pr tQ (.sl tQ))]
abbrev R_Zr:List PSh := [.agg (.pr tQ (.sl tQ))]
theorem e_Zr:cFn Try.prog 153 = some F_Zr.erase := by kernel_rfl
theorem k_Zr:callable Try.prog 153 = true := by kernel_rfl
def F_Z2f:TFn := ⟨19,1,[.tmp 4],(.seq (.reg [(oQ 4 (.mv (iQ 0)))])
 (.seq (.seq (.reg [(mQ 6 0),(hQ 7 6),(oQ 8 (.mv (iQ 0)))])
 (.block 0 (.loop [.v 8 tQ] [] [] (.seq (.reg [(bQ 9 .lss 8 7)])
 (.seq (.cond (.t 9) .skip (.exit 0))
 (.seq (.block 1 (.seq (.reg [(mQ 10 8),(mQ 5 10)])
 (.seq (.reg [(mQ 11 1),(mQ 12 0),(mQ 13 5),(jQ 14 3 12 13),(nQ 15 3 14),⟨some 16,none,(.callv 0 (.t 11) [(.t 15)])⟩])
 (.cond (.t 16) (.seq (.reg [(mQ 17 5),(mQ 4 17)])
 .ret) .skip))))
 (.reg [(cQ 18 .add 8 1),(mQ 8 18)])))))))
 (.seq (.reg [(oQ 4 (.mv (iQ (-1))))])
 .ret)))⟩
theorem e_Z2f:cFn Try.prog 154 = some F_Z2f.erase := by kernel_rfl
def F_Zl:TFn := ⟨21,0,[.tmp 2],(.seq (.reg [(oQ 2 (.mv (.c (.p (.sl 0 [] true)))))])
 (.seq (.reg [(mQ 4 0),(hQ 5 4),(mQ 3 5)])
 (.seq (.block 0 (.loop [.v 3 tQ] [] [] (.seq (.seq (.reg [(mQ 6 3),(cQ 7 .gtr 6 0),(mQ 8 7),(vQ 9 8 true 0),(vQ 10 8 true 3),(gQ 11 8 true (.bin .sub (.t 10) (iQ 1))),(gQ 12 8 true (.ia 1 (.t 9) (.t 11))),(gQ 13 8 true (.ld1 (.t 12))),(gQ 14 8 true (.bin .eql (.t 13) (iQ 0))),(oQ 15 (.pick (.t 8) (.t 14) cF))])
 (.cond (.t 15) .skip (.exit 0)))
 (.block 1 (.reg [(mQ 16 3),(cQ 17 .sub 16 1),(mQ 3 17)])))))
 (.seq (.reg [(mQ 18 0),(mQ 19 3),(oQ 20 (.sl 1 (.t 18) none (some (.t 19)))),(mQ 2 20)])
 .ret))))⟩
def A_Zl:Nat→Ty := tyAt []
abbrev P_Zl:List PSh := [.one (.sl tQ)]
abbrev R_Zl:List PSh := [.one (.sl tQ)]
theorem e_Zl:cFn Try.prog 156 = some F_Zl.erase := by kernel_rfl
theorem k_Zl:callable Try.prog 156 = true := by kernel_rfl
def F_Z16:TFn := ⟨9,3,[.celln 2 2],(.seq (.reg [(oQ 1 (.box 0 (.t 0))),(oQ 2 (.newz 1 [zQ,(.p (.sl 0 [] true))]))])
 (.seq (.seq (.reg [(fQ 3 0 1),(lQ 4 3),(cQ 5 .lss 4 0)])
 (.cond (.t 5) (.seq (.reg [(nQ 6 2 1),(kQ 7 2 141 [(.t 6)]),(sQ 2 2 7)])
 .ret) .skip))
 (.seq (.reg [(nQ 8 2 1),(sQ 2 2 8)])
 .ret)))⟩
def A_Z16:Nat→Ty := tyAt [.un,.un,.un]
abbrev P_Z16:List PSh := [.agg (.pr tQ (.sl tQ))]
abbrev R_Z16:List PSh := [.agg (.pr tQ (.sl tQ))]
theorem e_Z16:cFn Try.prog 157 = some F_Z16.erase := by kernel_rfl
theorem k_Z16:callable Try.prog 157 = true := by kernel_rfl
def F_Zy:TFn := ⟨13,0,[.tmp 4],(.seq (.reg [(oQ 4 (.mv (iQ 0)))])
 (.seq (.seq (.reg [(mQ 5 1),(mQ 6 0),(hQ 7 6),(bQ 8 .lss 5 7)])
 (.cond (.t 8) (.seq (.reg [(mQ 9 0),(mQ 10 1),(jQ 11 1 9 10),(lQ 12 11),(mQ 4 12)])
 .ret) .skip))
 (.seq (.reg [(oQ 4 (.mv (iQ 0)))])
 .ret)))⟩
def A_Zy:Nat→Ty := tyAt []
abbrev P_Zy:List PSh := [.one (.sl tQ),.one tQ]
abbrev R_Zy:List PSh := [.one tQ]
theorem e_Zy:cFn Try.prog 158 = some F_Zy.erase := by kernel_rfl
theorem k_Zy:callable Try.prog 158 = true := by kernel_rfl
def F_Z2g:TFn := ⟨8,2,[.tmp 3],(.seq (.reg [(oQ 2 (.box 0 (.t 0))),(oQ 3 (.mv cF))])
 (.seq (.reg [(nQ 4 1 1),(nQ 5 3 2),(kQ 6 1 137 [(.t 4),(.t 5)]),(oQ 7 (.unot (.t 6))),(mQ 3 7)])
 .ret))⟩
theorem e_Z2g:cFn Try.prog 136 = some F_Z2g.erase := by kernel_rfl
def F_Z2h:TFn := ⟨21,6,[.tmp 4],(.seq (.reg [(oQ 2 (.box 0 (.t 0))),(oQ 3 (.box 1 (.t 1))),(oQ 4 (.mv cF))])
 (.seq (.reg [(fQ 6 0 2),(lQ 7 6),(fQ 8 0 3),(lQ 9 8),(kQ 10 2 79 [(.t 7),(.t 9)]),(oQ 5 (.newz 3 [zQ,zQ])),(sQ 2 5 10)])
 (.seq (.reg [(nQ 11 2 5),(nQ 12 3 3),(kQ 13 4 102 [(.t 11),(.t 12)]),(oQ 14 (.unot (.t 13))),(mQ 15 14),(gQ 16 15 true (.ldn 2 (.t 5))),(gQ 17 15 true (.ldn 3 (.t 3))),⟨some 18,some (some 15,true),(.call 5 103 [(.t 16),(.t 17)])⟩,(gQ 19 15 true (.unot (.t 18))),(oQ 20 (.pick (.t 15) (.t 19) cF)),(mQ 4 20)])
 .ret)))⟩
theorem e_Z2h:cFn Try.prog 137 = some F_Z2h.erase := by kernel_rfl
end Go.Proofs.Ytehblgccaiiikaa
