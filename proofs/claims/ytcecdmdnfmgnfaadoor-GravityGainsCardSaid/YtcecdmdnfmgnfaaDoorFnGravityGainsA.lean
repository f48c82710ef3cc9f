/- The code of the functions that GravityGains reaches, as it is walked: each equals what the given program's text gives. -/
import Derived.Test.YtcecdmdnfmgnfaaDoorGq2GravityGains
import Derived.Test.YtcecdmdnfmgnfaaDoorProg
import Derived.KernelRfl
namespace Go.Proofs.YtcecdmdnfmgnfaaDoor
open Go Go.Mx
set_option maxRecDepth 100000
abbrev oQ (d : Nat) (o : AOp) : AIns := ⟨some d, none, .op o⟩
abbrev uQ (o : AOp) : AIns := ⟨none, none, .op o⟩
abbrev gQ (d g : Nat) (b : Bool) (o : AOp) : AIns := ⟨some d, some (some g, b), .op o⟩
abbrev kQ (d s f : Nat) (a : List Opd) : AIns := ⟨some d, none, .call s f a⟩
abbrev iQ (n : Int) : Opd := .c (.p (.int .i64 n))
abbrev zQ : V := .p (.int .i64 0)
abbrev tQ : Ty := .int .i64
abbrev pQ : Ty := .pr tQ tQ
def F_law05_GravityGains : TFn := ⟨279, 39, [.tmp 6],
 (.seq (.reg [(oQ 3 (.box 0 (.t 0))),
 (oQ 4 (.box 1 (.t 1))),
 (oQ 5 (.box 2 (.t 2))),
 (oQ 6 (.mv (.c (.p (.bool false)))))])
 (.seq (.seq (.reg [(kQ 31 3 15 []),
 (oQ 32 (.unot (.t 31)))])
 (.cond (.t 32) (.seq (.reg [(oQ 6 (.mv (.c (.p (.bool false)))))])
 .ret) .skip))
 (.seq (.seq (.reg [(oQ 33 (.ldn 1 (.t 3))),
 (kQ 34 4 20 [(.t 33)]),
 (oQ 35 (.bin .neq (.t 34) (iQ 0))),
 (oQ 36 (.mv (.t 35))),
 (gQ 37 36 false (.ldn 1 (.t 4))),
 ⟨some 38, some (some 36, false), (.call 5 20 [(.t 37)])⟩,
 (gQ 39 36 false (.bin .neq (.t 38) (iQ 0))),
 (oQ 40 (.pick (.t 36) (.c (.p (.bool true))) (.t 39))),
 (oQ 41 (.mv (.t 40))),
 (gQ 42 41 false (.fa 2 (.t 5))),
 (gQ 43 41 false (.ld1 (.t 42))),
 ⟨some 44, some (some 41, false), (.call 6 60 [(.t 43), (iQ 0), (iQ 40)])⟩,
 (gQ 45 41 false (.unot (.t 44))),
 (oQ 46 (.pick (.t 41) (.c (.p (.bool true))) (.t 45))),
 (oQ 47 (.mv (.t 46))),
 (gQ 48 47 false (.fa 0 (.t 5))),
 (gQ 49 47 false (.ld1 (.t 48))),
 ⟨some 50, some (some 47, false), (.call 7 60 [(.t 49), (iQ (-1000)), (iQ 1000)])⟩,
 (gQ 51 47 false (.unot (.t 50))),
 (oQ 52 (.pick (.t 47) (.c (.p (.bool true))) (.t 51))),
 (oQ 53 (.mv (.t 52))),
 (gQ 54 53 false (.fa 1 (.t 5))),
 (gQ 55 53 false (.ld1 (.t 54))),
 ⟨some 56, some (some 53, false), (.call 8 60 [(.t 55), (iQ (-1000)), (iQ 1000)])⟩,
 (gQ 57 53 false (.unot (.t 56))),
 (oQ 58 (.pick (.t 53) (.c (.p (.bool true))) (.t 57)))])
 (.cond (.t 58) (.seq (.reg [(oQ 6 (.mv (.c (.p (.bool true)))))])
 .ret) .skip))
 (.seq (.reg [(oQ 7 (.mv (.c (.p (.sl 0 [] true)))))])
 (.seq (.seq (.reg [(oQ 8 (.mv (iQ 0)))])
 (.block 0 (.loop [.v 8 tQ, .o 7 10 pQ] [10] [10] (.seq (.seq (.reg [(oQ 59 (.mv (.t 8))),
 (oQ 60 (.fa 2 (.t 5))),
 (oQ 61 (.ld1 (.t 60))),
 (oQ 62 (.bin .lss (.t 59) (.t 61)))])
 (.cond (.t 62) .skip (.exit 0)))
 (.seq (.block 1 (.seq (.reg [(oQ 65 (.fa 0 (.t 5))),
 (oQ 66 (.ld1 (.t 65))),
 (oQ 67 (.mv (.t 8))),
 (oQ 68 (.fa 1 (.t 5))),
 (oQ 69 (.ld1 (.t 68))),
 (oQ 70 (.bin .mul (.t 67) (.t 69))),
 (oQ 71 (.bin .add (.t 66) (.t 70))),
 (oQ 9 (.mv (.t 71)))])
 (.reg [(oQ 72 (.mv (.t 7))),
 (oQ 73 (.mv (.t 9))),
 (oQ 74 (.mv (.t 9))),
 (oQ 75 (.build [zQ, zQ] [(0, 1, (.t 73)), (1, 1, (.t 74))])),
 (oQ 76 (.bsl false 9 2 1 [zQ, zQ] [(0, 2, (.t 75))])),
 (oQ 77 (.app 10 2 16 (.t 72) (.t 76))),
 (oQ 7 (.mv (.t 77)))])))
 (.reg [(oQ 63 (.mv (.t 8))),
 (oQ 64 (.bin .add (.t 63) (iQ 1))),
 (oQ 8 (.mv (.t 64)))]))))))
 (.seq (.reg [(oQ 78 (.fa 0 (.t 3))),
 (oQ 79 (.ld1 (.t 78))),
 (oQ 80 (.len false (.t 79))),
 (oQ 81 (.bin .sub (.t 80) (iQ 1))),
 (oQ 10 (.mv (.t 81)))])
 (.seq (.reg [(oQ 83 (.ldn 1 (.t 3))),
 (kQ 84 11 18 [(.t 83)]),
 (oQ 85 (.mv (.t 7))),
 (kQ 86 12 28 [(.t 85)]),
 (kQ 87 13 64 [(.t 84), (.t 86)]),
 (oQ 82 (.mv (.t 87))),
 (oQ 88 (.ext 0 (.t 82))),
 (oQ 89 (.ext 1 (.t 82))),
 (oQ 11 (.mv (.t 88))),
 (oQ 12 (.mv (.t 89)))])
 (.seq (.seq (.reg [(oQ 90 (.mv (.t 12))),
 (oQ 91 (.bin .neq (.t 90) (iQ 0))),
 (oQ 92 (.mv (.t 91))),
 (gQ 93 92 false (.mv (.t 11))),
 (gQ 94 92 false (.len false (.t 93))),
 (gQ 95 92 false (.fa 2 (.t 5))),
 (gQ 96 92 false (.ld1 (.t 95))),
 (gQ 97 92 false (.mv (.t 10))),
 (gQ 98 92 false (.bin .mul (iQ 2) (.t 97))),
 (gQ 99 92 false (.bin .sub (.t 96) (.t 98))),
 (gQ 100 92 false (.mm true (iQ 0) (.t 99))),
 (gQ 101 92 false (.bin .neq (.t 94) (.t 100))),
 (oQ 102 (.pick (.t 92) (.c (.p (.bool true))) (.t 101)))])
 (.cond (.t 102) (.seq (.reg [(oQ 6 (.mv (.c (.p (.bool false)))))])
 .ret) .skip))
 (.seq (.seq (.reg [(oQ 13 (.mv (iQ 0)))])
 (.block 2 (.loop [.v 13 tQ] [] [] (.seq (.seq (.reg [(oQ 103 (.mv (.t 13))),
 (oQ 104 (.mv (.t 11))),
 (oQ 105 (.len false (.t 104))),
 (oQ 106 (.bin .lss (.t 103) (.t 105)))])
 (.cond (.t 106) .skip (.exit 2)))
 (.seq (.block 3 (.seq (.regd [(oQ 109 (.mv (.t 11))),
 (oQ 110 (.mv (.t 13))),
 (oQ 111 (.ia 2 (.t 109) (.t 110))),
 (oQ 112 (.ldn 2 (.t 111))),
 (oQ 113 (.mv (.t 7))),
 (oQ 114 (.mv (.t 13))),
 (oQ 115 (.mv (.t 10))),
 (oQ 116 (.bin .add (.t 114) (.t 115))),
 (oQ 117 (.ia 2 (.t 113) (.t 116))),
 (oQ 118 (.ldn 2 (.t 117))),
 (oQ 119 (.eqa true 2 [(true, 0), (true, 1)] (.t 112) (.t 118)))] [(3, 9)] [])
 (.cond (.t 119) (.seq (.reg [(oQ 6 (.mv (.c (.p (.bool false)))))])
 .ret) .skip)))
 (.reg [(oQ 107 (.mv (.t 13))),
 (oQ 108 (.bin .add (.t 107) (iQ 1))),
 (oQ 13 (.mv (.t 108)))]))))))
 (.seq (.regd [(oQ 121 (.ldn 1 (.t 3))),
 (kQ 122 14 18 [(.t 121)]),
 (oQ 123 (.ldn 1 (.t 4))),
 (kQ 124 15 18 [(.t 123)]),
 (kQ 125 16 17 [(.t 122), (.t 124)]),
 (oQ 120 (.mv (.t 125))),
 (oQ 126 (.ext 0 (.t 120))),
 (oQ 127 (.ext 1 (.t 120))),
 (oQ 14 (.newz 17 [(.p (.sl 0 [] true))])),
 (uQ (.st 1 (.t 14) (.t 126))),
 (oQ 15 (.mv (.t 127)))] [(0, 2), (1, 2), (0, 8), (1, 8), (2, 8), (3, 8), (4, 8)] [])
 (.seq (.regd [(oQ 129 (.ldn 1 (.t 4))),
 (kQ 130 18 18 [(.t 129)]),
 (oQ 131 (.ldn 1 (.t 3))),
 (kQ 132 19 18 [(.t 131)]),
 (kQ 133 20 17 [(.t 130), (.t 132)]),
 (oQ 128 (.mv (.t 133))),
 (oQ 134 (.ext 0 (.t 128))),
 (oQ 135 (.ext 1 (.t 128))),
 (oQ 16 (.newz 21 [(.p (.sl 0 [] true))])),
 (uQ (.st 1 (.t 16) (.t 134))),
 (oQ 17 (.mv (.t 135)))] [(0, 2), (1, 2), (0, 8), (1, 8), (2, 8), (3, 8), (4, 8)] [])
 (.seq (.seq (.reg [(oQ 136 (.mv (.t 15))),
 (oQ 137 (.mv (.t 17))),
 (oQ 138 (.bin .neq (.t 136) (.t 137))),
 (oQ 139 (.mv (.t 138))),
 (gQ 140 139 false (.fa 0 (.t 14))),
 (gQ 141 139 false (.ld1 (.t 140))),
 (gQ 142 139 false (.fa 0 (.t 16))),
 (gQ 143 139 false (.ld1 (.t 142))),
 ⟨some 144, some (some 139, false), (.call 22 22 [(.t 141), (.t 143)])⟩,
 (gQ 145 139 false (.unot (.t 144))),
 (oQ 146 (.pick (.t 139) (.c (.p (.bool true))) (.t 145))),
 (oQ 147 (.mv (.t 146))),
 (gQ 148 147 false (.mv (.t 15))),
 (gQ 149 147 false (.bin .neq (.t 148) (iQ 0))),
 (gQ 150 147 false (.mv (.t 149))),
 (gQ 151 150 true (.mv (.t 15))),
 (gQ 152 150 true (.bin .neq (.t 151) (iQ 8))),
 (gQ 153 147 false (.pick (.t 150) (.t 152) (.c (.p (.bool false))))),
 (oQ 154 (.pick (.t 147) (.c (.p (.bool true))) (.t 153))),
 (oQ 155 (.mv (.t 154))),
 (gQ 156 155 false (.mv (.t 15))),
 (gQ 157 155 false (.bin .eql (.t 156) (iQ 0))),
 (gQ 158 155 false (.mv (.t 157))),
 (gQ 159 158 true (.ldn 1 (.t 14))),
 ⟨some 160, some (some 158, true), (.call 23 20 [(.t 159)])⟩,
 (gQ 161 158 true (.bin .neq (.t 160) (iQ 0))),
 (gQ 162 155 false (.pick (.t 158) (.t 161) (.c (.p (.bool false))))),
 (oQ 163 (.pick (.t 155) (.c (.p (.bool true))) (.t 162)))])
 (.cond (.t 163) (.seq (.reg [(oQ 6 (.mv (.c (.p (.bool false)))))])
 .ret) .skip))
 (.seq (.reg [(oQ 165 (.ldn 1 (.t 3))),
 (kQ 166 24 18 [(.t 165)]),
 (kQ 167 25 73 [(.t 166)]),
 (oQ 164 (.mv (.t 167))),
 (oQ 168 (.ext 0 (.t 164))),
 (oQ 169 (.ext 1 (.t 164))),
 (oQ 18 (.mv (.t 168))),
 (oQ 19 (.mv (.t 169)))])
 (.seq (.seq (.reg [(oQ 20 (.mv (iQ 0)))])
 (.block 4 (.loop [.v 20 tQ] [] [] (.seq (.seq (.reg [(oQ 170 (.mv (.t 20))),
 (oQ 171 (.bin .lss (.t 170) (iQ 4)))])
 (.cond (.t 171) .skip (.exit 4)))
 (.seq (.block 5 (.seq (.reg [(oQ 175 (.ldn 1 (.t 3))),
 (kQ 176 26 18 [(.t 175)]),
 (oQ 177 (.mv (.t 20))),
 (kQ 178 27 74 [(.t 176), (.t 177)]),
 (oQ 174 (.mv (.t 178))),
 (oQ 179 (.ext 0 (.t 174))),
 (oQ 180 (.ext 1 (.t 174))),
 (oQ 21 (.mv (.t 179))),
 (oQ 22 (.mv (.t 180)))])
 (.seq (.reg [(oQ 182 (.ldn 1 (.t 4))),
 (kQ 183 28 18 [(.t 182)]),
 (oQ 184 (.mv (.t 20))),
 (kQ 185 29 74 [(.t 183), (.t 184)]),
 (oQ 181 (.mv (.t 185))),
 (oQ 186 (.ext 0 (.t 181))),
 (oQ 187 (.ext 1 (.t 181))),
 (oQ 23 (.mv (.t 186))),
 (oQ 24 (.mv (.t 187)))])
 (.seq (.reg [(oQ 189 (.ldn 1 (.t 3))),
 (kQ 190 30 18 [(.t 189)]),
 (oQ 191 (.mv (.t 20))),
 (oQ 192 (.bin .sub (iQ 4) (.t 191))),
 (oQ 193 (.bin .rem (.t 192) (iQ 4))),
 (kQ 194 31 74 [(.t 190), (.t 193)]),
 (oQ 188 (.mv (.t 194))),
 (oQ 195 (.ext 0 (.t 188))),
 (oQ 196 (.ext 1 (.t 188))),
 (oQ 25 (.mv (.t 195))),
 (oQ 26 (.mv (.t 196)))])
 (.seq (.seq (.reg [(oQ 197 (.mv (.t 19))),
 (oQ 198 (.bin .neq (.t 197) (iQ 0))),
 (oQ 199 (.mv (.t 198))),
 (gQ 200 199 false (.mv (.t 22))),
 (gQ 201 199 false (.bin .neq (.t 200) (iQ 0))),
 (oQ 202 (.pick (.t 199) (.c (.p (.bool true))) (.t 201))),
 (oQ 203 (.mv (.t 202))),
 (gQ 204 203 false (.mv (.t 24))),
 (gQ 205 203 false (.bin .neq (.t 204) (iQ 0))),
 (oQ 206 (.pick (.t 203) (.c (.p (.bool true))) (.t 205))),
 (oQ 207 (.mv (.t 206))),
 (gQ 208 207 false (.mv (.t 26))),
 (gQ 209 207 false (.bin .neq (.t 208) (iQ 0))),
 (oQ 210 (.pick (.t 207) (.c (.p (.bool true))) (.t 209))),
 (oQ 211 (.mv (.t 210))),
 (gQ 212 211 false (.mv (.t 25))),
 (gQ 213 211 false (.mv (.t 21))),
 (gQ 214 211 false (.bin .neq (.t 212) (.t 213))),
 (oQ 215 (.pick (.t 211) (.c (.p (.bool true))) (.t 214))),
 (oQ 216 (.mv (.t 215))),
 (gQ 217 216 false (.mv (.t 20))),
 (gQ 218 216 false (.bin .eql (.t 217) (iQ 0))),
 (gQ 219 216 false (.mv (.t 218))),
 (gQ 220 219 true (.mv (.t 21))),
 (gQ 221 219 true (.mv (.t 18))),
 (gQ 222 219 true (.bin .neq (.t 220) (.t 221))),
 (gQ 223 216 false (.pick (.t 219) (.t 222) (.c (.p (.bool false))))),
 (oQ 224 (.pick (.t 216) (.c (.p (.bool true))) (.t 223))),
 (oQ 225 (.mv (.t 224))),
 (gQ 226 225 false (.mv (.t 21))),
 ⟨some 227, some (some 225, false), (.call 32 60 [(.t 226), (iQ (-2000000)), (iQ 2000000)])⟩,
 (gQ 228 225 false (.unot (.t 227))),
 (oQ 229 (.pick (.t 225) (.c (.p (.bool true))) (.t 228))),
 (oQ 230 (.mv (.t 229))),
 (gQ 231 230 false (.mv (.t 23))),
 ⟨some 232, some (some 230, false), (.call 33 60 [(.t 231), (iQ (-2000000)), (iQ 2000000)])⟩,
 (gQ 233 230 false (.unot (.t 232))),
 (oQ 234 (.pick (.t 230) (.c (.p (.bool true))) (.t 233)))])
 (.cond (.t 234) (.seq (.reg [(oQ 6 (.mv (.c (.p (.bool false)))))])
 .ret) .skip))
 (.seq (.reg [(oQ 27 (.mv (iQ 0)))])
 (.seq (.seq (.reg [(oQ 235 (.mv (.t 10))),
 (oQ 236 (.uneg (.t 235))),
 (oQ 28 (.mv (.t 236)))])
 (.block 6 (.loop [.v 28 tQ, .v 27 tQ] [] [] (.seq (.seq (.reg [(oQ 237 (.mv (.t 28))),
 (oQ 238 (.mv (.t 10))),
 (oQ 239 (.bin .leq (.t 237) (.t 238)))])
 (.cond (.t 239) .skip (.exit 6)))
 (.seq (.block 7 (.regd [(oQ 242 (.mv (.t 27))),
 (oQ 243 (.fa 0 (.t 3))),
 (oQ 244 (.ld1 (.t 243))),
 (oQ 245 (.mv (.t 28))),
 (kQ 246 34 65 [(.t 245)]),
 (oQ 247 (.ia 1 (.t 244) (.t 246))),
 (oQ 248 (.ld1 (.t 247))),
 (oQ 249 (.bsl false 35 1 4 [zQ, zQ, zQ, zQ] [(0, 1, (iQ 1)), (1, 1, (iQ 0)), (2, 1, (iQ (-1))), (3, 1, (iQ 0))])),
 (oQ 250 (.mv (.t 28))),
 (oQ 251 (.mv (.t 20))),
 (oQ 252 (.bin .mul (.t 250) (.t 251))),
 (kQ 253 36 61 [(.t 252), (iQ 4)]),
 (oQ 254 (.ia 1 (.t 249) (.t 253))),
 (oQ 255 (.ld1 (.t 254))),
 (oQ 256 (.bin .mul (.t 248) (.t 255))),
 (oQ 257 (.bin .add (.t 242) (.t 256))),
 (oQ 27 (.mv (.t 257)))] [(2, 4), (2, 11), (6, 11), (2, 13), (6, 13)] []))
 (.reg [(oQ 240 (.mv (.t 28))),
 (oQ 241 (.bin .add (.t 240) (iQ 1))),
 (oQ 28 (.mv (.t 241)))]))))))
 (.seq (.seq (.reg [(oQ 258 (.mv (.t 27))),
 (oQ 259 (.mv (.t 21))),
 (oQ 260 (.bin .neq (.t 258) (.t 259)))])
 (.cond (.t 260) (.seq (.reg [(oQ 6 (.mv (.c (.p (.bool false)))))])
 .ret) .skip))
 (.seq (.reg [(oQ 261 (.mv (.t 15))),
 (oQ 262 (.bin .eql (.t 261) (iQ 0)))])
 (.cond (.t 262) (.seq (.reg [(oQ 264 (.ldn 1 (.t 14))),
 (kQ 265 37 18 [(.t 264)]),
 (oQ 266 (.mv (.t 20))),
 (kQ 267 38 74 [(.t 265), (.t 266)]),
 (oQ 263 (.mv (.t 267))),
 (oQ 268 (.ext 0 (.t 263))),
 (oQ 269 (.ext 1 (.t 263))),
 (oQ 29 (.mv (.t 268))),
 (oQ 30 (.mv (.t 269)))])
 (.seq (.reg [(oQ 270 (.mv (.t 30))),
 (oQ 271 (.bin .neq (.t 270) (iQ 0))),
 (oQ 272 (.mv (.t 271))),
 (gQ 273 272 false (.mv (.t 29))),
 (gQ 274 272 false (.mv (.t 21))),
 (gQ 275 272 false (.mv (.t 23))),
 (gQ 276 272 false (.bin .mul (.t 274) (.t 275))),
 (gQ 277 272 false (.bin .neq (.t 273) (.t 276))),
 (oQ 278 (.pick (.t 272) (.c (.p (.bool true))) (.t 277)))])
 (.cond (.t 278) (.seq (.reg [(oQ 6 (.mv (.c (.p (.bool false)))))])
 .ret) .skip))) .skip))))))))))
 (.reg [(oQ 172 (.mv (.t 20))),
 (oQ 173 (.bin .add (.t 172) (iQ 1))),
 (oQ 20 (.mv (.t 173)))]))))))
 (.seq (.reg [(oQ 6 (.mv (.c (.p (.bool true)))))])
 .ret)))))))))))))))⟩
def A_law05_GravityGains : Nat → Ty := tyAt [.un, .un, .un, .un, .un, .un, .un, .un, .un, pQ, pQ, .un, .un, .un, .un, .un, .un, .un, .un, .un, .un, .un, .un, .un, .un, .un, .un, .un, .un, .un, .un, .un, .un, .un, .un, tQ, .un, .un, .un]
abbrev P_law05_GravityGains : List PSh := [.agg (.sl tQ), .agg (.sl tQ), .agg (.pr tQ pQ)]
abbrev R_law05_GravityGains : List PSh := [.one .bool]
theorem e_law05_GravityGains : cFn Tryd.prog 12 = some F_law05_GravityGains.erase := by kernel_rfl
theorem k_law05_GravityGains : callable Tryd.prog 12 = true := by kernel_rfl
def F_law05_awake : TFn := ⟨86, 20, [.tmp 0],
 (.seq (.reg [(oQ 0 (.mv (.c (.p (.bool false)))))])
 (.seq (.reg [(oQ 12 (.bsl false 0 1 3 [zQ, zQ, zQ] [(0, 1, (iQ 10)), (1, 1, (iQ 20)), (2, 1, (iQ 30))])),
 (kQ 13 1 85 []),
 (kQ 14 2 30 [(.t 12), (.t 13), (iQ 3)]),
 (oQ 11 (.mv (.t 14))),
 (oQ 15 (.ext 0 (.t 11))),
 (oQ 16 (.ext 1 (.t 11))),
 (oQ 1 (.mv (.t 15))),
 (oQ 2 (.mv (.t 16)))])
 (.seq (.reg [(oQ 18 (.bsl false 3 1 2 [zQ, zQ] [(0, 1, (iQ 2)), (1, 1, (iQ 1))])),
 (oQ 19 (.build [(.p (.sl 0 [] true))] [(0, 1, (.t 18))])),
 (oQ 20 (.bsl false 4 1 2 [zQ, zQ] [(0, 1, (iQ 2)), (1, 1, (iQ 1))])),
 (oQ 21 (.build [(.p (.sl 0 [] true))] [(0, 1, (.t 20))])),
 (kQ 22 5 17 [(.t 19), (.t 21)]),
 (oQ 17 (.mv (.t 22))),
 (oQ 23 (.ext 0 (.t 17))),
 (oQ 24 (.ext 1 (.t 17))),
 (oQ 3 (.newz 6 [(.p (.sl 0 [] true))])),
 (uQ (.st 1 (.t 3) (.t 23))),
 (oQ 4 (.mv (.t 24)))])
 (.seq (.reg [(kQ 26 7 86 []),
 (kQ 27 8 50 [(.t 26)]),
 (oQ 25 (.mv (.t 27))),
 (oQ 28 (.ext 0 (.t 25))),
 (oQ 29 (.ext 1 (.t 25))),
 (oQ 5 (.newz 9 [zQ, zQ, zQ, zQ])),
 (uQ (.st 4 (.t 5) (.t 28))),
 (oQ 6 (.mv (.t 29)))])
 (.seq (.reg [(kQ 31 10 87 []),
 (kQ 32 11 43 [(.t 31)]),
 (oQ 30 (.mv (.t 32))),
 (oQ 33 (.ext 0 (.t 30))),
 (oQ 34 (.ext 1 (.t 30))),
 (oQ 7 (.mv (.t 33))),
 (oQ 8 (.mv (.t 34)))])
 (.seq (.reg [(kQ 36 12 19 [(iQ 1000), (iQ 50), (iQ 267)]),
 (oQ 35 (.mv (.t 36))),
 (oQ 37 (.ext 0 (.t 35))),
 (oQ 38 (.ext 1 (.t 35))),
 (oQ 9 (.newz 13 [zQ, zQ])),
 (uQ (.st 2 (.t 9) (.t 37))),
 (oQ 10 (.mv (.t 38)))])
 (.seq (.reg [(oQ 39 (.mv (.t 2))),
 (oQ 40 (.bin .eql (.t 39) (iQ 0))),
 (oQ 41 (.mv (.t 40))),
 (gQ 42 41 true (.mv (.t 1))),
 (gQ 43 41 true (.build [zQ, zQ] [(0, 1, (iQ 2)), (1, 1, (iQ 14))])),
 (gQ 44 41 true (.bsl false 14 2 1 [zQ, zQ] [(0, 2, (.t 43))])),
 ⟨some 45, some (some 41, true), (.call 15 33 [(.t 42), (.t 44)])⟩,
 (oQ 46 (.pick (.t 41) (.t 45) (.c (.p (.bool false))))),
 (oQ 47 (.mv (.t 46))),
 (gQ 48 47 true (.mv (.t 4))),
 (gQ 49 47 true (.bin .eql (.t 48) (iQ 0))),
 (oQ 50 (.pick (.t 47) (.t 49) (.c (.p (.bool false))))),
 (oQ 51 (.mv (.t 50))),
 (gQ 52 51 true (.fa 0 (.t 3))),
 (gQ 53 51 true (.ld1 (.t 52))),
 (gQ 54 51 true (.bsl false 16 1 3 [zQ, zQ, zQ] [(0, 1, (iQ 6)), (1, 1, (iQ 4)), (2, 1, (iQ 1))])),
 ⟨some 55, some (some 51, true), (.call 17 22 [(.t 53), (.t 54)])⟩,
 (oQ 56 (.pick (.t 51) (.t 55) (.c (.p (.bool false))))),
 (oQ 57 (.mv (.t 56))),
 (gQ 58 57 true (.mv (.t 6))),
 (gQ 59 57 true (.bin .eql (.t 58) (iQ 0))),
 (oQ 60 (.pick (.t 57) (.t 59) (.c (.p (.bool false))))),
 (oQ 61 (.mv (.t 60))),
 (gQ 62 61 true (.ldn 4 (.t 5))),
 (gQ 63 61 true (.build [zQ, zQ] [(0, 1, (iQ 4)), (1, 1, (iQ 5))])),
 (gQ 64 61 true (.build [zQ, zQ] [(0, 1, (iQ 11)), (1, 1, (iQ 10))])),
 (gQ 65 61 true (.build [zQ, zQ, zQ, zQ] [(0, 2, (.t 63)), (2, 2, (.t 64))])),
 (gQ 66 61 true (.eqa false 4 [(true, 0), (true, 1), (true, 2), (true, 3)] (.t 62) (.t 65))),
 (oQ 67 (.pick (.t 61) (.t 66) (.c (.p (.bool false))))),
 (oQ 68 (.mv (.t 67))),
 (gQ 69 68 true (.mv (.t 8))),
 (gQ 70 68 true (.bin .eql (.t 69) (iQ 0))),
 (oQ 71 (.pick (.t 68) (.t 70) (.c (.p (.bool false))))),
 (oQ 72 (.mv (.t 71))),
 (gQ 73 72 true (.mv (.t 7))),
 (gQ 74 72 true (.bsl false 18 1 3 [zQ, zQ, zQ] [(0, 1, (iQ (-7))), (1, 1, (iQ (-2))), (2, 1, (iQ 0))])),
 ⟨some 75, some (some 72, true), (.call 19 22 [(.t 73), (.t 74)])⟩,
 (oQ 76 (.pick (.t 72) (.t 75) (.c (.p (.bool false))))),
 (oQ 77 (.mv (.t 76))),
 (gQ 78 77 true (.mv (.t 10))),
 (gQ 79 77 true (.bin .eql (.t 78) (iQ 0))),
 (oQ 80 (.pick (.t 77) (.t 79) (.c (.p (.bool false))))),
 (oQ 81 (.mv (.t 80))),
 (gQ 82 81 true (.ldn 2 (.t 9))),
 (gQ 83 81 true (.build [zQ, zQ] [(0, 1, (iQ 3966469)), (1, 1, (iQ 2000))])),
 (gQ 84 81 true (.eqa false 2 [(true, 0), (true, 1)] (.t 82) (.t 83))),
 (oQ 85 (.pick (.t 81) (.t 84) (.c (.p (.bool false))))),
 (oQ 0 (.mv (.t 85)))])
 .ret)))))))⟩
def A_law05_awake : Nat → Ty := tyAt [tQ, .un, .un, tQ, tQ, .un, .un, .un, .un, .un, .un, .un, .un, .un, pQ, .un, tQ, .un, tQ, .un]
abbrev P_law05_awake : List PSh := []
abbrev R_law05_awake : List PSh := [.one .bool]
theorem e_law05_awake : cFn Tryd.prog 15 = some F_law05_awake.erase := by kernel_rfl
theorem k_law05_awake : callable Tryd.prog 15 = true := by kernel_rfl
def F_ref05_CopyFilter : TFn := ⟨7, 3, [.celln 2 1],
 (.seq (.reg [(oQ 1 (.box 0 (.t 0))),
 (oQ 2 (.newz 1 [(.p (.sl 0 [] true))]))])
 (.seq (.reg [(oQ 3 (.fa 0 (.t 1))),
 (oQ 4 (.ld1 (.t 3))),
 (kQ 5 2 31 [(.t 4)]),
 (oQ 6 (.build [(.p (.sl 0 [] true))] [(0, 1, (.t 5))])),
 (uQ (.st 1 (.t 2) (.t 6)))])
 .ret))⟩
def A_ref05_CopyFilter : Nat → Ty := tyAt [.un, .un, .un]
abbrev P_ref05_CopyFilter : List PSh := [.agg (.sl tQ)]
abbrev R_ref05_CopyFilter : List PSh := [.agg (.sl tQ)]
theorem e_ref05_CopyFilter : cFn Tryd.prog 18 = some F_ref05_CopyFilter.erase := by kernel_rfl
theorem k_ref05_CopyFilter : callable Tryd.prog 18 = true := by kernel_rfl
def F_gravity_Composed : TFn := ⟨84, 13, [.celln 4 1, .tmp 5],
 (.seq (.reg [(oQ 2 (.box 0 (.t 0))),
 (oQ 3 (.box 1 (.t 1))),
 (oQ 4 (.newz 2 [(.p (.sl 0 [] true))])),
 (oQ 5 (.mv (iQ 0)))])
 (.seq (.seq (.regd [(oQ 15 (.ldn 1 (.t 2))),
 (kQ 16 3 75 [(.t 15)]),
 (oQ 17 (.ldn 1 (.t 3))),
 (kQ 18 4 75 [(.t 17)]),
 (oQ 19 (.fa 0 (.t 2))),
 (oQ 20 (.ld1 (.t 19))),
 (oQ 21 (.len false (.t 20))),
 (oQ 22 (.fa 0 (.t 3))),
 (oQ 23 (.ld1 (.t 22))),
 (oQ 24 (.len false (.t 23))),
 (oQ 25 (.bin .add (.t 21) (.t 24))),
 (oQ 26 (.bin .sub (.t 25) (iQ 1))),
 (oQ 27 (.bin .leq (.t 26) (iQ 9))),
 (kQ 28 5 89 [(.t 27), (iQ 8)]),
 (oQ 29 (.bsl false 6 1 3 [zQ, zQ, zQ] [(0, 1, (.t 16)), (1, 1, (.t 18)), (2, 1, (.t 28))])),
 (kQ 30 7 88 [(.t 29)]),
 (oQ 6 (.mv (.t 30)))] [(0, 2), (1, 2), (0, 5), (1, 5), (2, 5), (3, 5), (0, 8), (1, 8), (2, 8), (3, 8), (5, 8)] [])
 (.seq (.reg [(oQ 31 (.mv (.t 6))),
 (oQ 32 (.bin .neq (.t 31) (iQ 0)))])
 (.cond (.t 32) (.seq (.reg [(oQ 33 (.build [(.p (.sl 0 [] true))] [])),
 (oQ 34 (.mv (.t 6))),
 (uQ (.st 1 (.t 4) (.t 33))),
 (oQ 5 (.mv (.t 34)))])
 .ret) .skip)))
 (.seq (.regd [(oQ 35 (.ldn 1 (.t 2))),
 (kQ 36 8 90 [(.t 35)]),
 (oQ 37 (.ldn 1 (.t 3))),
 (kQ 38 9 90 [(.t 37)]),
 (oQ 7 (.mv (.t 36))),
 (oQ 8 (.mv (.t 38)))] [(0, 2), (1, 2)] [])
 (.seq (.reg [(oQ 39 (.mv (.t 7))),
 (oQ 40 (.len false (.t 39))),
 (oQ 41 (.mv (.t 8))),
 (oQ 42 (.len false (.t 41))),
 (oQ 43 (.bin .add (.t 40) (.t 42))),
 (oQ 44 (.bin .sub (.t 43) (iQ 1))),
 (oQ 45 (.mk 10 1 8 [zQ] (.t 44))),
 (oQ 9 (.mv (.t 45)))])
 (.seq (.seq (.reg [(oQ 46 (.mv (.t 7))),
 (oQ 47 (.len false (.t 46))),
 (oQ 48 (.mv (iQ 0)))])
 (.block 0 (.loop [.v 48 tQ, .d 10 tQ] [10] [] (.seq (.reg [(oQ 49 (.bin .lss (.t 48) (.t 47)))])
 (.seq (.cond (.t 49) .skip (.exit 0))
 (.seq (.block 1 (.seq (.reg [(oQ 50 (.mv (.t 48))),
 (oQ 51 (.ia 1 (.t 46) (.t 48))),
 (oQ 52 (.ld1 (.t 51))),
 (oQ 10 (.mv (.t 50))),
 (oQ 11 (.mv (.t 52)))])
 (.seq (.reg [(oQ 53 (.mv (.t 8))),
 (oQ 54 (.len false (.t 53))),
 (oQ 55 (.mv (iQ 0)))])
 (.block 2 (.loop [.v 55 tQ, .d 10 tQ] [10] [] (.seq (.reg [(oQ 56 (.bin .lss (.t 55) (.t 54)))])
 (.seq (.cond (.t 56) .skip (.exit 2))
 (.seq (.block 3 (.seq (.reg [(oQ 57 (.mv (.t 55))),
 (oQ 58 (.ia 1 (.t 53) (.t 55))),
 (oQ 59 (.ld1 (.t 58))),
 (oQ 12 (.mv (.t 57))),
 (oQ 13 (.mv (.t 59)))])
 (.reg [(oQ 60 (.mv (.t 9))),
 (oQ 61 (.mv (.t 10))),
 (oQ 62 (.mv (.t 12))),
 (oQ 63 (.bin .add (.t 61) (.t 62))),
 (oQ 64 (.ia 1 (.t 60) (.t 63))),
 (oQ 65 (.ld1 (.t 64))),
 (oQ 66 (.mv (.t 11))),
 (oQ 67 (.mv (.t 13))),
 (oQ 68 (.bin .mul (.t 66) (.t 67))),
 (oQ 69 (.bin .add (.t 65) (.t 68))),
 (oQ 70 (.ia 1 (.t 60) (.t 63))),
 (uQ (.st 1 (.t 70) (.t 69)))])))
 (.reg [(oQ 71 (.bin .add (.t 55) (iQ 1))),
 (oQ 55 (.mv (.t 71)))])))))))))
 (.reg [(oQ 72 (.bin .add (.t 48) (iQ 1))),
 (oQ 48 (.mv (.t 72)))])))))))
 (.seq (.reg [(oQ 73 (.mv (.t 9))),
 (oQ 74 (.mv (.t 9))),
 (oQ 75 (.len false (.t 74))),
 (oQ 76 (.bin .quo (.t 75) (iQ 2))),
 (oQ 77 (.sl 1 (.t 73) (some (.t 76)) none)),
 (oQ 78 (.build [(.p (.sl 0 [] true))] [(0, 1, (.t 77))])),
 (oQ 14 (.newz 11 [(.p (.sl 0 [] true))])),
 (uQ (.st 1 (.t 14) (.t 78)))])
 (.seq (.seq (.reg [(oQ 79 (.fa 0 (.t 14))),
 (oQ 80 (.ld1 (.t 79))),
 (kQ 81 12 91 [(.t 80), (.c (.clo 92 []))])])
 (.cond (.t 81) (.seq (.reg [(oQ 82 (.build [(.p (.sl 0 [] true))] [])),
 (uQ (.st 1 (.t 4) (.t 82))),
 (oQ 5 (.mv (iQ 8)))])
 .ret) .skip))
 (.seq (.reg [(oQ 83 (.ldn 1 (.t 14))),
 (uQ (.st 1 (.t 4) (.t 83))),
 (oQ 5 (.mv (iQ 0)))])
 .ret))))))))⟩
def A_gravity_Composed : Nat → Ty := tyAt [.un, .un, .un, .un, .un, .un, tQ, .un, .un, .un, tQ, .un, .un]
abbrev P_gravity_Composed : List PSh := [.agg (.sl tQ), .agg (.sl tQ)]
abbrev R_gravity_Composed : List PSh := [.agg (.sl tQ), .one tQ]
theorem e_gravity_Composed : cFn Tryd.prog 17 = some F_gravity_Composed.erase := by kernel_rfl
theorem k_gravity_Composed : callable Tryd.prog 17 = true := by kernel_rfl
def F_gravity_ReducedOf : TFn := ⟨35, 5, [.celln 6 2, .tmp 7],
 (.seq (.reg [(oQ 6 (.newz 0 [zQ, zQ])),
 (oQ 7 (.mv (iQ 0)))])
 (.seq (.reg [(oQ 9 (.mv (.t 0))),
 (kQ 10 1 93 [(.t 9), (iQ 1000000)]),
 (oQ 11 (.mv (.t 10))),
 (gQ 12 11 true (.mv (.t 1))),
 ⟨some 13, some (some 11, true), (.call 2 93 [(.t 12), (iQ 10000)])⟩,
 (oQ 14 (.pick (.t 11) (.t 13) (.c (.p (.bool false))))),
 (oQ 15 (.mv (.t 14))),
 (gQ 16 15 true (.mv (.t 2))),
 ⟨some 17, some (some 15, true), (.call 3 94 [(.t 16), (iQ 0), (iQ 1000)])⟩,
 (oQ 18 (.pick (.t 15) (.t 17) (.c (.p (.bool false))))),
 (oQ 8 (.mv (.t 18)))])
 (.seq (.seq (.reg [(oQ 19 (.mv (.t 8))),
 (oQ 20 (.unot (.t 19)))])
 (.cond (.t 20) (.seq (.reg [(oQ 21 (.build [zQ, zQ] [])),
 (uQ (.st 2 (.t 6) (.t 21))),
 (oQ 7 (.mv (iQ 2)))])
 .ret) .skip))
 (.seq (.reg [(oQ 22 (.mv (.t 0))),
 (oQ 23 (.bin .mul (iQ 100000) (.t 22))),
 (oQ 24 (.mv (.t 1))),
 (oQ 25 (.bin .mul (iQ 3086000) (.t 24))),
 (oQ 26 (.bin .add (.t 23) (.t 25))),
 (oQ 27 (.mv (.t 2))),
 (oQ 28 (.bin .mul (iQ 4193) (.t 27))),
 (oQ 29 (.mv (.t 1))),
 (oQ 30 (.bin .mul (.t 28) (.t 29))),
 (oQ 31 (.bin .sub (.t 26) (.t 30))),
 (kQ 32 4 95 [(.t 31), (iQ 100000)]),
 (oQ 33 (.ext 0 (.t 32))),
 (oQ 34 (.ext 1 (.t 32))),
 (uQ (.st 2 (.t 6) (.t 33))),
 (oQ 7 (.mv (.t 34)))])
 .ret))))⟩
def A_gravity_ReducedOf : Nat → Ty := tyAt [.un, .un, .un, .un, .un]
abbrev P_gravity_ReducedOf : List PSh := [.one tQ, .one tQ, .one tQ]
abbrev R_gravity_ReducedOf : List PSh := [.agg pQ, .one tQ]
theorem e_gravity_ReducedOf : cFn Tryd.prog 19 = some F_gravity_ReducedOf.erase := by kernel_rfl
theorem k_gravity_ReducedOf : callable Tryd.prog 19 = true := by kernel_rfl
def F_ref05_FilterErr : TFn := ⟨29, 3, [.tmp 2],
 (.seq (.reg [(oQ 1 (.box 0 (.t 0))),
 (oQ 2 (.mv (iQ 0)))])
 (.seq (.seq (.reg [(oQ 4 (.fa 0 (.t 1))),
 (oQ 5 (.ld1 (.t 4))),
 (oQ 6 (.len false (.t 5))),
 (oQ 7 (.bin .eql (.t 6) (iQ 0)))])
 (.cond (.t 7) (.seq (.reg [(oQ 2 (.mv (iQ 10)))])
 .ret) .skip))
 (.seq (.seq (.reg [(oQ 8 (.fa 0 (.t 1))),
 (oQ 9 (.ld1 (.t 8))),
 (oQ 10 (.len false (.t 9))),
 (oQ 11 (.bin .gtr (.t 10) (iQ 9)))])
 (.cond (.t 11) (.seq (.reg [(oQ 2 (.mv (iQ 8)))])
 .ret) .skip))
 (.seq (.seq (.reg [(oQ 3 (.mv (iQ 0)))])
 (.block 0 (.loop [.v 3 tQ] [] [] (.seq (.seq (.reg [(oQ 12 (.mv (.t 3))),
 (oQ 13 (.fa 0 (.t 1))),
 (oQ 14 (.ld1 (.t 13))),
 (oQ 15 (.len false (.t 14))),
 (oQ 16 (.bin .lss (.t 12) (.t 15)))])
 (.cond (.t 16) .skip (.exit 0)))
 (.seq (.block 1 (.seq (.reg [(oQ 19 (.fa 0 (.t 1))),
 (oQ 20 (.ld1 (.t 19))),
 (oQ 21 (.mv (.t 3))),
 (oQ 22 (.ia 1 (.t 20) (.t 21))),
 (oQ 23 (.ld1 (.t 22))),
 (kQ 24 1 60 [(.t 23), (iQ (-100000)), (iQ 100000)]),
 (oQ 25 (.unot (.t 24)))])
 (.cond (.t 25) (.seq (.reg [(oQ 2 (.mv (iQ 2)))])
 .ret) .skip)))
 (.reg [(oQ 17 (.mv (.t 3))),
 (oQ 18 (.bin .add (.t 17) (iQ 1))),
 (oQ 3 (.mv (.t 18)))]))))))
 (.seq (.seq (.reg [(oQ 26 (.ldn 1 (.t 1))),
 (kQ 27 2 76 [(.t 26)]),
 (oQ 28 (.bin .lss (.t 27) (iQ 1)))])
 (.cond (.t 28) (.seq (.reg [(oQ 2 (.mv (iQ 11)))])
 .ret) .skip))
 (.seq (.reg [(oQ 2 (.mv (iQ 0)))])
 .ret))))))⟩
def A_ref05_FilterErr : Nat → Ty := tyAt [.un, .un, .un]
abbrev P_ref05_FilterErr : List PSh := [.agg (.sl tQ)]
abbrev R_ref05_FilterErr : List PSh := [.one tQ]
theorem e_ref05_FilterErr : cFn Tryd.prog 20 = some F_ref05_FilterErr.erase := by kernel_rfl
theorem k_ref05_FilterErr : callable Tryd.prog 20 = true := by kernel_rfl
def F_base_Ints : TFn := ⟨26, 0, [.tmp 4],
 (.seq (.reg [(oQ 4 (.mv (.c (.p (.bool false)))))])
 (.seq (.seq (.reg [(oQ 6 (.mv (.t 0))),
 (oQ 7 (.len false (.t 6))),
 (oQ 8 (.mv (.t 1))),
 (oQ 9 (.len false (.t 8))),
 (oQ 10 (.bin .neq (.t 7) (.t 9)))])
 (.cond (.t 10) (.seq (.reg [(oQ 4 (.mv (.c (.p (.bool false)))))])
 .ret) .skip))
 (.seq (.seq (.reg [(oQ 5 (.mv (iQ 0)))])
 (.block 0 (.loop [.v 5 tQ] [] [] (.seq (.seq (.reg [(oQ 11 (.mv (.t 5))),
 (oQ 12 (.mv (.t 0))),
 (oQ 13 (.len false (.t 12))),
 (oQ 14 (.bin .lss (.t 11) (.t 13)))])
 (.cond (.t 14) .skip (.exit 0)))
 (.seq (.block 1 (.seq (.regd [(oQ 17 (.mv (.t 0))),
 (oQ 18 (.mv (.t 5))),
 (oQ 19 (.ia 1 (.t 17) (.t 18))),
 (oQ 20 (.ld1 (.t 19))),
 (oQ 21 (.mv (.t 1))),
 (oQ 22 (.mv (.t 5))),
 (oQ 23 (.ia 1 (.t 21) (.t 22))),
 (oQ 24 (.ld1 (.t 23))),
 (oQ 25 (.bin .neq (.t 20) (.t 24)))] [(3, 7)] [])
 (.cond (.t 25) (.seq (.reg [(oQ 4 (.mv (.c (.p (.bool false)))))])
 .ret) .skip)))
 (.reg [(oQ 15 (.mv (.t 5))),
 (oQ 16 (.bin .add (.t 15) (iQ 1))),
 (oQ 5 (.mv (.t 16)))]))))))
 (.seq (.reg [(oQ 4 (.mv (.c (.p (.bool true)))))])
 .ret))))⟩
def A_base_Ints : Nat → Ty := tyAt []
abbrev P_base_Ints : List PSh := [.one (.sl tQ), .one (.sl tQ)]
abbrev R_base_Ints : List PSh := [.one .bool]
theorem e_base_Ints : cFn Tryd.prog 22 = some F_base_Ints.erase := by kernel_rfl
theorem k_base_Ints : callable Tryd.prog 22 = true := by kernel_rfl
def F_base_CopyRanges : TFn := ⟨6, 2, [.tmp 2],
 (.seq (.reg [(oQ 2 (.mv (.c (.p (.sl 0 [] true)))))])
 (.seq (.reg [(oQ 3 (.bsl true 0 2 0 [] [])),
 (oQ 4 (.mv (.t 0))),
 (oQ 5 (.app 1 2 16 (.t 3) (.t 4))),
 (oQ 2 (.mv (.t 5)))])
 .ret))⟩
def A_base_CopyRanges : Nat → Ty := tyAt [pQ, pQ]
abbrev P_base_CopyRanges : List PSh := [.one (.sl pQ)]
abbrev R_base_CopyRanges : List PSh := [.one (.sl pQ)]
theorem e_base_CopyRanges : cFn Tryd.prog 28 = some F_base_CopyRanges.erase := by kernel_rfl
theorem k_base_CopyRanges : callable Tryd.prog 28 = true := by kernel_rfl
def F_gravity_CheckHeights : TFn := ⟨24, 2, [.tmp 2, .tmp 3],
 (.seq (.reg [(oQ 2 (.mv (iQ 0))),
 (oQ 3 (.mv (iQ 0)))])
 (.seq (.seq (.reg [(oQ 7 (.mv (.t 0))),
 (oQ 8 (.len false (.t 7))),
 (oQ 9 (.bin .gtr (.t 8) (iQ 64)))])
 (.cond (.t 9) (.seq (.reg [(oQ 2 (.mv (iQ 0))),
 (oQ 3 (.mv (iQ 8)))])
 .ret) .skip))
 (.seq (.seq (.reg [(oQ 10 (.mv (.t 0))),
 (oQ 11 (.len false (.t 10))),
 (oQ 12 (.mv (iQ 0)))])
 (.block 0 (.loop [.v 12 tQ] [0] [0] (.seq (.reg [(oQ 13 (.bin .lss (.t 12) (.t 11)))])
 (.seq (.cond (.t 13) .skip (.exit 0))
 (.seq (.block 1 (.seq (.reg [(oQ 14 (.mv (.t 12))),
 (oQ 15 (.ia 2 (.t 10) (.t 12))),
 (oQ 16 (.ldn 2 (.t 15))),
 (oQ 5 (.newz 0 [zQ, zQ])),
 (oQ 4 (.mv (.t 14))),
 (uQ (.st 2 (.t 5) (.t 16)))])
 (.seq (.reg [(oQ 17 (.ldn 2 (.t 5))),
 (kQ 18 1 98 [(.t 17), (iQ 1000000)]),
 (oQ 6 (.mv (.t 18)))])
 (.seq (.reg [(oQ 19 (.mv (.t 6))),
 (oQ 20 (.bin .neq (.t 19) (iQ 0)))])
 (.cond (.t 20) (.seq (.reg [(oQ 21 (.mv (.t 4))),
 (oQ 22 (.mv (.t 6))),
 (oQ 2 (.mv (.t 21))),
 (oQ 3 (.mv (.t 22)))])
 .ret) .skip)))))
 (.reg [(oQ 23 (.bin .add (.t 12) (iQ 1))),
 (oQ 12 (.mv (.t 23)))])))))))
 (.seq (.reg [(oQ 2 (.mv (iQ 0))),
 (oQ 3 (.mv (iQ 0)))])
 .ret))))⟩
def A_gravity_CheckHeights : Nat → Ty := tyAt [.un, .un]
abbrev P_gravity_CheckHeights : List PSh := [.one (.sl pQ)]
abbrev R_gravity_CheckHeights : List PSh := [.one tQ, .one tQ]
theorem e_gravity_CheckHeights : cFn Tryd.prog 27 = some F_gravity_CheckHeights.erase := by kernel_rfl
theorem k_gravity_CheckHeights : callable Tryd.prog 27 = true := by kernel_rfl
def F_base_CopyInts : TFn := ⟨6, 2, [.tmp 2],
 (.seq (.reg [(oQ 2 (.mv (.c (.p (.sl 0 [] true)))))])
 (.seq (.reg [(oQ 3 (.bsl true 0 1 0 [] [])),
 (oQ 4 (.mv (.t 0))),
 (oQ 5 (.app 1 1 8 (.t 3) (.t 4))),
 (oQ 2 (.mv (.t 5)))])
 .ret))⟩
def A_base_CopyInts : Nat → Ty := tyAt [tQ, tQ]
abbrev P_base_CopyInts : List PSh := [.one (.sl tQ)]
abbrev R_base_CopyInts : List PSh := [.one (.sl tQ)]
abbrev E_base_CopyInts : Ty := tQ
theorem e_base_CopyInts : cFn Tryd.prog 31 = some F_base_CopyInts.erase := by kernel_rfl
theorem k_base_CopyInts : callable Tryd.prog 31 = true := by kernel_rfl
def F_gravity_ResidualsOf : TFn := ⟨66, 15, [.tmp 6, .tmp 7],
 (.seq (.reg [(oQ 3 (.box 0 (.t 0))),
 (oQ 5 (.box 1 (.t 2))),
 (oQ 6 (.mv (.c (.p (.sl 0 [] true))))),
 (oQ 7 (.mv (iQ 0)))])
 (.seq (.regd [(oQ 14 (.ld1 (.t 3))),
 (kQ 15 2 102 [(.t 14)]),
 (oQ 16 (.mv (.t 1))),
 (kQ 17 3 99 [(.t 16)]),
 (oQ 18 (.ld1 (.t 5))),
 (kQ 19 4 94 [(.t 18), (iQ 0), (iQ 1000)]),
 (kQ 20 5 89 [(.t 19), (iQ 2)]),
 (oQ 21 (.ld1 (.t 3))),
 (oQ 22 (.len false (.t 21))),
 (oQ 23 (.mv (.t 1))),
 (oQ 24 (.len false (.t 23))),
 (oQ 25 (.bin .eql (.t 22) (.t 24))),
 (oQ 26 (.mv (.t 25))),
 (gQ 27 26 true (.ld1 (.t 3))),
 (gQ 28 26 true (.len false (.t 27))),
 (gQ 29 26 true (.bin .geq (.t 28) (iQ 3))),
 (oQ 30 (.pick (.t 26) (.t 29) (.c (.p (.bool false))))),
 (kQ 31 6 89 [(.t 30), (iQ 10)]),
 (oQ 32 (.bsl false 7 1 4 [zQ, zQ, zQ, zQ] [(0, 1, (.t 15)), (1, 1, (.t 17)), (2, 1, (.t 20)), (3, 1, (.t 31))])),
 (kQ 33 8 88 [(.t 32)]),
 (oQ 8 (.mv (.t 33)))] [(0, 4), (1, 4), (3, 4), (0, 7), (1, 7), (3, 7), (4, 7), (5, 7), (6, 7)] [])
 (.seq (.seq (.reg [(oQ 34 (.mv (.t 8))),
 (oQ 35 (.bin .neq (.t 34) (iQ 0)))])
 (.cond (.t 35) (.seq (.reg [(oQ 36 (.mv (.t 8))),
 (oQ 6 (.mv (.c (.p (.sl 0 [] true))))),
 (oQ 7 (.mv (.t 36)))])
 .ret) .skip))
 (.seq (.reg [(oQ 9 (.newz 9 [(.p (.sl 0 [] true))]))])
 (.seq (.seq (.reg [(oQ 37 (.mv (.t 1))),
 (kQ 38 10 100 [(.t 37), (iQ 3)])])
 (.block 0 (.rng (.t 38) [39, 40] [39, 40, 10, 11, 41, 42, 43, 12, 44, 45, 46, 47, 48, 13, 49, 50, 51, 52, 53, 54, 55, 56, 57, 58, 59, 60, 61, 62, 63, 64] [.q 9 14 pQ] [9, 12, 14] [12, 14] (.seq (.reg [(oQ 10 (.mv (.t 39)))])
 (.reg [(oQ 11 (.mv (.t 40)))]))
 (.block 1 (.seq (.reg [(oQ 41 (.sla 1 3 (.c (.ipt [(.int .i64 1), (.int .i64 (-2)), (.int .i64 1)])) none none)),
 (oQ 42 (.mv (.t 11))),
 (kQ 43 11 101 [(.t 41), (.t 42)]),
 (oQ 12 (.newz 12 [zQ, zQ])),
 (uQ (.st 2 (.t 12) (.t 43)))])
 (.seq (.reg [(oQ 44 (.ld1 (.t 3))),
 (oQ 45 (.mv (.t 10))),
 (oQ 46 (.bin .add (.t 45) (iQ 1))),
 (oQ 47 (.ia 1 (.t 44) (.t 46))),
 (oQ 48 (.ld1 (.t 47))),
 (oQ 13 (.mv (.t 48)))])
 (.reg [(oQ 49 (.ld1 (.t 9))),
 (oQ 50 (.mv (.t 13))),
 (oQ 51 (.ld1 (.t 5))),
 (oQ 52 (.fa 1 (.t 12))),
 (oQ 53 (.ld1 (.t 52))),
 (oQ 54 (.bin .mul (.t 51) (.t 53))),
 (oQ 55 (.bin .sub (.t 50) (.t 54))),
 (oQ 56 (.mv (.t 13))),
 (oQ 57 (.ld1 (.t 5))),
 (oQ 58 (.fa 0 (.t 12))),
 (oQ 59 (.ld1 (.t 58))),
 (oQ 60 (.bin .mul (.t 57) (.t 59))),
 (oQ 61 (.bin .sub (.t 56) (.t 60))),
 (oQ 62 (.build [zQ, zQ] [(0, 1, (.t 55)), (1, 1, (.t 61))])),
 (oQ 63 (.bsl false 13 2 1 [zQ, zQ] [(0, 2, (.t 62))])),
 (oQ 64 (.app 14 2 16 (.t 49) (.t 63))),
 (uQ (.st 1 (.t 9) (.t 64)))])))))))
 (.seq (.reg [(oQ 65 (.ld1 (.t 9))),
 (oQ 6 (.mv (.t 65))),
 (oQ 7 (.mv (iQ 0)))])
 .ret))))))⟩
def A_gravity_ResidualsOf : Nat → Ty := tyAt [.un, .un, .un, .un, .un, .un, .un, tQ, .un, .un, .un, .un, .un, pQ, pQ]
abbrev P_gravity_ResidualsOf : List PSh := [.one (.sl tQ), .one (.sl pQ), .one tQ]
abbrev R_gravity_ResidualsOf : List PSh := [.one (.sl pQ), .one tQ]
theorem e_gravity_ResidualsOf : cFn Tryd.prog 30 = some F_gravity_ResidualsOf.erase := by kernel_rfl
theorem k_gravity_ResidualsOf : callable Tryd.prog 30 = true := by kernel_rfl
def F_base_Ranges : TFn := ⟨26, 0, [.tmp 4],
 (.seq (.reg [(oQ 4 (.mv (.c (.p (.bool false)))))])
 (.seq (.seq (.reg [(oQ 6 (.mv (.t 0))),
 (oQ 7 (.len false (.t 6))),
 (oQ 8 (.mv (.t 1))),
 (oQ 9 (.len false (.t 8))),
 (oQ 10 (.bin .neq (.t 7) (.t 9)))])
 (.cond (.t 10) (.seq (.reg [(oQ 4 (.mv (.c (.p (.bool false)))))])
 .ret) .skip))
 (.seq (.seq (.reg [(oQ 5 (.mv (iQ 0)))])
 (.block 0 (.loop [.v 5 tQ] [] [] (.seq (.seq (.reg [(oQ 11 (.mv (.t 5))),
 (oQ 12 (.mv (.t 0))),
 (oQ 13 (.len false (.t 12))),
 (oQ 14 (.bin .lss (.t 11) (.t 13)))])
 (.cond (.t 14) .skip (.exit 0)))
 (.seq (.block 1 (.seq (.regd [(oQ 17 (.mv (.t 0))),
 (oQ 18 (.mv (.t 5))),
 (oQ 19 (.ia 2 (.t 17) (.t 18))),
 (oQ 20 (.ldn 2 (.t 19))),
 (oQ 21 (.mv (.t 1))),
 (oQ 22 (.mv (.t 5))),
 (oQ 23 (.ia 2 (.t 21) (.t 22))),
 (oQ 24 (.ldn 2 (.t 23))),
 (oQ 25 (.eqa true 2 [(true, 0), (true, 1)] (.t 20) (.t 24)))] [(3, 7)] [])
 (.cond (.t 25) (.seq (.reg [(oQ 4 (.mv (.c (.p (.bool false)))))])
 .ret) .skip)))
 (.reg [(oQ 15 (.mv (.t 5))),
 (oQ 16 (.bin .add (.t 15) (iQ 1))),
 (oQ 5 (.mv (.t 16)))]))))))
 (.seq (.reg [(oQ 4 (.mv (.c (.p (.bool true)))))])
 .ret))))⟩
def A_base_Ranges : Nat → Ty := tyAt []
abbrev P_base_Ranges : List PSh := [.one (.sl pQ), .one (.sl pQ)]
abbrev R_base_Ranges : List PSh := [.one .bool]
theorem e_base_Ranges : cFn Tryd.prog 33 = some F_base_Ranges.erase := by kernel_rfl
theorem k_base_Ranges : callable Tryd.prog 33 = true := by kernel_rfl
def F_gravity_CheckNet : TFn := ⟨63, 14, [.tmp 2, .tmp 3],
 (.seq (.reg [(oQ 1 (.box 0 (.t 0))),
 (oQ 2 (.mv (iQ 0))),
 (oQ 3 (.mv (iQ 0)))])
 (.seq (.seq (.regd [(oQ 9 (.fa 0 (.t 1))),
 (oQ 10 (.ld1 (.t 9))),
 (kQ 11 1 94 [(.t 10), (iQ 1), (iQ 8)]),
 (kQ 12 2 89 [(.t 11), (iQ 2)]),
 (oQ 13 (.fa 1 (.t 1))),
 (oQ 14 (.ld1 (.t 13))),
 (oQ 15 (.len false (.t 14))),
 (oQ 16 (.bin .leq (.t 15) (iQ 12))),
 (kQ 17 3 89 [(.t 16), (iQ 8)]),
 (oQ 18 (.bsl false 4 1 2 [zQ, zQ] [(0, 1, (.t 12)), (1, 1, (.t 17))])),
 (kQ 19 5 88 [(.t 18)]),
 (oQ 4 (.mv (.t 19)))] [(1, 5), (2, 5), (3, 5)] [])
 (.seq (.reg [(oQ 20 (.mv (.t 4))),
 (oQ 21 (.bin .neq (.t 20) (iQ 0)))])
 (.cond (.t 21) (.seq (.reg [(oQ 22 (.mv (.t 4))),
 (oQ 2 (.mv (iQ 0))),
 (oQ 3 (.mv (.t 22)))])
 .ret) .skip)))
 (.seq (.seq (.reg [(oQ 23 (.fa 1 (.t 1))),
 (oQ 24 (.ld1 (.t 23))),
 (oQ 25 (.len false (.t 24))),
 (oQ 26 (.mv (iQ 0)))])
 (.block 0 (.loop [.v 26 tQ] [6] [6] (.seq (.reg [(oQ 27 (.bin .lss (.t 26) (.t 25)))])
 (.seq (.cond (.t 27) .skip (.exit 0))
 (.seq (.block 1 (.seq (.reg [(oQ 28 (.mv (.t 26))),
 (oQ 29 (.ia 4 (.t 24) (.t 26))),
 (oQ 30 (.ldn 4 (.t 29))),
 (oQ 6 (.newz 6 [zQ, zQ, zQ, zQ])),
 (oQ 5 (.mv (.t 28))),
 (uQ (.st 4 (.t 6) (.t 30)))])
 (.seq (.reg [(oQ 31 (.fa 0 (.t 6))),
 (oQ 32 (.ld1 (.t 31))),
 (oQ 33 (.fa 0 (.t 1))),
 (oQ 34 (.ld1 (.t 33))),
 (oQ 35 (.bin .sub (.t 34) (iQ 1))),
 (kQ 36 7 94 [(.t 32), (iQ 0), (.t 35)]),
 (oQ 37 (.mv (.t 36))),
 (gQ 38 37 true (.fa 1 (.t 6))),
 (gQ 39 37 true (.ld1 (.t 38))),
 (gQ 40 37 true (.fa 0 (.t 1))),
 (gQ 41 37 true (.ld1 (.t 40))),
 (gQ 42 37 true (.bin .sub (.t 41) (iQ 1))),
 ⟨some 43, some (some 37, true), (.call 8 94 [(.t 39), (iQ 0), (.t 42)])⟩,
 (oQ 44 (.pick (.t 37) (.t 43) (.c (.p (.bool false))))),
 (oQ 7 (.mv (.t 44)))])
 (.seq (.regd [(oQ 45 (.mv (.t 7))),
 (kQ 46 9 89 [(.t 45), (iQ 6)]),
 (oQ 47 (.fa 0 (.t 6))),
 (oQ 48 (.ld1 (.t 47))),
 (oQ 49 (.fa 1 (.t 6))),
 (oQ 50 (.ld1 (.t 49))),
 (oQ 51 (.bin .neq (.t 48) (.t 50))),
 (kQ 52 10 89 [(.t 51), (iQ 13)]),
 (oQ 53 (.fa 2 (.t 6))),
 (oQ 54 (.ldn 2 (.t 53))),
 (kQ 55 11 98 [(.t 54), (iQ 1000000)]),
 (oQ 56 (.bsl false 12 1 3 [zQ, zQ, zQ] [(0, 1, (.t 46)), (1, 1, (.t 52)), (2, 1, (.t 55))])),
 (kQ 57 13 88 [(.t 56)]),
 (oQ 8 (.mv (.t 57)))] [(1, 3), (1, 5), (3, 5), (1, 9), (3, 9), (5, 9), (7, 9)] [])
 (.seq (.reg [(oQ 58 (.mv (.t 8))),
 (oQ 59 (.bin .neq (.t 58) (iQ 0)))])
 (.cond (.t 59) (.seq (.reg [(oQ 60 (.mv (.t 5))),
 (oQ 61 (.mv (.t 8))),
 (oQ 2 (.mv (.t 60))),
 (oQ 3 (.mv (.t 61)))])
 .ret) .skip))))))
 (.reg [(oQ 62 (.bin .add (.t 26) (iQ 1))),
 (oQ 26 (.mv (.t 62)))])))))))
 (.seq (.reg [(oQ 2 (.mv (iQ 0))),
 (oQ 3 (.mv (iQ 0)))])
 .ret))))⟩
def A_gravity_CheckNet : Nat → Ty := tyAt [.un, .un, .un, .un, tQ, .un, .un, .un, .un, .un, .un, .un, tQ, .un]
abbrev P_gravity_CheckNet : List PSh := [.agg (.pr tQ (.sl (.pr tQ (.pr tQ pQ))))]
abbrev R_gravity_CheckNet : List PSh := [.one tQ, .one tQ]
theorem e_gravity_CheckNet : cFn Tryd.prog 41 = some F_gravity_CheckNet.erase := by kernel_rfl
theorem k_gravity_CheckNet : callable Tryd.prog 41 = true := by kernel_rfl
def F_gravity_ValuesOf : TFn := ⟨27, 3, [.tmp 2, .tmp 3],
 (.seq (.reg [(oQ 1 (.box 0 (.t 0))),
 (oQ 2 (.mv (.c (.p (.sl 0 [] true))))),
 (oQ 3 (.mv (iQ 0)))])
 (.seq (.seq (.reg [(oQ 9 (.ldn 2 (.t 1))),
 (kQ 10 1 41 [(.t 9)]),
 (oQ 8 (.mv (.t 10))),
 (oQ 11 (.ext 0 (.t 8))),
 (oQ 12 (.ext 1 (.t 8))),
 (oQ 4 (.mv (.t 11))),
 (oQ 5 (.mv (.t 12)))])
 (.seq (.reg [(oQ 13 (.mv (.t 5))),
 (oQ 14 (.bin .neq (.t 13) (iQ 0)))])
 (.cond (.t 14) (.seq (.reg [(oQ 15 (.mv (.t 5))),
 (oQ 2 (.mv (.c (.p (.sl 0 [] true))))),
 (oQ 3 (.mv (.t 15)))])
 .ret) .skip)))
 (.seq (.reg [(oQ 17 (.fa 0 (.t 1))),
 (oQ 18 (.ld1 (.t 17))),
 (oQ 19 (.fa 1 (.t 1))),
 (oQ 20 (.ld1 (.t 19))),
 (kQ 21 2 106 [(.t 18), (.t 20)]),
 (oQ 16 (.mv (.t 21))),
 (oQ 22 (.ext 0 (.t 16))),
 (oQ 23 (.ext 1 (.t 16))),
 (oQ 6 (.mv (.t 22))),
 (oQ 7 (.mv (.t 23)))])
 (.seq (.seq (.reg [(oQ 24 (.mv (.t 7))),
 (oQ 25 (.unot (.t 24)))])
 (.cond (.t 25) (.seq (.reg [(oQ 2 (.mv (.c (.p (.sl 0 [] true))))),
 (oQ 3 (.mv (iQ 13)))])
 .ret) .skip))
 (.seq (.reg [(oQ 26 (.mv (.t 6))),
 (oQ 2 (.mv (.t 26))),
 (oQ 3 (.mv (iQ 0)))])
 .ret)))))⟩
def A_gravity_ValuesOf : Nat → Ty := tyAt [.un, .un, .un]
abbrev P_gravity_ValuesOf : List PSh := [.agg (.pr tQ (.sl (.pr tQ (.pr tQ pQ))))]
abbrev R_gravity_ValuesOf : List PSh := [.one (.sl tQ), .one tQ]
theorem e_gravity_ValuesOf : cFn Tryd.prog 43 = some F_gravity_ValuesOf.erase := by kernel_rfl
theorem k_gravity_ValuesOf : callable Tryd.prog 43 = true := by kernel_rfl
def F_gravity_CheckVisits : TFn := ⟨57, 11, [.tmp 2, .tmp 3],
 (.seq (.reg [(oQ 2 (.mv (iQ 0))),
 (oQ 3 (.mv (iQ 0)))])
 (.seq (.seq (.reg [(oQ 8 (.mv (.t 0))),
 (oQ 9 (.len false (.t 8))),
 (oQ 10 (.bin .geq (.t 9) (iQ 2))),
 (kQ 11 0 89 [(.t 10), (iQ 10)]),
 (oQ 12 (.mv (.t 0))),
 (oQ 13 (.len false (.t 12))),
 (oQ 14 (.bin .leq (.t 13) (iQ 10))),
 (kQ 15 1 89 [(.t 14), (iQ 8)]),
 (oQ 16 (.bsl false 2 1 2 [zQ, zQ] [(0, 1, (.t 11)), (1, 1, (.t 15))])),
 (kQ 17 3 88 [(.t 16)]),
 (oQ 4 (.mv (.t 17)))])
 (.seq (.reg [(oQ 18 (.mv (.t 4))),
 (oQ 19 (.bin .neq (.t 18) (iQ 0)))])
 (.cond (.t 19) (.seq (.reg [(oQ 20 (.mv (.t 4))),
 (oQ 2 (.mv (iQ 0))),
 (oQ 3 (.mv (.t 20)))])
 .ret) .skip)))
 (.seq (.seq (.reg [(oQ 21 (.mv (.t 0))),
 (oQ 22 (.len false (.t 21))),
 (oQ 23 (.mv (iQ 0)))])
 (.block 0 (.loop [.v 23 tQ] [4] [4] (.seq (.reg [(oQ 24 (.bin .lss (.t 23) (.t 22)))])
 (.seq (.cond (.t 24) .skip (.exit 0))
 (.seq (.block 1 (.seq (.reg [(oQ 25 (.mv (.t 23))),
 (oQ 26 (.ia 3 (.t 21) (.t 23))),
 (oQ 27 (.ldn 3 (.t 26))),
 (oQ 6 (.newz 4 [zQ, zQ, zQ])),
 (oQ 5 (.mv (.t 25))),
 (uQ (.st 3 (.t 6) (.t 27)))])
 (.seq (.regd [(oQ 28 (.fa 0 (.t 6))),
 (oQ 29 (.ld1 (.t 28))),
 (kQ 30 5 94 [(.t 29), (iQ 0), (iQ 1000000)]),
 (kQ 31 6 89 [(.t 30), (iQ 2)]),
 (oQ 32 (.fa 1 (.t 6))),
 (oQ 33 (.ldn 2 (.t 32))),
 (kQ 34 7 98 [(.t 33), (iQ 1000000)]),
 (oQ 35 (.mv (.t 5))),
 (oQ 36 (.bin .eql (.t 35) (iQ 0))),
 (oQ 37 (.mv (.t 36))),
 (gQ 38 37 false (.fa 0 (.t 6))),
 (gQ 39 37 false (.ld1 (.t 38))),
 (gQ 40 37 false (.mv (.t 0))),
 (gQ 41 37 false (.mv (.t 5))),
 (gQ 42 37 false (.bin .sub (.t 41) (iQ 1))),
 (gQ 43 37 false (.mm true (iQ 0) (.t 42))),
 (gQ 44 37 false (.ia 3 (.t 40) (.t 43))),
 (gQ 45 37 false (.fa 0 (.t 44))),
 (gQ 46 37 false (.ld1 (.t 45))),
 (gQ 47 37 false (.bin .gtr (.t 39) (.t 46))),
 (oQ 48 (.pick (.t 37) (.c (.p (.bool true))) (.t 47))),
 (kQ 49 8 89 [(.t 48), (iQ 9)]),
 (oQ 50 (.bsl false 9 1 3 [zQ, zQ, zQ] [(0, 1, (.t 31)), (1, 1, (.t 34)), (2, 1, (.t 49))])),
 (kQ 51 10 88 [(.t 50)]),
 (oQ 7 (.mv (.t 51)))] [(1, 5), (2, 5), (3, 5), (11, 18)] [])
 (.seq (.reg [(oQ 52 (.mv (.t 7))),
 (oQ 53 (.bin .neq (.t 52) (iQ 0)))])
 (.cond (.t 53) (.seq (.reg [(oQ 54 (.mv (.t 5))),
 (oQ 55 (.mv (.t 7))),
 (oQ 2 (.mv (.t 54))),
 (oQ 3 (.mv (.t 55)))])
 .ret) .skip)))))
 (.reg [(oQ 56 (.bin .add (.t 23) (iQ 1))),
 (oQ 23 (.mv (.t 56)))])))))))
 (.seq (.reg [(oQ 2 (.mv (iQ 0))),
 (oQ 3 (.mv (iQ 0)))])
 .ret))))⟩
def A_gravity_CheckVisits : Nat → Ty := tyAt [.un, .un, tQ, .un, .un, .un, .un, .un, .un, tQ, .un]
abbrev P_gravity_CheckVisits : List PSh := [.one (.sl (.pr tQ pQ))]
abbrev R_gravity_CheckVisits : List PSh := [.one tQ, .one tQ]
theorem e_gravity_CheckVisits : cFn Tryd.prog 48 = some F_gravity_CheckVisits.erase := by kernel_rfl
theorem k_gravity_CheckVisits : callable Tryd.prog 48 = true := by kernel_rfl
def F_gravity_RateOf : TFn := ⟨32, 6, [.celln 2 4, .tmp 3],
 (.seq (.reg [(oQ 2 (.newz 0 [zQ, zQ, zQ, zQ])),
 (oQ 3 (.mv (iQ 0)))])
 (.seq (.seq (.reg [(oQ 8 (.mv (.t 0))),
 (kQ 9 1 48 [(.t 8)]),
 (oQ 7 (.mv (.t 9))),
 (oQ 10 (.ext 0 (.t 7))),
 (oQ 11 (.ext 1 (.t 7))),
 (oQ 4 (.mv (.t 10))),
 (oQ 5 (.mv (.t 11)))])
 (.seq (.reg [(oQ 12 (.mv (.t 5))),
 (oQ 13 (.bin .neq (.t 12) (iQ 0)))])
 (.cond (.t 13) (.seq (.reg [(oQ 14 (.build [zQ, zQ, zQ, zQ] [])),
 (oQ 15 (.mv (.t 5))),
 (uQ (.st 4 (.t 2) (.t 14))),
 (oQ 3 (.mv (.t 15)))])
 .ret) .skip)))
 (.seq (.reg [(oQ 16 (.mv (.t 0))),
 (kQ 17 2 111 [(.t 16)]),
 (oQ 6 (.newz 3 [zQ, zQ, zQ, zQ])),
 (uQ (.st 4 (.t 6) (.t 17)))])
 (.seq (.seq (.reg [(oQ 18 (.fa 0 (.t 6))),
 (oQ 19 (.ldn 2 (.t 18))),
 (oQ 20 (.fa 2 (.t 6))),
 (oQ 21 (.ldn 2 (.t 20))),
 (kQ 22 4 112 [(.t 19), (.t 21)]),
 (oQ 23 (.bin .gtr (.t 22) (iQ 0)))])
 (.cond (.t 23) (.seq (.reg [(oQ 24 (.build [zQ, zQ, zQ, zQ] [])),
 (uQ (.st 4 (.t 2) (.t 24))),
 (oQ 3 (.mv (iQ 13)))])
 .ret) .skip))
 (.seq (.reg [(oQ 25 (.fa 0 (.t 6))),
 (oQ 26 (.ldn 2 (.t 25))),
 (oQ 27 (.fa 2 (.t 6))),
 (oQ 28 (.ldn 2 (.t 27))),
 (kQ 29 5 113 [(.t 26), (.t 28)]),
 (oQ 30 (.ext 0 (.t 29))),
 (oQ 31 (.ext 1 (.t 29))),
 (uQ (.st 4 (.t 2) (.t 30))),
 (oQ 3 (.mv (.t 31)))])
 .ret)))))⟩
def A_gravity_RateOf : Nat → Ty := tyAt [.un, .un, .un, .un, .un, .un]
abbrev P_gravity_RateOf : List PSh := [.one (.sl (.pr tQ pQ))]
abbrev R_gravity_RateOf : List PSh := [.agg (.pr pQ pQ), .one tQ]
theorem e_gravity_RateOf : cFn Tryd.prog 50 = some F_gravity_RateOf.erase := by kernel_rfl
theorem k_gravity_RateOf : callable Tryd.prog 50 = true := by kernel_rfl
def F_base_Within : TFn := ⟨15, 0, [.tmp 6],
 (.seq (.reg [(oQ 6 (.mv (.c (.p (.bool false)))))])
 (.seq (.reg [(oQ 7 (.mv (.t 1))),
 (oQ 8 (.mv (.t 0))),
 (oQ 9 (.bin .leq (.t 7) (.t 8))),
 (oQ 10 (.mv (.t 9))),
 (gQ 11 10 true (.mv (.t 0))),
 (gQ 12 10 true (.mv (.t 2))),
 (gQ 13 10 true (.bin .leq (.t 11) (.t 12))),
 (oQ 14 (.pick (.t 10) (.t 13) (.c (.p (.bool false))))),
 (oQ 6 (.mv (.t 14)))])
 .ret))⟩
def A_base_Within : Nat → Ty := tyAt []
abbrev P_base_Within : List PSh := [.one tQ, .one tQ, .one tQ]
abbrev R_base_Within : List PSh := [.one .bool]
theorem e_base_Within : cFn Tryd.prog 60 = some F_base_Within.erase := by kernel_rfl
theorem k_base_Within : callable Tryd.prog 60 = true := by kernel_rfl
def F_base_Mod : TFn := ⟨14, 0, [.tmp 4],
 (.seq (.reg [(oQ 4 (.mv (iQ 0)))])
 (.seq (.reg [(oQ 5 (.mv (.t 0))),
 (oQ 6 (.mv (.t 1))),
 (oQ 7 (.bin .rem (.t 5) (.t 6))),
 (oQ 0 (.mv (.t 7)))])
 (.seq (.seq (.reg [(oQ 8 (.mv (.t 0))),
 (oQ 9 (.bin .lss (.t 8) (iQ 0)))])
 (.cond (.t 9) (.reg [(oQ 10 (.mv (.t 0))),
 (oQ 11 (.mv (.t 1))),
 (oQ 12 (.bin .add (.t 10) (.t 11))),
 (oQ 0 (.mv (.t 12)))]) .skip))
 (.seq (.reg [(oQ 13 (.mv (.t 0))),
 (oQ 4 (.mv (.t 13)))])
 .ret))))⟩
def A_base_Mod : Nat → Ty := tyAt []
abbrev P_base_Mod : List PSh := [.one tQ, .one tQ]
abbrev R_base_Mod : List PSh := [.one tQ]
theorem e_base_Mod : cFn Tryd.prog 61 = some F_base_Mod.erase := by kernel_rfl
theorem k_base_Mod : callable Tryd.prog 61 = true := by kernel_rfl
def F_gravity_Filtered : TFn := ⟨48, 17, [.tmp 4, .tmp 5],
 (.seq (.reg [(oQ 2 (.box 0 (.t 0))),
 (oQ 4 (.mv (.c (.p (.sl 0 [] true))))),
 (oQ 5 (.mv (iQ 0)))])
 (.seq (.seq (.reg [(oQ 13 (.ldn 1 (.t 2))),
 (kQ 14 1 75 [(.t 13)]),
 (oQ 15 (.mv (.t 1))),
 (kQ 16 2 99 [(.t 15)]),
 (oQ 17 (.bsl false 3 1 2 [zQ, zQ] [(0, 1, (.t 14)), (1, 1, (.t 16))])),
 (kQ 18 4 88 [(.t 17)]),
 (oQ 6 (.mv (.t 18)))])
 (.seq (.reg [(oQ 19 (.mv (.t 6))),
 (oQ 20 (.bin .neq (.t 19) (iQ 0)))])
 (.cond (.t 20) (.seq (.reg [(oQ 21 (.mv (.t 6))),
 (oQ 4 (.mv (.c (.p (.sl 0 [] true))))),
 (oQ 5 (.mv (.t 21)))])
 .ret) .skip)))
 (.seq (.regd [(oQ 22 (.ldn 1 (.t 2))),
 (kQ 23 5 90 [(.t 22)]),
 (oQ 24 (.ldn 1 (.t 2))),
 (kQ 25 6 116 [(.t 24)]),
 (oQ 7 (.newz 7 [(.p (.sl 0 [] true))])),
 (oQ 8 (.newz 8 [zQ])),
 (uQ (.st 1 (.t 7) (.t 23))),
 (uQ (.st 1 (.t 8) (.t 25)))] [(0, 2), (1, 2), (0, 4), (1, 4), (2, 4), (3, 4), (0, 5), (1, 5), (2, 5), (3, 5), (4, 5)] [])
 (.seq (.reg [(oQ 9 (.newz 9 [(.p (.sl 0 [] true))]))])
 (.seq (.seq (.reg [(oQ 26 (.mv (.t 1))),
 (oQ 27 (.ld1 (.t 7))),
 (oQ 28 (.len false (.t 27))),
 (kQ 29 10 100 [(.t 26), (.t 28)])])
 (.block 0 (.rng (.t 29) [30, 31] [30, 31, 11, 32, 33, 34, 12, 35, 36, 37, 38, 39, 40, 41, 42, 43, 44, 45, 46] [.q 9 16 pQ] [9, 12, 16] [12, 16] (.reg [(oQ 11 (.mv (.t 31)))])
 (.block 1 (.seq (.reg [(oQ 32 (.ld1 (.t 7))),
 (oQ 33 (.mv (.t 11))),
 (kQ 34 11 101 [(.t 32), (.t 33)]),
 (oQ 12 (.newz 12 [zQ, zQ])),
 (uQ (.st 2 (.t 12) (.t 34)))])
 (.regd [(oQ 35 (.ld1 (.t 9))),
 (oQ 36 (.fa 0 (.t 12))),
 (oQ 37 (.ld1 (.t 36))),
 (oQ 38 (.ld1 (.t 8))),
 (kQ 39 13 117 [(.t 37), (.t 38)]),
 (oQ 40 (.fa 1 (.t 12))),
 (oQ 41 (.ld1 (.t 40))),
 (oQ 42 (.ld1 (.t 8))),
 (kQ 43 14 118 [(.t 41), (.t 42)]),
 (oQ 44 (.build [zQ, zQ] [(0, 1, (.t 39)), (1, 1, (.t 43))])),
 (oQ 45 (.bsl false 15 2 1 [zQ, zQ] [(0, 2, (.t 44))])),
 (oQ 46 (.app 16 2 16 (.t 35) (.t 45))),
 (uQ (.st 1 (.t 9) (.t 46)))] [(0, 2), (0, 3), (2, 3), (0, 4), (0, 6), (2, 6), (3, 6), (4, 6), (0, 7), (2, 7), (3, 7), (4, 7), (6, 7), (0, 8)] []))))))
 (.seq (.reg [(oQ 47 (.ld1 (.t 9))),
 (oQ 4 (.mv (.t 47))),
 (oQ 5 (.mv (iQ 0)))])
 .ret))))))⟩
def A_gravity_Filtered : Nat → Ty := tyAt [.un, .un, .un, tQ, .un, .un, .un, .un, .un, .un, .un, .un, .un, .un, .un, pQ, pQ]
abbrev P_gravity_Filtered : List PSh := [.agg (.sl tQ), .one (.sl pQ)]
abbrev R_gravity_Filtered : List PSh := [.one (.sl pQ), .one tQ]
theorem e_gravity_Filtered : cFn Tryd.prog 64 = some F_gravity_Filtered.erase := by kernel_rfl
theorem k_gravity_Filtered : callable Tryd.prog 64 = true := by kernel_rfl
def F_base_Size : TFn := ⟨7, 0, [.tmp 2],
 (.seq (.reg [(oQ 2 (.mv (iQ 0)))])
 (.seq (.reg [(oQ 3 (.mv (.t 0))),
 (oQ 4 (.mv (.t 0))),
 (oQ 5 (.uneg (.t 4))),
 (oQ 6 (.mm true (.t 3) (.t 5))),
 (oQ 2 (.mv (.t 6)))])
 .ret))⟩
def A_base_Size : Nat → Ty := tyAt []
abbrev P_base_Size : List PSh := [.one tQ]
abbrev R_base_Size : List PSh := [.one tQ]
theorem e_base_Size : cFn Tryd.prog 65 = some F_base_Size.erase := by kernel_rfl
theorem k_base_Size : callable Tryd.prog 65 = true := by kernel_rfl
def F_gravity_SumOf : TFn := ⟨12, 3, [.tmp 2, .tmp 3],
 (.seq (.reg [(oQ 1 (.box 0 (.t 0))),
 (oQ 2 (.mv (iQ 0))),
 (oQ 3 (.mv (iQ 0)))])
 (.seq (.seq (.reg [(oQ 5 (.ldn 1 (.t 1))),
 (kQ 6 1 75 [(.t 5)]),
 (oQ 4 (.mv (.t 6)))])
 (.seq (.reg [(oQ 7 (.mv (.t 4))),
 (oQ 8 (.bin .neq (.t 7) (iQ 0)))])
 (.cond (.t 8) (.seq (.reg [(oQ 9 (.mv (.t 4))),
 (oQ 2 (.mv (iQ 0))),
 (oQ 3 (.mv (.t 9)))])
 .ret) .skip)))
 (.seq (.reg [(oQ 10 (.ldn 1 (.t 1))),
 (kQ 11 2 116 [(.t 10)]),
 (oQ 2 (.mv (.t 11))),
 (oQ 3 (.mv (iQ 0)))])
 .ret)))⟩
def A_gravity_SumOf : Nat → Ty := tyAt [.un, .un, .un]
abbrev P_gravity_SumOf : List PSh := [.agg (.sl tQ)]
abbrev R_gravity_SumOf : List PSh := [.one tQ, .one tQ]
theorem e_gravity_SumOf : cFn Tryd.prog 73 = some F_gravity_SumOf.erase := by kernel_rfl
theorem k_gravity_SumOf : callable Tryd.prog 73 = true := by kernel_rfl
def F_gravity_GainAt : TFn := ⟨47, 6, [.tmp 4, .tmp 5],
 (.seq (.reg [(oQ 2 (.box 0 (.t 0))),
 (oQ 4 (.mv (iQ 0))),
 (oQ 5 (.mv (iQ 0)))])
 (.seq (.seq (.reg [(oQ 10 (.ldn 1 (.t 2))),
 (kQ 11 1 75 [(.t 10)]),
 (oQ 12 (.mv (.t 1))),
 (kQ 13 2 94 [(.t 12), (iQ 0), (iQ 3)]),
 (kQ 14 3 89 [(.t 13), (iQ 2)]),
 (oQ 15 (.bsl false 4 1 2 [zQ, zQ] [(0, 1, (.t 11)), (1, 1, (.t 14))])),
 (kQ 16 5 88 [(.t 15)]),
 (oQ 6 (.mv (.t 16)))])
 (.seq (.reg [(oQ 17 (.mv (.t 6))),
 (oQ 18 (.bin .neq (.t 17) (iQ 0)))])
 (.cond (.t 18) (.seq (.reg [(oQ 19 (.mv (.t 6))),
 (oQ 4 (.mv (iQ 0))),
 (oQ 5 (.mv (.t 19)))])
 .ret) .skip)))
 (.seq (.reg [(oQ 20 (.fa 0 (.t 2))),
 (oQ 21 (.ld1 (.t 20))),
 (oQ 22 (.ia 1 (.t 21) (iQ 0))),
 (oQ 23 (.ld1 (.t 22))),
 (oQ 7 (.mv (.t 23)))])
 (.seq (.seq (.reg [(oQ 24 (.fa 0 (.t 2))),
 (oQ 25 (.ld1 (.t 24))),
 (oQ 26 (.sl 1 (.t 25) (some (iQ 1)) none)),
 (oQ 27 (.len false (.t 26))),
 (oQ 28 (.mv (iQ 0)))])
 (.block 0 (.loop [.v 28 tQ, .v 7 tQ] [] [] (.seq (.reg [(oQ 29 (.bin .lss (.t 28) (.t 27)))])
 (.seq (.cond (.t 29) .skip (.exit 0))
 (.seq (.block 1 (.seq (.reg [(oQ 30 (.mv (.t 28))),
 (oQ 31 (.ia 1 (.t 26) (.t 28))),
 (oQ 32 (.ld1 (.t 31))),
 (oQ 8 (.mv (.t 30))),
 (oQ 9 (.mv (.t 32)))])
 (.reg [(oQ 33 (.mv (.t 7))),
 (oQ 34 (.mv (.t 9))),
 (oQ 35 (.bin .mul (iQ 2) (.t 34))),
 (oQ 36 (.mv (.t 8))),
 (oQ 37 (.bin .add (.t 36) (iQ 1))),
 (oQ 38 (.mv (.t 1))),
 (oQ 39 (.bin .mul (.t 37) (.t 38))),
 (oQ 40 (.bin .rem (.t 39) (iQ 4))),
 (oQ 41 (.iaa 1 4 (.c (.ipt [(.int .i64 1), (.int .i64 0), (.int .i64 (-1)), (.int .i64 0)])) (.t 40))),
 (oQ 42 (.ld1 (.t 41))),
 (oQ 43 (.bin .mul (.t 35) (.t 42))),
 (oQ 44 (.bin .add (.t 33) (.t 43))),
 (oQ 7 (.mv (.t 44)))])))
 (.reg [(oQ 45 (.bin .add (.t 28) (iQ 1))),
 (oQ 28 (.mv (.t 45)))])))))))
 (.seq (.reg [(oQ 46 (.mv (.t 7))),
 (oQ 4 (.mv (.t 46))),
 (oQ 5 (.mv (iQ 0)))])
 .ret)))))⟩
def A_gravity_GainAt : Nat → Ty := tyAt [.un, .un, .un, .un, tQ, .un]
abbrev P_gravity_GainAt : List PSh := [.agg (.sl tQ), .one tQ]
abbrev R_gravity_GainAt : List PSh := [.one tQ, .one tQ]
theorem e_gravity_GainAt : cFn Tryd.prog 74 = some F_gravity_GainAt.erase := by kernel_rfl
theorem k_gravity_GainAt : callable Tryd.prog 74 = true := by kernel_rfl
def F_gravity_CheckFilter : TFn := ⟨30, 9, [.tmp 2],
 (.seq (.reg [(oQ 1 (.box 0 (.t 0))),
 (oQ 2 (.mv (iQ 0)))])
 (.seq (.reg [(oQ 5 (.fa 0 (.t 1))),
 (oQ 6 (.ld1 (.t 5))),
 (kQ 7 1 91 [(.t 6), (.c (.clo 121 []))]),
 (oQ 3 (.mv (.t 7)))])
 (.seq (.regd [(oQ 8 (.fa 0 (.t 1))),
 (oQ 9 (.ld1 (.t 8))),
 (oQ 10 (.len false (.t 9))),
 (oQ 11 (.bin .gtr (.t 10) (iQ 0))),
 (kQ 12 2 89 [(.t 11), (iQ 10)]),
 (oQ 13 (.fa 0 (.t 1))),
 (oQ 14 (.ld1 (.t 13))),
 (oQ 15 (.len false (.t 14))),
 (oQ 16 (.bin .leq (.t 15) (iQ 9))),
 (kQ 17 3 89 [(.t 16), (iQ 8)]),
 (oQ 18 (.mv (.t 3))),
 (oQ 19 (.unot (.t 18))),
 (kQ 20 4 89 [(.t 19), (iQ 2)]),
 (oQ 21 (.bsl false 5 1 3 [zQ, zQ, zQ] [(0, 1, (.t 12)), (1, 1, (.t 17)), (2, 1, (.t 20))])),
 (kQ 22 6 88 [(.t 21)]),
 (oQ 4 (.mv (.t 22)))] [(1, 6), (4, 6)] [])
 (.seq (.seq (.reg [(oQ 23 (.mv (.t 4))),
 (oQ 24 (.bin .neq (.t 23) (iQ 0)))])
 (.cond (.t 24) (.seq (.reg [(oQ 25 (.mv (.t 4))),
 (oQ 2 (.mv (.t 25)))])
 .ret) .skip))
 (.seq (.reg [(oQ 26 (.ldn 1 (.t 1))),
 (kQ 27 7 116 [(.t 26)]),
 (oQ 28 (.bin .gtr (.t 27) (iQ 0))),
 (kQ 29 8 89 [(.t 28), (iQ 11)]),
 (oQ 2 (.mv (.t 29)))])
 .ret)))))⟩
def A_gravity_CheckFilter : Nat → Ty := tyAt [.un, .un, .un, .un, .un, tQ, .un, .un, .un]
abbrev P_gravity_CheckFilter : List PSh := [.agg (.sl tQ)]
abbrev R_gravity_CheckFilter : List PSh := [.one tQ]
theorem e_gravity_CheckFilter : cFn Tryd.prog 75 = some F_gravity_CheckFilter.erase := by kernel_rfl
theorem k_gravity_CheckFilter : callable Tryd.prog 75 = true := by kernel_rfl
def F_ref05_Sum : TFn := ⟨5, 2, [.tmp 2],
 (.seq (.reg [(oQ 1 (.box 0 (.t 0))),
 (oQ 2 (.mv (iQ 0)))])
 (.seq (.reg [(oQ 3 (.ldn 1 (.t 1))),
 (kQ 4 1 77 [(.t 3), (iQ 0)]),
 (oQ 2 (.mv (.t 4)))])
 .ret))⟩
def A_ref05_Sum : Nat → Ty := tyAt [.un, .un]
abbrev P_ref05_Sum : List PSh := [.agg (.sl tQ)]
abbrev R_ref05_Sum : List PSh := [.one tQ]
theorem e_ref05_Sum : cFn Tryd.prog 76 = some F_ref05_Sum.erase := by kernel_rfl
theorem k_ref05_Sum : callable Tryd.prog 76 = true := by kernel_rfl
def F_ref05_Gain : TFn := ⟨35, 4, [.tmp 4],
 (.seq (.reg [(oQ 2 (.box 0 (.t 0))),
 (oQ 4 (.mv (iQ 0)))])
 (.seq (.reg [(oQ 5 (.mv (iQ 0)))])
 (.seq (.seq (.reg [(oQ 8 (.fa 0 (.t 2))),
 (oQ 9 (.ld1 (.t 8))),
 (oQ 10 (.len false (.t 9))),
 (oQ 11 (.uneg (.t 10))),
 (oQ 12 (.bin .add (.t 11) (iQ 1))),
 (oQ 6 (.mv (.t 12)))])
 (.block 0 (.loop [.v 6 tQ, .v 5 tQ] [] [] (.seq (.seq (.reg [(oQ 13 (.mv (.t 6))),
 (oQ 14 (.fa 0 (.t 2))),
 (oQ 15 (.ld1 (.t 14))),
 (oQ 16 (.len false (.t 15))),
 (oQ 17 (.bin .lss (.t 13) (.t 16)))])
 (.cond (.t 17) .skip (.exit 0)))
 (.seq (.block 1 (.seq (.reg [(oQ 20 (.bsl false 1 1 4 [zQ, zQ, zQ, zQ] [(0, 1, (iQ 1)), (1, 1, (iQ 0)), (2, 1, (iQ (-1))), (3, 1, (iQ 0))])),
 (oQ 21 (.mv (.t 6))),
 (oQ 22 (.mv (.t 1))),
 (oQ 23 (.bin .mul (.t 21) (.t 22))),
 (kQ 24 2 61 [(.t 23), (iQ 4)]),
 (oQ 25 (.ia 1 (.t 20) (.t 24))),
 (oQ 26 (.ld1 (.t 25))),
 (oQ 7 (.mv (.t 26)))])
 (.reg [(oQ 27 (.mv (.t 5))),
 (oQ 28 (.mv (.t 7))),
 (oQ 29 (.ldn 1 (.t 2))),
 (oQ 30 (.mv (.t 6))),
 (kQ 31 3 96 [(.t 29), (.t 30)]),
 (oQ 32 (.bin .mul (.t 28) (.t 31))),
 (oQ 33 (.bin .add (.t 27) (.t 32))),
 (oQ 5 (.mv (.t 33)))])))
 (.reg [(oQ 18 (.mv (.t 6))),
 (oQ 19 (.bin .add (.t 18) (iQ 1))),
 (oQ 6 (.mv (.t 19)))]))))))
 (.seq (.reg [(oQ 34 (.mv (.t 5))),
 (oQ 4 (.mv (.t 34)))])
 .ret))))⟩
def A_ref05_Gain : Nat → Ty := tyAt [.un, tQ, .un, .un]
abbrev P_ref05_Gain : List PSh := [.agg (.sl tQ), .one tQ]
abbrev R_ref05_Gain : List PSh := [.one tQ]
theorem e_ref05_Gain : cFn Tryd.prog 77 = some F_ref05_Gain.erase := by kernel_rfl
theorem k_ref05_Gain : callable Tryd.prog 77 = true := by kernel_rfl
def F_law05_Heights : TFn := ⟨5, 1, [.tmp 0],
 (.seq (.reg [(oQ 0 (.mv (.c (.p (.sl 0 [] true)))))])
 (.seq (.reg [(oQ 1 (.build [zQ, zQ] [(1, 1, (iQ 2))])),
 (oQ 2 (.build [zQ, zQ] [(0, 1, (iQ 1)), (1, 1, (iQ 1))])),
 (oQ 3 (.build [zQ, zQ] [(0, 1, (iQ 4)), (1, 1, (iQ 6))])),
 (oQ 4 (.bsl false 0 2 3 [zQ, zQ, zQ, zQ, zQ, zQ] [(0, 2, (.t 1)), (2, 2, (.t 2)), (4, 2, (.t 3))])),
 (oQ 0 (.mv (.t 4)))])
 .ret))⟩
def A_law05_Heights : Nat → Ty := tyAt [pQ]
abbrev P_law05_Heights : List PSh := []
abbrev R_law05_Heights : List PSh := [.one (.sl pQ)]
theorem e_law05_Heights : cFn Tryd.prog 85 = some F_law05_Heights.erase := by kernel_rfl
theorem k_law05_Heights : callable Tryd.prog 85 = true := by kernel_rfl
def F_law05_Visits : TFn := ⟨6, 1, [.tmp 0],
 (.seq (.reg [(oQ 0 (.mv (.c (.p (.sl 0 [] true)))))])
 (.seq (.reg [(oQ 1 (.build [zQ, zQ] [(0, 1, (iQ 10)), (1, 1, (iQ 12))])),
 (oQ 2 (.build [zQ, zQ, zQ] [(1, 2, (.t 1))])),
 (oQ 3 (.build [zQ, zQ] [(0, 1, (iQ 20)), (1, 1, (iQ 21))])),
 (oQ 4 (.build [zQ, zQ, zQ] [(0, 1, (iQ 10)), (1, 2, (.t 3))])),
 (oQ 5 (.bsl false 0 3 2 [zQ, zQ, zQ, zQ, zQ, zQ] [(0, 3, (.t 2)), (3, 3, (.t 4))])),
 (oQ 0 (.mv (.t 5)))])
 .ret))⟩
def A_law05_Visits : Nat → Ty := tyAt [(.pr tQ pQ)]
abbrev P_law05_Visits : List PSh := []
abbrev R_law05_Visits : List PSh := [.one (.sl (.pr tQ pQ))]
theorem e_law05_Visits : cFn Tryd.prog 86 = some F_law05_Visits.erase := by kernel_rfl
theorem k_law05_Visits : callable Tryd.prog 86 = true := by kernel_rfl
def F_law05_Net : TFn := ⟨9, 2, [.celln 0 2],
 (.seq (.reg [(oQ 0 (.newz 0 [zQ, (.p (.sl 0 [] true))]))])
 (.seq (.reg [(oQ 1 (.build [zQ, zQ] [(0, 1, (iQ 5)), (1, 1, (iQ 6))])),
 (oQ 2 (.build [zQ, zQ, zQ, zQ] [(1, 1, (iQ 1)), (2, 2, (.t 1))])),
 (oQ 3 (.build [zQ, zQ] [(0, 1, (iQ 2)), (1, 1, (iQ 3))])),
 (oQ 4 (.build [zQ, zQ, zQ, zQ] [(0, 1, (iQ 1)), (1, 1, (iQ 2)), (2, 2, (.t 3))])),
 (oQ 5 (.build [zQ, zQ] [(0, 1, (iQ 7)), (1, 1, (iQ 8))])),
 (oQ 6 (.build [zQ, zQ, zQ, zQ] [(1, 1, (iQ 2)), (2, 2, (.t 5))])),
 (oQ 7 (.bsl false 1 4 3 [zQ, zQ, zQ, zQ, zQ, zQ, zQ, zQ, zQ, zQ, zQ, zQ] [(0, 4, (.t 2)), (4, 4, (.t 4)), (8, 4, (.t 6))])),
 (oQ 8 (.build [zQ, (.p (.sl 0 [] true))] [(0, 1, (iQ 3)), (1, 1, (.t 7))])),
 (uQ (.st 2 (.t 0) (.t 8)))])
 .ret))⟩
def A_law05_Net : Nat → Ty := tyAt [.un, (.pr tQ (.pr tQ pQ))]
abbrev P_law05_Net : List PSh := []
abbrev R_law05_Net : List PSh := [.agg (.pr tQ (.sl (.pr tQ (.pr tQ pQ))))]
theorem e_law05_Net : cFn Tryd.prog 87 = some F_law05_Net.erase := by kernel_rfl
theorem k_law05_Net : callable Tryd.prog 87 = true := by kernel_rfl
def F_gravity_unless : TFn := ⟨7, 0, [.tmp 4],
 (.seq (.reg [(oQ 4 (.mv (iQ 0)))])
 (.seq (.seq (.reg [(oQ 5 (.mv (.t 0)))])
 (.cond (.t 5) (.seq (.reg [(oQ 4 (.mv (iQ 0)))])
 .ret) .skip))
 (.seq (.reg [(oQ 6 (.mv (.t 1))),
 (oQ 4 (.mv (.t 6)))])
 .ret)))⟩
def A_gravity_unless : Nat → Ty := tyAt []
abbrev P_gravity_unless : List PSh := [.one .bool, .one tQ]
abbrev R_gravity_unless : List PSh := [.one tQ]
theorem e_gravity_unless : cFn Tryd.prog 89 = some F_gravity_unless.erase := by kernel_rfl
theorem k_gravity_unless : callable Tryd.prog 89 = true := by kernel_rfl
def F_gravity_first : TFn := ⟨15, 0, [.tmp 2],
 (.seq (.reg [(oQ 2 (.mv (iQ 0)))])
 (.seq (.seq (.reg [(oQ 5 (.mv (.t 0))),
 (oQ 6 (.len false (.t 5))),
 (oQ 7 (.mv (iQ 0)))])
 (.block 0 (.loop [.v 7 tQ] [] [] (.seq (.reg [(oQ 8 (.bin .lss (.t 7) (.t 6)))])
 (.seq (.cond (.t 8) .skip (.exit 0))
 (.seq (.block 1 (.seq (.reg [(oQ 9 (.ia 1 (.t 5) (.t 7))),
 (oQ 10 (.ld1 (.t 9))),
 (oQ 4 (.mv (.t 10)))])
 (.seq (.reg [(oQ 11 (.mv (.t 4))),
 (oQ 12 (.bin .neq (.t 11) (iQ 0)))])
 (.cond (.t 12) (.seq (.reg [(oQ 13 (.mv (.t 4))),
 (oQ 2 (.mv (.t 13)))])
 .ret) .skip))))
 (.reg [(oQ 14 (.bin .add (.t 7) (iQ 1))),
 (oQ 7 (.mv (.t 14)))])))))))
 (.seq (.reg [(oQ 2 (.mv (iQ 0)))])
 .ret)))⟩
def A_gravity_first : Nat → Ty := tyAt []
abbrev P_gravity_first : List PSh := [.one (.sl tQ)]
abbrev R_gravity_first : List PSh := [.one tQ]
theorem e_gravity_first : cFn Tryd.prog 88 = some F_gravity_first.erase := by kernel_rfl
theorem k_gravity_first : callable Tryd.prog 88 = true := by kernel_rfl
def F_gravity_both : TFn := ⟨14, 4, [.tmp 2],
 (.seq (.reg [(oQ 1 (.box 0 (.t 0))),
 (oQ 2 (.mv (.c (.p (.sl 0 [] true)))))])
 (.seq (.reg [(oQ 4 (.fa 0 (.t 1))),
 (oQ 5 (.ld1 (.t 4))),
 (kQ 6 1 125 [(.t 5)]),
 (oQ 3 (.mv (.t 6)))])
 (.seq (.reg [(oQ 7 (.mv (.t 3))),
 (kQ 8 2 129 [(.t 7)])])
 (.seq (.reg [(oQ 9 (.mv (.t 3))),
 (oQ 10 (.fa 0 (.t 1))),
 (oQ 11 (.ld1 (.t 10))),
 (oQ 12 (.sl 1 (.t 11) (some (iQ 1)) none)),
 (oQ 13 (.app 3 1 8 (.t 9) (.t 12))),
 (oQ 2 (.mv (.t 13)))])
 .ret))))⟩
def A_gravity_both : Nat → Ty := tyAt [.un, .un, .un, tQ]
abbrev P_gravity_both : List PSh := [.agg (.sl tQ)]
abbrev R_gravity_both : List PSh := [.one (.sl tQ)]
abbrev E_gravity_both : Ty := tQ
theorem e_gravity_both : cFn Tryd.prog 90 = some F_gravity_both.erase := by kernel_rfl
theorem k_gravity_both : callable Tryd.prog 90 = true := by kernel_rfl
def F_slices_ContainsFuncint_int__gravity_Composed_1 : TFn := ⟨9, 1, [.tmp 4],
 (.seq (.reg [(oQ 4 (.mv (.c (.p (.bool false)))))])
 (.seq (.reg [(oQ 5 (.mv (.t 0))),
 (oQ 6 (.mv (.t 1))),
 (kQ 7 0 107 [(.t 5), (.t 6)]),
 (oQ 8 (.bin .geq (.t 7) (iQ 0))),
 (oQ 4 (.mv (.t 8)))])
 .ret))⟩
def A_slices_ContainsFuncint_int__gravity_Composed_1 : Nat → Ty := tyAt [.un]
abbrev P_slices_ContainsFuncint_int__gravity_Composed_1 : List PSh := [.one (.sl tQ), .fn 92 []]
abbrev R_slices_ContainsFuncint_int__gravity_Composed_1 : List PSh := [.one .bool]
theorem e_slices_ContainsFuncint_int__gravity_Composed_1 : cFn Tryd.prog 91 = some F_slices_ContainsFuncint_int__gravity_Composed_1.erase := by kernel_rfl
theorem k_slices_ContainsFuncint_int__gravity_Composed_1 : callable Tryd.prog 91 = true := by kernel_rfl
def F_gravity_isSized : TFn := ⟨10, 1, [.tmp 4],
 (.seq (.reg [(oQ 4 (.mv (.c (.p (.bool false)))))])
 (.seq (.reg [(oQ 5 (.mv (.t 0))),
 (oQ 6 (.mv (.t 1))),
 (oQ 7 (.uneg (.t 6))),
 (oQ 8 (.mv (.t 1))),
 (kQ 9 0 94 [(.t 5), (.t 7), (.t 8)]),
 (oQ 4 (.mv (.t 9)))])
 .ret))⟩
def A_gravity_isSized : Nat → Ty := tyAt [.un]
abbrev P_gravity_isSized : List PSh := [.one tQ, .one tQ]
abbrev R_gravity_isSized : List PSh := [.one .bool]
theorem e_gravity_isSized : cFn Tryd.prog 93 = some F_gravity_isSized.erase := by kernel_rfl
theorem k_gravity_isSized : callable Tryd.prog 93 = true := by kernel_rfl
def F_gravity_within : TFn := ⟨15, 0, [.tmp 6],
 (.seq (.reg [(oQ 6 (.mv (.c (.p (.bool false)))))])
 (.seq (.reg [(oQ 7 (.mv (.t 1))),
 (oQ 8 (.mv (.t 0))),
 (oQ 9 (.bin .leq (.t 7) (.t 8))),
 (oQ 10 (.mv (.t 9))),
 (gQ 11 10 true (.mv (.t 0))),
 (gQ 12 10 true (.mv (.t 2))),
 (gQ 13 10 true (.bin .leq (.t 11) (.t 12))),
 (oQ 14 (.pick (.t 10) (.t 13) (.c (.p (.bool false))))),
 (oQ 6 (.mv (.t 14)))])
 .ret))⟩
def A_gravity_within : Nat → Ty := tyAt []
abbrev P_gravity_within : List PSh := [.one tQ, .one tQ, .one tQ]
abbrev R_gravity_within : List PSh := [.one .bool]
theorem e_gravity_within : cFn Tryd.prog 94 = some F_gravity_within.erase := by kernel_rfl
theorem k_gravity_within : callable Tryd.prog 94 = true := by kernel_rfl
def F_gravity_fraction : TFn := ⟨29, 4, [.celln 4 2, .tmp 5],
 (.seq (.reg [(oQ 4 (.newz 0 [zQ, zQ])),
 (oQ 5 (.mv (iQ 0)))])
 (.seq (.reg [(oQ 8 (.mv (.t 0))),
 (oQ 9 (.mv (.t 1))),
 (kQ 10 1 114 [(.t 8), (.t 9)]),
 (oQ 6 (.mv (.t 10)))])
 (.seq (.regd [(oQ 11 (.mv (.t 0))),
 (oQ 12 (.mv (.t 6))),
 (oQ 13 (.bin .quo (.t 11) (.t 12))),
 (oQ 14 (.mv (.t 1))),
 (oQ 15 (.mv (.t 6))),
 (oQ 16 (.bin .quo (.t 14) (.t 15))),
 (oQ 17 (.build [zQ, zQ] [(0, 1, (.t 13)), (1, 1, (.t 16))])),
 (oQ 7 (.newz 2 [zQ, zQ])),
 (uQ (.st 2 (.t 7) (.t 17)))] [] [])
 (.seq (.seq (.reg [(oQ 18 (.fa 0 (.t 7))),
 (oQ 19 (.ld1 (.t 18))),
 (kQ 20 3 93 [(.t 19), (iQ 1000000000)]),
 (oQ 21 (.unot (.t 20))),
 (oQ 22 (.mv (.t 21))),
 (gQ 23 22 false (.fa 1 (.t 7))),
 (gQ 24 22 false (.ld1 (.t 23))),
 (gQ 25 22 false (.bin .gtr (.t 24) (iQ 1000000000))),
 (oQ 26 (.pick (.t 22) (.c (.p (.bool true))) (.t 25)))])
 (.cond (.t 26) (.seq (.reg [(oQ 27 (.build [zQ, zQ] [])),
 (uQ (.st 2 (.t 4) (.t 27))),
 (oQ 5 (.mv (iQ 8)))])
 .ret) .skip))
 (.seq (.reg [(oQ 28 (.ldn 2 (.t 7))),
 (uQ (.st 2 (.t 4) (.t 28))),
 (oQ 5 (.mv (iQ 0)))])
 .ret)))))⟩
def A_gravity_fraction : Nat → Ty := tyAt [.un, .un, .un, .un]
abbrev P_gravity_fraction : List PSh := [.one tQ, .one tQ]
abbrev R_gravity_fraction : List PSh := [.agg pQ, .one tQ]
theorem e_gravity_fraction : cFn Tryd.prog 95 = some F_gravity_fraction.erase := by kernel_rfl
theorem k_gravity_fraction : callable Tryd.prog 95 = true := by kernel_rfl
def F_ref05_at : TFn := ⟨17, 2, [.tmp 4],
 (.seq (.reg [(oQ 2 (.box 0 (.t 0))),
 (oQ 4 (.mv (iQ 0)))])
 (.seq (.seq (.reg [(oQ 5 (.mv (.t 1))),
 (kQ 6 1 65 [(.t 5)]),
 (oQ 1 (.mv (.t 6)))])
 (.seq (.reg [(oQ 7 (.mv (.t 1))),
 (oQ 8 (.fa 0 (.t 2))),
 (oQ 9 (.ld1 (.t 8))),
 (oQ 10 (.len false (.t 9))),
 (oQ 11 (.bin .lss (.t 7) (.t 10)))])
 (.cond (.t 11) (.seq (.reg [(oQ 12 (.fa 0 (.t 2))),
 (oQ 13 (.ld1 (.t 12))),
 (oQ 14 (.mv (.t 1))),
 (oQ 15 (.ia 1 (.t 13) (.t 14))),
 (oQ 16 (.ld1 (.t 15))),
 (oQ 4 (.mv (.t 16)))])
 .ret) .skip)))
 (.seq (.reg [(oQ 4 (.mv (iQ 0)))])
 .ret)))⟩
def A_ref05_at : Nat → Ty := tyAt [.un, .un]
abbrev P_ref05_at : List PSh := [.agg (.sl tQ), .one tQ]
abbrev R_ref05_at : List PSh := [.one tQ]
theorem e_ref05_at : cFn Tryd.prog 96 = some F_ref05_at.erase := by kernel_rfl
theorem k_ref05_at : callable Tryd.prog 96 = true := by kernel_rfl
def F_gravity_rangeErr : TFn := ⟨24, 7, [.tmp 4],
 (.seq (.reg [(oQ 2 (.box 0 (.t 0))),
 (oQ 4 (.mv (iQ 0)))])
 (.seq (.regd [(oQ 5 (.fa 0 (.t 2))),
 (oQ 6 (.ld1 (.t 5))),
 (oQ 7 (.mv (.t 1))),
 (kQ 8 1 93 [(.t 6), (.t 7)]),
 (oQ 9 (.mv (.t 8))),
 (gQ 10 9 true (.fa 1 (.t 2))),
 (gQ 11 9 true (.ld1 (.t 10))),
 (gQ 12 9 true (.mv (.t 1))),
 ⟨some 13, some (some 9, true), (.call 2 93 [(.t 11), (.t 12)])⟩,
 (oQ 14 (.pick (.t 9) (.t 13) (.c (.p (.bool false))))),
 (kQ 15 3 89 [(.t 14), (iQ 2)]),
 (oQ 16 (.fa 0 (.t 2))),
 (oQ 17 (.ld1 (.t 16))),
 (oQ 18 (.fa 1 (.t 2))),
 (oQ 19 (.ld1 (.t 18))),
 (oQ 20 (.bin .leq (.t 17) (.t 19))),
 (kQ 21 4 89 [(.t 20), (iQ 9)]),
 (oQ 22 (.bsl false 5 1 2 [zQ, zQ] [(0, 1, (.t 15)), (1, 1, (.t 21))])),
 (kQ 23 6 88 [(.t 22)]),
 (oQ 4 (.mv (.t 23)))] [(1, 12), (3, 12), (6, 12), (8, 12), (10, 12), (1, 14), (3, 14), (6, 14), (8, 14), (10, 14), (12, 14)] [])
 .ret))⟩
def A_gravity_rangeErr : Nat → Ty := tyAt [.un, .un, .un, .un, .un, tQ, .un]
abbrev P_gravity_rangeErr : List PSh := [.agg pQ, .one tQ]
abbrev R_gravity_rangeErr : List PSh := [.one tQ]
theorem e_gravity_rangeErr : cFn Tryd.prog 98 = some F_gravity_rangeErr.erase := by kernel_rfl
theorem k_gravity_rangeErr : callable Tryd.prog 98 = true := by kernel_rfl
def F_gravity_rangesErr : TFn := ⟨11, 1, [.tmp 2],
 (.seq (.reg [(oQ 2 (.mv (iQ 0)))])
 (.seq (.reg [(oQ 6 (.mv (.t 0))),
 (kQ 7 0 27 [(.t 6)]),
 (oQ 5 (.mv (.t 7))),
 (oQ 8 (.ext 0 (.t 5))),
 (oQ 9 (.ext 1 (.t 5))),
 (oQ 3 (.mv (.t 8))),
 (oQ 4 (.mv (.t 9)))])
 (.seq (.reg [(oQ 10 (.mv (.t 4))),
 (oQ 2 (.mv (.t 10)))])
 .ret)))⟩
def A_gravity_rangesErr : Nat → Ty := tyAt [.un]
abbrev P_gravity_rangesErr : List PSh := [.one (.sl pQ)]
abbrev R_gravity_rangesErr : List PSh := [.one tQ]
theorem e_gravity_rangesErr : cFn Tryd.prog 99 = some F_gravity_rangesErr.erase := by kernel_rfl
theorem k_gravity_rangesErr : callable Tryd.prog 99 = true := by kernel_rfl
def F_gravity_windows : TFn := ⟨6, 2, [.tmp 4],
 (.seq (.reg [(oQ 2 (.box 0 (.t 0))),
 (oQ 3 (.box 1 (.t 1))),
 (oQ 4 (.mv (.c .und)))])
 (.seq (.reg [(oQ 5 (.clo 130 [(.t 2), (.t 3)])),
 (oQ 4 (.mv (.t 5)))])
 .ret))⟩
def A_gravity_windows : Nat → Ty := tyAt [.un, .un]
abbrev P_gravity_windows : List PSh := [.one (.sl pQ), .one tQ]
abbrev R_gravity_windows : List PSh := [.fn 130 [(.sl pQ), tQ]]
theorem e_gravity_windows : cFn Tryd.prog 100 = some F_gravity_windows.erase := by kernel_rfl
theorem k_gravity_windows : callable Tryd.prog 100 = true := by kernel_rfl
def F_gravity_windows_1 : TFn := ⟨25, 1, [],
 (.seq (.reg [(oQ 5 (.ld1 (.t 1))),
 (oQ 6 (.len false (.t 5))),
 (oQ 7 (.ld1 (.t 2))),
 (oQ 8 (.bin .sub (.t 6) (.t 7))),
 (oQ 9 (.bin .add (.t 8) (iQ 1))),
 (oQ 10 (.mm true (iQ 0) (.t 9))),
 (oQ 11 (.mv (iQ 0)))])
 (.block 0 (.loop [] [] [] (.seq (.reg [(oQ 12 (.bin .lss (.t 11) (.t 10)))])
 (.seq (.cond (.t 12) .skip (.exit 0))
 (.seq (.block 1 (.seq (.reg [(oQ 13 (.mv (.t 11))),
 (oQ 4 (.mv (.t 13)))])
 (.seq (.reg [(oQ 14 (.mv (.t 0))),
 (oQ 15 (.mv (.t 4))),
 (oQ 16 (.ld1 (.t 1))),
 (oQ 17 (.mv (.t 4))),
 (oQ 18 (.mv (.t 4))),
 (oQ 19 (.ld1 (.t 2))),
 (oQ 20 (.bin .add (.t 18) (.t 19))),
 (oQ 21 (.sl 2 (.t 16) (some (.t 17)) (some (.t 20)))),
 ⟨some 22, none, (.callv 0 (.t 14) [(.t 15), (.t 21)])⟩,
 (oQ 23 (.unot (.t 22)))])
 (.cond (.t 23) .ret .skip))))
 (.reg [(oQ 24 (.bin .add (.t 11) (iQ 1))),
 (oQ 11 (.mv (.t 24)))])))))))⟩
def A_gravity_windows_1 : Nat → Ty := tyAt []
abbrev P_gravity_windows_1 : List PSh := [.fn 130 [(.sl pQ), tQ], .one tQ, .one (.sl pQ)]
abbrev R_gravity_windows_1 : List PSh := []
theorem e_gravity_windows_1 : cFn Tryd.prog 130 = some F_gravity_windows_1.erase := by kernel_rfl
theorem k_gravity_windows_1 : callable Tryd.prog 130 = true := by kernel_rfl
def F_gravity_linear : TFn := ⟨46, 2, [.celln 4 2],
 (.seq (.reg [(oQ 4 (.newz 0 [zQ, zQ]))])
 (.seq (.reg [(oQ 5 (.newz 1 [zQ, zQ]))])
 (.seq (.seq (.reg [(oQ 10 (.mv (.t 0))),
 (oQ 11 (.len false (.t 10))),
 (oQ 12 (.mv (iQ 0)))])
 (.block 0 (.loop [.v 12 tQ, .c 1 pQ] [1] [] (.seq (.reg [(oQ 13 (.bin .lss (.t 12) (.t 11)))])
 (.seq (.cond (.t 13) .skip (.exit 0))
 (.seq (.block 1 (.seq (.reg [(oQ 14 (.mv (.t 12))),
 (oQ 15 (.ia 1 (.t 10) (.t 12))),
 (oQ 16 (.ld1 (.t 15))),
 (oQ 6 (.mv (.t 14))),
 (oQ 7 (.mv (.t 16)))])
 (.seq (.regd [(oQ 17 (.mv (.t 7))),
 (oQ 18 (.mv (.t 1))),
 (oQ 19 (.mv (.t 6))),
 (oQ 20 (.ia 2 (.t 18) (.t 19))),
 (oQ 21 (.fa 0 (.t 20))),
 (oQ 22 (.ld1 (.t 21))),
 (oQ 23 (.bin .mul (.t 17) (.t 22))),
 (oQ 24 (.mv (.t 7))),
 (oQ 25 (.mv (.t 1))),
 (oQ 26 (.mv (.t 6))),
 (oQ 27 (.ia 2 (.t 25) (.t 26))),
 (oQ 28 (.fa 1 (.t 27))),
 (oQ 29 (.ld1 (.t 28))),
 (oQ 30 (.bin .mul (.t 24) (.t 29))),
 (oQ 8 (.mv (.t 23))),
 (oQ 9 (.mv (.t 30)))] [(5, 12)] [])
 (.reg [(oQ 31 (.fa 0 (.t 5))),
 (oQ 32 (.ld1 (.t 31))),
 (oQ 33 (.mv (.t 8))),
 (oQ 34 (.mv (.t 9))),
 (oQ 35 (.mm false (.t 33) (.t 34))),
 (oQ 36 (.bin .add (.t 32) (.t 35))),
 (oQ 37 (.fa 1 (.t 5))),
 (oQ 38 (.ld1 (.t 37))),
 (oQ 39 (.mv (.t 8))),
 (oQ 40 (.mv (.t 9))),
 (oQ 41 (.mm true (.t 39) (.t 40))),
 (oQ 42 (.bin .add (.t 38) (.t 41))),
 (oQ 43 (.build [zQ, zQ] [(0, 1, (.t 36)), (1, 1, (.t 42))])),
 (uQ (.st 2 (.t 5) (.t 43)))]))))
 (.reg [(oQ 44 (.bin .add (.t 12) (iQ 1))),
 (oQ 12 (.mv (.t 44)))])))))))
 (.seq (.reg [(oQ 45 (.ldn 2 (.t 5))),
 (uQ (.st 2 (.t 4) (.t 45)))])
 .ret))))⟩
def A_gravity_linear : Nat → Ty := tyAt [.un, .un]
abbrev P_gravity_linear : List PSh := [.one (.sl tQ), .one (.sl pQ)]
abbrev R_gravity_linear : List PSh := [.agg pQ]
theorem e_gravity_linear : cFn Tryd.prog 101 = some F_gravity_linear.erase := by kernel_rfl
theorem k_gravity_linear : callable Tryd.prog 101 = true := by kernel_rfl
def F_gravity_readingsErr : TFn := ⟨15, 5, [.tmp 2],
 (.seq (.reg [(oQ 2 (.mv (iQ 0)))])
 (.seq (.reg [(oQ 4 (.mv (.t 0))),
 (kQ 5 0 91 [(.t 4), (.c (.clo 131 []))]),
 (oQ 3 (.mv (.t 5)))])
 (.seq (.reg [(oQ 6 (.mv (.t 0))),
 (oQ 7 (.len false (.t 6))),
 (oQ 8 (.bin .leq (.t 7) (iQ 64))),
 (kQ 9 1 89 [(.t 8), (iQ 8)]),
 (oQ 10 (.mv (.t 3))),
 (oQ 11 (.unot (.t 10))),
 (kQ 12 2 89 [(.t 11), (iQ 2)]),
 (oQ 13 (.bsl false 3 1 2 [zQ, zQ] [(0, 1, (.t 9)), (1, 1, (.t 12))])),
 (kQ 14 4 88 [(.t 13)]),
 (oQ 2 (.mv (.t 14)))])
 .ret)))⟩
def A_gravity_readingsErr : Nat → Ty := tyAt [.un, .un, .un, tQ, .un]
abbrev P_gravity_readingsErr : List PSh := [.one (.sl tQ)]
abbrev R_gravity_readingsErr : List PSh := [.one tQ]
theorem e_gravity_readingsErr : cFn Tryd.prog 102 = some F_gravity_readingsErr.erase := by kernel_rfl
theorem k_gravity_readingsErr : callable Tryd.prog 102 = true := by kernel_rfl
def F_gravity_greatest : TFn := ⟨18, 4, [.tmp 4, .tmp 5],
 (.seq (.reg [(oQ 4 (.mv (.c (.p (.sl 0 [] true))))),
 (oQ 5 (.mv (.c (.p (.bool false)))))])
 (.seq (.reg [(oQ 8 (.mv (.t 0))),
 (oQ 9 (.mk 0 1 8 [zQ] (.t 8))),
 (oQ 6 (.mv (.t 9)))])
 (.seq (.reg [(oQ 10 (.mv (.t 1))),
 (oQ 11 (.mv (.t 6))),
 (oQ 12 (.bsl false 1 1 1 [(.p (.bool false))] [(0, 1, (.c (.p (.bool true))))])),
 (oQ 13 (.mv (.t 0))),
 (kQ 14 2 134 [(.t 12), (.t 13)]),
 (kQ 15 3 133 [(.t 10), (.t 11), (.t 14)]),
 (oQ 7 (.mv (.t 15)))])
 (.seq (.reg [(oQ 16 (.mv (.t 6))),
 (oQ 17 (.mv (.t 7))),
 (oQ 4 (.mv (.t 16))),
 (oQ 5 (.mv (.t 17)))])
 .ret))))⟩
def A_gravity_greatest : Nat → Ty := tyAt [tQ, .bool, .un, .un]
abbrev P_gravity_greatest : List PSh := [.one tQ, .one (.sl (.pr tQ (.pr tQ pQ)))]
abbrev R_gravity_greatest : List PSh := [.one (.sl tQ), .one .bool]
theorem e_gravity_greatest : cFn Tryd.prog 106 = some F_gravity_greatest.erase := by kernel_rfl
theorem k_gravity_greatest : callable Tryd.prog 106 = true := by kernel_rfl
def F_gravity_rates : TFn := ⟨82, 8, [.celln 2 4],
 (.seq (.reg [(oQ 2 (.newz 0 [zQ, zQ, zQ, zQ]))])
 (.seq (.reg [(oQ 3 (.newz 1 [zQ, zQ, zQ, zQ]))])
 (.seq (.seq (.reg [(oQ 12 (.mv (.t 0))),
 (oQ 13 (.len false (.t 12))),
 (oQ 14 (.mv (iQ 0)))])
 (.block 0 (.loop [.v 14 tQ, .c 1 (.pr tQ (.pr tQ pQ))] [1, 2, 3, 4, 5] [2, 3, 4, 5] (.seq (.reg [(oQ 15 (.bin .lss (.t 14) (.t 13)))])
 (.seq (.cond (.t 15) .skip (.exit 0))
 (.seq (.block 1 (.seq (.reg [(oQ 16 (.mv (.t 14))),
 (oQ 17 (.ia 3 (.t 12) (.t 14))),
 (oQ 18 (.ldn 3 (.t 17))),
 (oQ 5 (.newz 2 [zQ, zQ, zQ])),
 (oQ 4 (.mv (.t 16))),
 (uQ (.st 3 (.t 5) (.t 18)))])
 (.seq (.reg [(oQ 19 (.mv (.t 0))),
 (oQ 20 (.mv (.t 4))),
 (oQ 21 (.sl 3 (.t 19) none (some (.t 20)))),
 (oQ 22 (.len false (.t 21))),
 (oQ 23 (.mv (iQ 0)))])
 (.block 2 (.loop [.v 23 tQ, .c 1 (.pr tQ (.pr tQ pQ))] [1, 3, 4, 5] [3, 4, 5] (.seq (.reg [(oQ 24 (.bin .lss (.t 23) (.t 22)))])
 (.seq (.cond (.t 24) .skip (.exit 2))
 (.seq (.block 3 (.seq (.reg [(oQ 25 (.mv (.t 23))),
 (oQ 26 (.ia 3 (.t 21) (.t 23))),
 (oQ 27 (.ldn 3 (.t 26))),
 (oQ 7 (.newz 3 [zQ, zQ, zQ])),
 (oQ 6 (.mv (.t 25))),
 (uQ (.st 3 (.t 7) (.t 27)))])
 (.seq (.reg [(oQ 28 (.fa 0 (.t 5))),
 (oQ 29 (.ld1 (.t 28))),
 (oQ 30 (.fa 0 (.t 7))),
 (oQ 31 (.ld1 (.t 30))),
 (oQ 32 (.bin .sub (.t 29) (.t 31))),
 (oQ 8 (.mv (.t 32)))])
 (.seq (.reg [(oQ 33 (.fa 1 (.t 5))),
 (oQ 34 (.fa 0 (.t 33))),
 (oQ 35 (.ld1 (.t 34))),
 (oQ 36 (.fa 1 (.t 7))),
 (oQ 37 (.fa 1 (.t 36))),
 (oQ 38 (.ld1 (.t 37))),
 (oQ 39 (.bin .sub (.t 35) (.t 38))),
 (oQ 40 (.mv (.t 8))),
 (oQ 41 (.build [zQ, zQ] [(0, 1, (.t 39)), (1, 1, (.t 40))])),
 (oQ 9 (.newz 4 [zQ, zQ])),
 (uQ (.st 2 (.t 9) (.t 41)))])
 (.seq (.reg [(oQ 42 (.fa 1 (.t 5))),
 (oQ 43 (.fa 1 (.t 42))),
 (oQ 44 (.ld1 (.t 43))),
 (oQ 45 (.fa 1 (.t 7))),
 (oQ 46 (.fa 0 (.t 45))),
 (oQ 47 (.ld1 (.t 46))),
 (oQ 48 (.bin .sub (.t 44) (.t 47))),
 (oQ 49 (.mv (.t 8))),
 (oQ 50 (.build [zQ, zQ] [(0, 1, (.t 48)), (1, 1, (.t 49))])),
 (oQ 10 (.newz 5 [zQ, zQ])),
 (uQ (.st 2 (.t 10) (.t 50)))])
 (.seq (.reg [(oQ 51 (.mv (.t 4))),
 (oQ 52 (.bin .gtr (.t 51) (iQ 1))),
 (oQ 53 (.mv (.t 52))),
 (gQ 54 53 false (.mv (.t 6))),
 (gQ 55 53 false (.bin .gtr (.t 54) (iQ 0))),
 (oQ 56 (.pick (.t 53) (.c (.p (.bool true))) (.t 55))),
 (oQ 11 (.mv (.t 56)))])
 (.seq (.seq (.reg [(oQ 57 (.mv (.t 11))),
 (oQ 58 (.unot (.t 57))),
 (oQ 59 (.mv (.t 58))),
 (gQ 60 59 false (.ldn 2 (.t 9))),
 (gQ 61 59 false (.fa 0 (.t 3))),
 (gQ 62 59 false (.ldn 2 (.t 61))),
 ⟨some 63, some (some 59, false), (.call 6 112 [(.t 60), (.t 62)])⟩,
 (gQ 64 59 false (.bin .gtr (.t 63) (iQ 0))),
 (oQ 65 (.pick (.t 59) (.c (.p (.bool true))) (.t 64)))])
 (.cond (.t 65) (.reg [(oQ 66 (.ldn 2 (.t 9))),
 (oQ 67 (.fa 0 (.t 3))),
 (uQ (.st 2 (.t 67) (.t 66)))]) .skip))
 (.seq (.reg [(oQ 68 (.mv (.t 11))),
 (oQ 69 (.unot (.t 68))),
 (oQ 70 (.mv (.t 69))),
 (gQ 71 70 false (.ldn 2 (.t 10))),
 (gQ 72 70 false (.fa 2 (.t 3))),
 (gQ 73 70 false (.ldn 2 (.t 72))),
 ⟨some 74, some (some 70, false), (.call 7 112 [(.t 71), (.t 73)])⟩,
 (gQ 75 70 false (.bin .lss (.t 74) (iQ 0))),
 (oQ 76 (.pick (.t 70) (.c (.p (.bool true))) (.t 75)))])
 (.cond (.t 76) (.reg [(oQ 77 (.ldn 2 (.t 10))),
 (oQ 78 (.fa 2 (.t 3))),
 (uQ (.st 2 (.t 78) (.t 77)))]) .skip)))))))))
 (.reg [(oQ 79 (.bin .add (.t 23) (iQ 1))),
 (oQ 23 (.mv (.t 79)))])))))))))
 (.reg [(oQ 80 (.bin .add (.t 14) (iQ 1))),
 (oQ 14 (.mv (.t 80)))])))))))
 (.seq (.reg [(oQ 81 (.ldn 4 (.t 3))),
 (uQ (.st 4 (.t 2) (.t 81)))])
 .ret))))⟩
def A_gravity_rates : Nat → Ty := tyAt [.un, .un, .un, .un, .un, .un, .un, .un]
abbrev P_gravity_rates : List PSh := [.one (.sl (.pr tQ pQ))]
abbrev R_gravity_rates : List PSh := [.agg (.pr pQ pQ)]
theorem e_gravity_rates : cFn Tryd.prog 111 = some F_gravity_rates.erase := by kernel_rfl
theorem k_gravity_rates : callable Tryd.prog 111 = true := by kernel_rfl
def F_gravity_compare : TFn := ⟨16, 3, [.tmp 4],
 (.seq (.reg [(oQ 2 (.box 0 (.t 0))),
 (oQ 3 (.box 1 (.t 1))),
 (oQ 4 (.mv (iQ 0)))])
 (.seq (.reg [(oQ 5 (.fa 0 (.t 2))),
 (oQ 6 (.ld1 (.t 5))),
 (oQ 7 (.fa 1 (.t 3))),
 (oQ 8 (.ld1 (.t 7))),
 (oQ 9 (.bin .mul (.t 6) (.t 8))),
 (oQ 10 (.fa 0 (.t 3))),
 (oQ 11 (.ld1 (.t 10))),
 (oQ 12 (.fa 1 (.t 2))),
 (oQ 13 (.ld1 (.t 12))),
 (oQ 14 (.bin .mul (.t 11) (.t 13))),
 (kQ 15 2 135 [(.t 9), (.t 14)]),
 (oQ 4 (.mv (.t 15)))])
 .ret))⟩
def A_gravity_compare : Nat → Ty := tyAt [.un, .un, .un]
abbrev P_gravity_compare : List PSh := [.agg pQ, .agg pQ]
abbrev R_gravity_compare : List PSh := [.one tQ]
theorem e_gravity_compare : cFn Tryd.prog 112 = some F_gravity_compare.erase := by kernel_rfl
theorem k_gravity_compare : callable Tryd.prog 112 = true := by kernel_rfl
def F_gravity_span : TFn := ⟨37, 9, [.celln 4 4, .tmp 5],
 (.seq (.reg [(oQ 2 (.box 0 (.t 0))),
 (oQ 3 (.box 1 (.t 1))),
 (oQ 4 (.newz 2 [zQ, zQ, zQ, zQ])),
 (oQ 5 (.mv (iQ 0)))])
 (.seq (.reg [(oQ 11 (.fa 0 (.t 2))),
 (oQ 12 (.ld1 (.t 11))),
 (oQ 13 (.fa 1 (.t 2))),
 (oQ 14 (.ld1 (.t 13))),
 (kQ 15 3 95 [(.t 12), (.t 14)]),
 (oQ 10 (.mv (.t 15))),
 (oQ 16 (.ext 0 (.t 10))),
 (oQ 17 (.ext 1 (.t 10))),
 (oQ 6 (.newz 4 [zQ, zQ])),
 (uQ (.st 2 (.t 6) (.t 16))),
 (oQ 7 (.mv (.t 17)))])
 (.seq (.reg [(oQ 19 (.fa 0 (.t 3))),
 (oQ 20 (.ld1 (.t 19))),
 (oQ 21 (.fa 1 (.t 3))),
 (oQ 22 (.ld1 (.t 21))),
 (kQ 23 5 95 [(.t 20), (.t 22)]),
 (oQ 18 (.mv (.t 23))),
 (oQ 24 (.ext 0 (.t 18))),
 (oQ 25 (.ext 1 (.t 18))),
 (oQ 8 (.newz 6 [zQ, zQ])),
 (uQ (.st 2 (.t 8) (.t 24))),
 (oQ 9 (.mv (.t 25)))])
 (.seq (.seq (.reg [(oQ 26 (.mv (.t 7))),
 (oQ 27 (.mv (.t 9))),
 (oQ 28 (.bsl false 7 1 2 [zQ, zQ] [(0, 1, (.t 26)), (1, 1, (.t 27))])),
 (kQ 29 8 88 [(.t 28)]),
 (oQ 7 (.mv (.t 29)))])
 (.seq (.reg [(oQ 30 (.mv (.t 7))),
 (oQ 31 (.bin .neq (.t 30) (iQ 0)))])
 (.cond (.t 31) (.seq (.reg [(oQ 32 (.build [zQ, zQ, zQ, zQ] [])),
 (oQ 33 (.mv (.t 7))),
 (uQ (.st 4 (.t 4) (.t 32))),
 (oQ 5 (.mv (.t 33)))])
 .ret) .skip)))
 (.seq (.reg [(oQ 34 (.ldn 2 (.t 6))),
 (oQ 35 (.ldn 2 (.t 8))),
 (oQ 36 (.build [zQ, zQ, zQ, zQ] [(0, 2, (.t 34)), (2, 2, (.t 35))])),
 (uQ (.st 4 (.t 4) (.t 36))),
 (oQ 5 (.mv (iQ 0)))])
 .ret)))))⟩
def A_gravity_span : Nat → Ty := tyAt [.un, .un, .un, .un, .un, .un, .un, tQ, .un]
abbrev P_gravity_span : List PSh := [.agg pQ, .agg pQ]
abbrev R_gravity_span : List PSh := [.agg (.pr pQ pQ), .one tQ]
theorem e_gravity_span : cFn Tryd.prog 113 = some F_gravity_span.erase := by kernel_rfl
theorem k_gravity_span : callable Tryd.prog 113 = true := by kernel_rfl
def F_gravity_divisor : TFn := ⟨15, 0, [.tmp 4],
 (.seq (.reg [(oQ 4 (.mv (iQ 0)))])
 (.seq (.block 0 (.loop [.v 1 tQ, .v 0 tQ] [] [] (.seq (.seq (.reg [(oQ 5 (.mv (.t 1))),
 (oQ 6 (.bin .neq (.t 5) (iQ 0)))])
 (.cond (.t 6) .skip (.exit 0)))
 (.block 1 (.regd [(oQ 7 (.mv (.t 1))),
 (oQ 8 (.mv (.t 0))),
 (oQ 9 (.mv (.t 1))),
 (oQ 10 (.bin .rem (.t 8) (.t 9))),
 (oQ 0 (.mv (.t 7))),
 (oQ 1 (.mv (.t 10)))] [] [])))))
 (.seq (.reg [(oQ 11 (.mv (.t 0))),
 (oQ 12 (.mv (.t 0))),
 (oQ 13 (.uneg (.t 12))),
 (oQ 14 (.mm true (.t 11) (.t 13))),
 (oQ 4 (.mv (.t 14)))])
 .ret)))⟩
def A_gravity_divisor : Nat → Ty := tyAt []
abbrev P_gravity_divisor : List PSh := [.one tQ, .one tQ]
abbrev R_gravity_divisor : List PSh := [.one tQ]
theorem e_gravity_divisor : cFn Tryd.prog 114 = some F_gravity_divisor.erase := by kernel_rfl
theorem k_gravity_divisor : callable Tryd.prog 114 = true := by kernel_rfl
def F_gravity_both_p : TFn := ⟨14, 4, [.tmp 2],
 (.seq (.reg [(oQ 1 (.box 0 (.t 0))),
 (oQ 2 (.mv (.c (.p (.sl 0 [] true)))))])
 (.seq (.reg [(oQ 4 (.fa 0 (.t 1))),
 (oQ 5 (.ld1 (.t 4))),
 (kQ 6 1 125 [(.t 5)]),
 (oQ 3 (.mv (.t 6)))])
 (.seq (.reg [(oQ 7 (.mv (.t 3))),
 (kQ 8 2 129 [(.t 7)])])
 (.seq (.reg [(oQ 9 (.mv (.t 3))),
 (oQ 10 (.fa 0 (.t 1))),
 (oQ 11 (.ld1 (.t 10))),
 (oQ 12 (.sl 1 (.t 11) (some (iQ 1)) none)),
 (oQ 13 (.app 3 1 8 (.t 9) (.t 12))),
 (oQ 2 (.mv (.t 13)))])
 .ret))))⟩
def A_gravity_both_p : Nat → Ty := tyAt [.un, .un, .un, tQ]
abbrev P_gravity_both_p : List PSh := [.agg (.sl tQ)]
abbrev R_gravity_both_p : List PSh := [.one (.sl tQ)]
theorem e_gravity_both_p : cFn Tryd.prog 90 = some F_gravity_both_p.erase := by kernel_rfl
theorem k_gravity_both_p : callable Tryd.prog 90 = true := by kernel_rfl
def F_gravity_sum : TFn := ⟨18, 2, [.tmp 2],
 (.seq (.reg [(oQ 1 (.box 0 (.t 0))),
 (oQ 2 (.mv (iQ 0)))])
 (.seq (.reg [(oQ 3 (.mv (iQ 0)))])
 (.seq (.seq (.reg [(oQ 6 (.ldn 1 (.t 1))),
 (kQ 7 1 90 [(.t 6)]),
 (oQ 8 (.len false (.t 7))),
 (oQ 9 (.mv (iQ 0)))])
 (.block 0 (.loop [.v 9 tQ, .v 3 tQ] [] [] (.seq (.reg [(oQ 10 (.bin .lss (.t 9) (.t 8)))])
 (.seq (.cond (.t 10) .skip (.exit 0))
 (.seq (.block 1 (.seq (.reg [(oQ 11 (.ia 1 (.t 7) (.t 9))),
 (oQ 12 (.ld1 (.t 11))),
 (oQ 5 (.mv (.t 12)))])
 (.reg [(oQ 13 (.mv (.t 3))),
 (oQ 14 (.mv (.t 5))),
 (oQ 15 (.bin .add (.t 13) (.t 14))),
 (oQ 3 (.mv (.t 15)))])))
 (.reg [(oQ 16 (.bin .add (.t 9) (iQ 1))),
 (oQ 9 (.mv (.t 16)))])))))))
 (.seq (.reg [(oQ 17 (.mv (.t 3))),
 (oQ 2 (.mv (.t 17)))])
 .ret))))⟩
def A_gravity_sum : Nat → Ty := tyAt [.un, .un]
abbrev P_gravity_sum : List PSh := [.agg (.sl tQ)]
abbrev R_gravity_sum : List PSh := [.one tQ]
theorem e_gravity_sum : cFn Tryd.prog 116 = some F_gravity_sum.erase := by kernel_rfl
theorem k_gravity_sum : callable Tryd.prog 116 = true := by kernel_rfl
def F_gravity_floor : TFn := ⟨17, 0, [.tmp 4],
 (.seq (.reg [(oQ 4 (.mv (iQ 0)))])
 (.seq (.reg [(oQ 6 (.mv (.t 0))),
 (oQ 7 (.mv (.t 1))),
 (oQ 8 (.bin .quo (.t 6) (.t 7))),
 (oQ 5 (.mv (.t 8)))])
 (.seq (.seq (.reg [(oQ 9 (.mv (.t 5))),
 (oQ 10 (.mv (.t 1))),
 (oQ 11 (.bin .mul (.t 9) (.t 10))),
 (oQ 12 (.mv (.t 0))),
 (oQ 13 (.bin .gtr (.t 11) (.t 12)))])
 (.cond (.t 13) (.reg [(oQ 14 (.mv (.t 5))),
 (oQ 15 (.bin .sub (.t 14) (iQ 1))),
 (oQ 5 (.mv (.t 15)))]) .skip))
 (.seq (.reg [(oQ 16 (.mv (.t 5))),
 (oQ 4 (.mv (.t 16)))])
 .ret))))⟩
def A_gravity_floor : Nat → Ty := tyAt []
abbrev P_gravity_floor : List PSh := [.one tQ, .one tQ]
abbrev R_gravity_floor : List PSh := [.one tQ]
theorem e_gravity_floor : cFn Tryd.prog 117 = some F_gravity_floor.erase := by kernel_rfl
theorem k_gravity_floor : callable Tryd.prog 117 = true := by kernel_rfl
def F_gravity_ceil : TFn := ⟨10, 1, [.tmp 4],
 (.seq (.reg [(oQ 4 (.mv (iQ 0)))])
 (.seq (.reg [(oQ 5 (.mv (.t 0))),
 (oQ 6 (.uneg (.t 5))),
 (oQ 7 (.mv (.t 1))),
 (kQ 8 0 117 [(.t 6), (.t 7)]),
 (oQ 9 (.uneg (.t 8))),
 (oQ 4 (.mv (.t 9)))])
 .ret))⟩
def A_gravity_ceil : Nat → Ty := tyAt [.un]
abbrev P_gravity_ceil : List PSh := [.one tQ, .one tQ]
abbrev R_gravity_ceil : List PSh := [.one tQ]
theorem e_gravity_ceil : cFn Tryd.prog 118 = some F_gravity_ceil.erase := by kernel_rfl
theorem k_gravity_ceil : callable Tryd.prog 118 = true := by kernel_rfl
def F_slices_ContainsFuncint_int__gravity_CheckFilter_1 : TFn := ⟨9, 1, [.tmp 4],
 (.seq (.reg [(oQ 4 (.mv (.c (.p (.bool false)))))])
 (.seq (.reg [(oQ 5 (.mv (.t 0))),
 (oQ 6 (.mv (.t 1))),
 (kQ 7 0 107 [(.t 5), (.t 6)]),
 (oQ 8 (.bin .geq (.t 7) (iQ 0))),
 (oQ 4 (.mv (.t 8)))])
 .ret))⟩
def A_slices_ContainsFuncint_int__gravity_CheckFilter_1 : Nat → Ty := tyAt [.un]
abbrev P_slices_ContainsFuncint_int__gravity_CheckFilter_1 : List PSh := [.one (.sl tQ), .fn 121 []]
abbrev R_slices_ContainsFuncint_int__gravity_CheckFilter_1 : List PSh := [.one .bool]
theorem e_slices_ContainsFuncint_int__gravity_CheckFilter_1 : cFn Tryd.prog 91 = some F_slices_ContainsFuncint_int__gravity_CheckFilter_1.erase := by kernel_rfl
theorem k_slices_ContainsFuncint_int__gravity_CheckFilter_1 : callable Tryd.prog 91 = true := by kernel_rfl
def F_slices_Cloneint_int : TFn := ⟨8, 2, [.tmp 2],
 (.seq (.reg [(oQ 2 (.mv (.c (.p (.sl 0 [] true)))))])
 (.seq (.seq (.reg [(oQ 3 (.mv (.t 0))),
 (oQ 4 (.isn (.t 3)))])
 (.cond (.t 4) (.seq (.reg [(oQ 2 (.mv (.c (.p (.sl 0 [] true)))))])
 .ret) .skip))
 (.seq (.reg [(oQ 5 (.bsl true 0 1 0 [] [])),
 (oQ 6 (.mv (.t 0))),
 (oQ 7 (.app 1 1 8 (.t 5) (.t 6))),
 (oQ 2 (.mv (.t 7)))])
 .ret)))⟩
def A_slices_Cloneint_int : Nat → Ty := tyAt [tQ, tQ]
abbrev P_slices_Cloneint_int : List PSh := [.one (.sl tQ)]
abbrev R_slices_Cloneint_int : List PSh := [.one (.sl tQ)]
abbrev E_slices_Cloneint_int : Ty := tQ
theorem e_slices_Cloneint_int : cFn Tryd.prog 125 = some F_slices_Cloneint_int.erase := by kernel_rfl
theorem k_slices_Cloneint_int : callable Tryd.prog 125 = true := by kernel_rfl
def F_slices_Reverseint_int : TFn := ⟨28, 0, [],
 (.seq (.reg [(oQ 4 (.mv (.t 0))),
 (oQ 5 (.len false (.t 4))),
 (oQ 6 (.bin .sub (.t 5) (iQ 1))),
 (oQ 2 (.mv (iQ 0))),
 (oQ 3 (.mv (.t 6)))])
 (.block 0 (.loop [.v 3 tQ, .v 2 tQ, .d 0 tQ] [0] [] (.seq (.seq (.reg [(oQ 7 (.mv (.t 2))),
 (oQ 8 (.mv (.t 3))),
 (oQ 9 (.bin .lss (.t 7) (.t 8)))])
 (.cond (.t 9) .skip (.exit 0)))
 (.seq (.block 1 (.regd [(oQ 14 (.mv (.t 0))),
 (oQ 15 (.mv (.t 2))),
 (oQ 16 (.mv (.t 0))),
 (oQ 17 (.mv (.t 3))),
 (oQ 18 (.mv (.t 0))),
 (oQ 19 (.mv (.t 3))),
 (oQ 20 (.ia 1 (.t 18) (.t 19))),
 (oQ 21 (.ld1 (.t 20))),
 (oQ 22 (.mv (.t 0))),
 (oQ 23 (.mv (.t 2))),
 (oQ 24 (.ia 1 (.t 22) (.t 23))),
 (oQ 25 (.ld1 (.t 24))),
 (oQ 26 (.ia 1 (.t 14) (.t 15))),
 (uQ (.st 1 (.t 26) (.t 21))),
 (oQ 27 (.ia 1 (.t 16) (.t 17))),
 (uQ (.st 1 (.t 27) (.t 25)))] [(7, 11)] []))
 (.reg [(oQ 10 (.mv (.t 2))),
 (oQ 11 (.bin .add (.t 10) (iQ 1))),
 (oQ 12 (.mv (.t 3))),
 (oQ 13 (.bin .sub (.t 12) (iQ 1))),
 (oQ 2 (.mv (.t 11))),
 (oQ 3 (.mv (.t 13)))]))))))⟩
def A_slices_Reverseint_int : Nat → Ty := tyAt [.un]
abbrev P_slices_Reverseint_int : List PSh := [.one (.sl tQ)]
abbrev R_slices_Reverseint_int : List PSh := [.one (.sl tQ)]
theorem e_slices_Reverseint_int : cFnN Tryd.prog 1 129 = some F_slices_Reverseint_int.erase := by kernel_rfl
theorem k_slices_Reverseint_int : callable Tryd.prog 129 = true := by kernel_rfl
def F_slices_IndexFuncint_int__gravity_Composed_1 : TFn := ⟨19, 1, [.tmp 4],
 (.seq (.reg [(oQ 4 (.mv (iQ 0)))])
 (.seq (.seq (.reg [(oQ 6 (.mv (.t 0))),
 (oQ 7 (.len false (.t 6))),
 (oQ 8 (.mv (iQ 0)))])
 (.block 0 (.loop [.v 8 tQ] [] [] (.seq (.reg [(oQ 9 (.bin .lss (.t 8) (.t 7)))])
 (.seq (.cond (.t 9) .skip (.exit 0))
 (.seq (.block 1 (.seq (.reg [(oQ 10 (.mv (.t 8))),
 (oQ 5 (.mv (.t 10)))])
 (.seq (.reg [(oQ 11 (.mv (.t 1))),
 (oQ 12 (.mv (.t 0))),
 (oQ 13 (.mv (.t 5))),
 (oQ 14 (.ia 1 (.t 12) (.t 13))),
 (oQ 15 (.ld1 (.t 14))),
 ⟨some 16, none, (.callv 0 (.t 11) [(.t 15)])⟩])
 (.cond (.t 16) (.seq (.reg [(oQ 17 (.mv (.t 5))),
 (oQ 4 (.mv (.t 17)))])
 .ret) .skip))))
 (.reg [(oQ 18 (.bin .add (.t 8) (iQ 1))),
 (oQ 8 (.mv (.t 18)))])))))))
 (.seq (.reg [(oQ 4 (.mv (iQ (-1))))])
 .ret)))⟩
def A_slices_IndexFuncint_int__gravity_Composed_1 : Nat → Ty := tyAt [.un]
abbrev P_slices_IndexFuncint_int__gravity_Composed_1 : List PSh := [.one (.sl tQ), .fn 92 []]
abbrev R_slices_IndexFuncint_int__gravity_Composed_1 : List PSh := [.one tQ]
theorem e_slices_IndexFuncint_int__gravity_Composed_1 : cFn Tryd.prog 107 = some F_slices_IndexFuncint_int__gravity_Composed_1.erase := by kernel_rfl
theorem k_slices_IndexFuncint_int__gravity_Composed_1 : callable Tryd.prog 107 = true := by kernel_rfl
def F_slices_ContainsFuncint_int__gravity_readingsErr_1 : TFn := ⟨9, 1, [.tmp 4],
 (.seq (.reg [(oQ 4 (.mv (.c (.p (.bool false)))))])
 (.seq (.reg [(oQ 5 (.mv (.t 0))),
 (oQ 6 (.mv (.t 1))),
 (kQ 7 0 107 [(.t 5), (.t 6)]),
 (oQ 8 (.bin .geq (.t 7) (iQ 0))),
 (oQ 4 (.mv (.t 8)))])
 .ret))⟩
def A_slices_ContainsFuncint_int__gravity_readingsErr_1 : Nat → Ty := tyAt [.un]
abbrev P_slices_ContainsFuncint_int__gravity_readingsErr_1 : List PSh := [.one (.sl tQ), .fn 131 []]
abbrev R_slices_ContainsFuncint_int__gravity_readingsErr_1 : List PSh := [.one .bool]
theorem e_slices_ContainsFuncint_int__gravity_readingsErr_1 : cFn Tryd.prog 91 = some F_slices_ContainsFuncint_int__gravity_readingsErr_1.erase := by kernel_rfl
theorem k_slices_ContainsFuncint_int__gravity_readingsErr_1 : callable Tryd.prog 91 = true := by kernel_rfl
def F_gravity_lowered : TFn := ⟨59, 5, [.tmp 6],
 (.seq (.reg [(oQ 4 (.box 2 (.t 1))),
 (oQ 5 (.box 3 (.t 2))),
 (oQ 6 (.mv (.c (.p (.bool false)))))])
 (.seq (.seq (.reg [(oQ 10 (.ld1 (.t 4))),
 (oQ 11 (.len false (.t 10))),
 (oQ 12 (.bin .add (.t 11) (iQ 1))),
 (oQ 13 (.mv (iQ 0)))])
 (.block 0 (.loop [.v 13 tQ, .d 0 tQ, .d 1 .bool] [0, 1, 4, 6] [4, 6] (.seq (.reg [(oQ 14 (.bin .lss (.t 13) (.t 12)))])
 (.seq (.cond (.t 14) .skip (.exit 0))
 (.seq (.block 1 (.seq (.reg [(oQ 7 (.newz 4 [(.p (.bool false))])),
 (uQ (.st 1 (.t 7) (.c (.p (.bool false)))))])
 (.seq (.seq (.reg [(oQ 15 (.mv (.t 0))),
 (kQ 16 5 139 [(.t 15)])])
 (.block 2 (.rng (.t 16) [17] [17, 8, 18, 19, 20, 21, 22, 23, 24, 25, 26, 27, 28, 29, 30, 31, 9, 32, 33, 34, 35, 36, 37, 38, 39, 40, 41, 42, 43, 44, 45, 46, 47, 48, 49, 50, 51, 52, 53, 54, 55] [.d 0 tQ, .d 1 .bool, .c 4 .bool] [0, 1, 4, 6] [6] (.reg [(oQ 8 (.newz 6 [zQ, zQ, zQ])),
 (uQ (.st 3 (.t 8) (.t 17)))])
 (.block 3 (.seq (.seq (.reg [(oQ 18 (.ld1 (.t 5))),
 (oQ 19 (.fa 1 (.t 8))),
 (oQ 20 (.ld1 (.t 19))),
 (oQ 21 (.ia 1 (.t 18) (.t 20))),
 (oQ 22 (.ld1 (.t 21))),
 (oQ 23 (.unot (.t 22)))])
 (.cond (.t 23) (.exit 3) .skip))
 (.seq (.regd [(oQ 24 (.ld1 (.t 4))),
 (oQ 25 (.fa 1 (.t 8))),
 (oQ 26 (.ld1 (.t 25))),
 (oQ 27 (.ia 1 (.t 24) (.t 26))),
 (oQ 28 (.ld1 (.t 27))),
 (oQ 29 (.fa 2 (.t 8))),
 (oQ 30 (.ld1 (.t 29))),
 (oQ 31 (.bin .add (.t 28) (.t 30))),
 (oQ 9 (.mv (.t 31)))] [(0, 2), (0, 6), (2, 6), (4, 6)] [])
 (.seq (.reg [(oQ 32 (.ld1 (.t 5))),
 (oQ 33 (.fa 0 (.t 8))),
 (oQ 34 (.ld1 (.t 33))),
 (oQ 35 (.ia 1 (.t 32) (.t 34))),
 (oQ 36 (.ld1 (.t 35))),
 (oQ 37 (.unot (.t 36))),
 (oQ 38 (.mv (.t 37))),
 (gQ 39 38 false (.mv (.t 9))),
 (gQ 40 38 false (.ld1 (.t 4))),
 (gQ 41 38 false (.fa 0 (.t 8))),
 (gQ 42 38 false (.ld1 (.t 41))),
 (gQ 43 38 false (.ia 1 (.t 40) (.t 42))),
 (gQ 44 38 false (.ld1 (.t 43))),
 (gQ 45 38 false (.bin .lss (.t 39) (.t 44))),
 (oQ 46 (.pick (.t 38) (.c (.p (.bool true))) (.t 45)))])
 (.cond (.t 46) (.regd [(oQ 47 (.ld1 (.t 4))),
 (oQ 48 (.fa 0 (.t 8))),
 (oQ 49 (.ld1 (.t 48))),
 (oQ 50 (.ld1 (.t 5))),
 (oQ 51 (.fa 0 (.t 8))),
 (oQ 52 (.ld1 (.t 51))),
 (oQ 53 (.mv (.t 9))),
 (oQ 54 (.ia 1 (.t 47) (.t 49))),
 (uQ (.st 1 (.t 54) (.t 53))),
 (oQ 55 (.ia 1 (.t 50) (.t 52))),
 (uQ (.st 1 (.t 55) (.c (.p (.bool true))))),
 (uQ (.st 1 (.t 7) (.c (.p (.bool true)))))] [(0, 2), (0, 3), (2, 3), (0, 5), (2, 5), (3, 5), (3, 8), (5, 8)] []) .skip))))))))
 (.seq (.reg [(oQ 56 (.ld1 (.t 7))),
 (oQ 57 (.unot (.t 56)))])
 (.cond (.t 57) (.seq (.reg [(oQ 6 (.mv (.c (.p (.bool true)))))])
 .ret) .skip)))))
 (.reg [(oQ 58 (.bin .add (.t 13) (iQ 1))),
 (oQ 13 (.mv (.t 58)))])))))))
 (.seq (.reg [(oQ 6 (.mv (.c (.p (.bool false)))))])
 .ret)))⟩
def A_gravity_lowered : Nat → Ty := tyAt [.un, .un, .un, .un, .un, .un, .un]
abbrev P_gravity_lowered : List PSh := [.one (.sl (.pr tQ (.pr tQ pQ))), .one (.sl tQ), .one (.sl .bool)]
abbrev R_gravity_lowered : List PSh := [.one .bool, .one (.sl tQ), .one (.sl .bool)]
theorem e_gravity_lowered : cFnN Tryd.prog 2 133 = some F_gravity_lowered.erase := by kernel_rfl
theorem k_gravity_lowered : callable Tryd.prog 133 = true := by kernel_rfl
def F_cmp_Compareint : TFn := ⟨20, 2, [.tmp 4],
 (.seq (.reg [(oQ 4 (.mv (iQ 0)))])
 (.seq (.reg [(oQ 7 (.mv (.t 0))),
 (kQ 8 0 140 [(.t 7)]),
 (oQ 5 (.mv (.t 8)))])
 (.seq (.reg [(oQ 9 (.mv (.t 1))),
 (kQ 10 1 140 [(.t 9)]),
 (oQ 6 (.mv (.t 10)))])
 (.seq (.seq (.reg [(oQ 11 (.mv (.t 5)))])
 (.cond (.t 11) (.seq (.seq (.reg [(oQ 12 (.mv (.t 6)))])
 (.cond (.t 12) (.seq (.reg [(oQ 4 (.mv (iQ 0)))])
 .ret) .skip))
 (.seq (.reg [(oQ 4 (.mv (iQ (-1))))])
 .ret)) .skip))
 (.seq (.seq (.reg [(oQ 13 (.mv (.t 6)))])
 (.cond (.t 13) (.seq (.reg [(oQ 4 (.mv (iQ 1)))])
 .ret) .skip))
 (.seq (.seq (.reg [(oQ 14 (.mv (.t 0))),
 (oQ 15 (.mv (.t 1))),
 (oQ 16 (.bin .lss (.t 14) (.t 15)))])
 (.cond (.t 16) (.seq (.reg [(oQ 4 (.mv (iQ (-1))))])
 .ret) .skip))
 (.seq (.seq (.reg [(oQ 17 (.mv (.t 0))),
 (oQ 18 (.mv (.t 1))),
 (oQ 19 (.bin .gtr (.t 17) (.t 18)))])
 (.cond (.t 19) (.seq (.reg [(oQ 4 (.mv (iQ 1)))])
 .ret) .skip))
 (.seq (.reg [(oQ 4 (.mv (iQ 0)))])
 .ret))))))))⟩
def A_cmp_Compareint : Nat → Ty := tyAt [.un, .un]
abbrev P_cmp_Compareint : List PSh := [.one tQ, .one tQ]
abbrev R_cmp_Compareint : List PSh := [.one tQ]
theorem e_cmp_Compareint : cFn Tryd.prog 135 = some F_cmp_Compareint.erase := by kernel_rfl
theorem k_cmp_Compareint : callable Tryd.prog 135 = true := by kernel_rfl
def F_slices_IndexFuncint_int__gravity_CheckFilter_1 : TFn := ⟨19, 1, [.tmp 4],
 (.seq (.reg [(oQ 4 (.mv (iQ 0)))])
 (.seq (.seq (.reg [(oQ 6 (.mv (.t 0))),
 (oQ 7 (.len false (.t 6))),
 (oQ 8 (.mv (iQ 0)))])
 (.block 0 (.loop [.v 8 tQ] [] [] (.seq (.reg [(oQ 9 (.bin .lss (.t 8) (.t 7)))])
 (.seq (.cond (.t 9) .skip (.exit 0))
 (.seq (.block 1 (.seq (.reg [(oQ 10 (.mv (.t 8))),
 (oQ 5 (.mv (.t 10)))])
 (.seq (.reg [(oQ 11 (.mv (.t 1))),
 (oQ 12 (.mv (.t 0))),
 (oQ 13 (.mv (.t 5))),
 (oQ 14 (.ia 1 (.t 12) (.t 13))),
 (oQ 15 (.ld1 (.t 14))),
 ⟨some 16, none, (.callv 0 (.t 11) [(.t 15)])⟩])
 (.cond (.t 16) (.seq (.reg [(oQ 17 (.mv (.t 5))),
 (oQ 4 (.mv (.t 17)))])
 .ret) .skip))))
 (.reg [(oQ 18 (.bin .add (.t 8) (iQ 1))),
 (oQ 8 (.mv (.t 18)))])))))))
 (.seq (.reg [(oQ 4 (.mv (iQ (-1))))])
 .ret)))⟩
def A_slices_IndexFuncint_int__gravity_CheckFilter_1 : Nat → Ty := tyAt [.un]
abbrev P_slices_IndexFuncint_int__gravity_CheckFilter_1 : List PSh := [.one (.sl tQ), .fn 121 []]
abbrev R_slices_IndexFuncint_int__gravity_CheckFilter_1 : List PSh := [.one tQ]
theorem e_slices_IndexFuncint_int__gravity_CheckFilter_1 : cFn Tryd.prog 107 = some F_slices_IndexFuncint_int__gravity_CheckFilter_1.erase := by kernel_rfl
theorem k_slices_IndexFuncint_int__gravity_CheckFilter_1 : callable Tryd.prog 107 = true := by kernel_rfl
def F_gravity_Composed_1 : TFn := ⟨6, 1, [.tmp 2],
 (.seq (.reg [(oQ 2 (.mv (.c (.p (.bool false)))))])
 (.seq (.reg [(oQ 3 (.mv (.t 0))),
 (kQ 4 0 93 [(.t 3), (iQ 100000)]),
 (oQ 5 (.unot (.t 4))),
 (oQ 2 (.mv (.t 5)))])
 .ret))⟩
def A_gravity_Composed_1 : Nat → Ty := tyAt [.un]
abbrev P_gravity_Composed_1 : List PSh := [.one tQ]
abbrev R_gravity_Composed_1 : List PSh := [.one .bool]
theorem e_gravity_Composed_1 : cFn Tryd.prog 92 = some F_gravity_Composed_1.erase := by kernel_rfl
theorem k_gravity_Composed_1 : callable Tryd.prog 92 = true := by kernel_rfl
def F_slices_IndexFuncint_int__gravity_readingsErr_1 : TFn := ⟨19, 1, [.tmp 4],
 (.seq (.reg [(oQ 4 (.mv (iQ 0)))])
 (.seq (.seq (.reg [(oQ 6 (.mv (.t 0))),
 (oQ 7 (.len false (.t 6))),
 (oQ 8 (.mv (iQ 0)))])
 (.block 0 (.loop [.v 8 tQ] [] [] (.seq (.reg [(oQ 9 (.bin .lss (.t 8) (.t 7)))])
 (.seq (.cond (.t 9) .skip (.exit 0))
 (.seq (.block 1 (.seq (.reg [(oQ 10 (.mv (.t 8))),
 (oQ 5 (.mv (.t 10)))])
 (.seq (.reg [(oQ 11 (.mv (.t 1))),
 (oQ 12 (.mv (.t 0))),
 (oQ 13 (.mv (.t 5))),
 (oQ 14 (.ia 1 (.t 12) (.t 13))),
 (oQ 15 (.ld1 (.t 14))),
 ⟨some 16, none, (.callv 0 (.t 11) [(.t 15)])⟩])
 (.cond (.t 16) (.seq (.reg [(oQ 17 (.mv (.t 5))),
 (oQ 4 (.mv (.t 17)))])
 .ret) .skip))))
 (.reg [(oQ 18 (.bin .add (.t 8) (iQ 1))),
 (oQ 8 (.mv (.t 18)))])))))))
 (.seq (.reg [(oQ 4 (.mv (iQ (-1))))])
 .ret)))⟩
def A_slices_IndexFuncint_int__gravity_readingsErr_1 : Nat → Ty := tyAt [.un]
abbrev P_slices_IndexFuncint_int__gravity_readingsErr_1 : List PSh := [.one (.sl tQ), .fn 131 []]
abbrev R_slices_IndexFuncint_int__gravity_readingsErr_1 : List PSh := [.one tQ]
theorem e_slices_IndexFuncint_int__gravity_readingsErr_1 : cFn Tryd.prog 107 = some F_slices_IndexFuncint_int__gravity_readingsErr_1.erase := by kernel_rfl
theorem k_slices_IndexFuncint_int__gravity_readingsErr_1 : callable Tryd.prog 107 = true := by kernel_rfl
def F_gravity_bounds : TFn := ⟨4, 1, [.tmp 2],
 (.seq (.reg [(oQ 1 (.box 0 (.t 0))),
 (oQ 2 (.mv (.c .und)))])
 (.seq (.reg [(oQ 3 (.clo 141 [(.t 1)])),
 (oQ 2 (.mv (.t 3)))])
 .ret))⟩
def A_gravity_bounds : Nat → Ty := tyAt [.un]
abbrev P_gravity_bounds : List PSh := [.one (.sl (.pr tQ (.pr tQ pQ)))]
abbrev R_gravity_bounds : List PSh := [.fn 141 [(.sl (.pr tQ (.pr tQ pQ)))]]
theorem e_gravity_bounds : cFn Tryd.prog 139 = some F_gravity_bounds.erase := by kernel_rfl
theorem k_gravity_bounds : callable Tryd.prog 139 = true := by kernel_rfl
def F_gravity_bounds_1 : TFn := ⟨37, 3, [],
 (.seq (.reg [(oQ 5 (.ld1 (.t 1))),
 (oQ 6 (.len false (.t 5))),
 (oQ 7 (.mv (iQ 0)))])
 (.block 0 (.loop [] [] [] (.seq (.reg [(oQ 8 (.bin .lss (.t 7) (.t 6)))])
 (.seq (.cond (.t 8) .skip (.exit 0))
 (.seq (.block 1 (.seq (.reg [(oQ 9 (.ia 4 (.t 5) (.t 7))),
 (oQ 10 (.ldn 4 (.t 9))),
 (oQ 4 (.newz 0 [zQ, zQ, zQ, zQ])),
 (uQ (.st 4 (.t 4) (.t 10)))])
 (.seq (.reg [(oQ 11 (.mv (.t 0))),
 (oQ 12 (.fa 1 (.t 4))),
 (oQ 13 (.ld1 (.t 12))),
 (oQ 14 (.fa 0 (.t 4))),
 (oQ 15 (.ld1 (.t 14))),
 (oQ 16 (.fa 2 (.t 4))),
 (oQ 17 (.fa 1 (.t 16))),
 (oQ 18 (.ld1 (.t 17))),
 (oQ 19 (.build [zQ, zQ, zQ] [(0, 1, (.t 13)), (1, 1, (.t 15)), (2, 1, (.t 18))])),
 ⟨some 20, none, (.callv 1 (.t 11) [(.t 19)])⟩,
 (oQ 21 (.unot (.t 20))),
 (oQ 22 (.mv (.t 21))),
 (gQ 23 22 false (.mv (.t 0))),
 (gQ 24 22 false (.fa 0 (.t 4))),
 (gQ 25 22 false (.ld1 (.t 24))),
 (gQ 26 22 false (.fa 1 (.t 4))),
 (gQ 27 22 false (.ld1 (.t 26))),
 (gQ 28 22 false (.fa 2 (.t 4))),
 (gQ 29 22 false (.fa 0 (.t 28))),
 (gQ 30 22 false (.ld1 (.t 29))),
 (gQ 31 22 false (.uneg (.t 30))),
 (gQ 32 22 false (.build [zQ, zQ, zQ] [(0, 1, (.t 25)), (1, 1, (.t 27)), (2, 1, (.t 31))])),
 ⟨some 33, some (some 22, false), (.callv 2 (.t 23) [(.t 32)])⟩,
 (gQ 34 22 false (.unot (.t 33))),
 (oQ 35 (.pick (.t 22) (.c (.p (.bool true))) (.t 34)))])
 (.cond (.t 35) .ret .skip))))
 (.reg [(oQ 36 (.bin .add (.t 7) (iQ 1))),
 (oQ 7 (.mv (.t 36)))])))))))⟩
def A_gravity_bounds_1 : Nat → Ty := tyAt []
abbrev P_gravity_bounds_1 : List PSh := [.fn 141 [(.sl (.pr tQ (.pr tQ pQ)))], .agg (.pr tQ pQ)]
abbrev R_gravity_bounds_1 : List PSh := []
theorem e_gravity_bounds_1 : cFn Tryd.prog 141 = some F_gravity_bounds_1.erase := by kernel_rfl
theorem k_gravity_bounds_1 : callable Tryd.prog 141 = true := by kernel_rfl
def F_cmp_isNaNint : TFn := ⟨6, 0, [.tmp 2],
 (.seq (.reg [(oQ 2 (.mv (.c (.p (.bool false)))))])
 (.seq (.reg [(oQ 3 (.mv (.t 0))),
 (oQ 4 (.mv (.t 0))),
 (oQ 5 (.bin .neq (.t 3) (.t 4))),
 (oQ 2 (.mv (.t 5)))])
 .ret))⟩
def A_cmp_isNaNint : Nat → Ty := tyAt []
abbrev P_cmp_isNaNint : List PSh := [.one tQ]
abbrev R_cmp_isNaNint : List PSh := [.one .bool]
theorem e_cmp_isNaNint : cFn Tryd.prog 140 = some F_cmp_isNaNint.erase := by kernel_rfl
theorem k_cmp_isNaNint : callable Tryd.prog 140 = true := by kernel_rfl
def F_gravity_CheckFilter_1 : TFn := ⟨6, 1, [.tmp 2],
 (.seq (.reg [(oQ 2 (.mv (.c (.p (.bool false)))))])
 (.seq (.reg [(oQ 3 (.mv (.t 0))),
 (kQ 4 0 93 [(.t 3), (iQ 100000)]),
 (oQ 5 (.unot (.t 4))),
 (oQ 2 (.mv (.t 5)))])
 .ret))⟩
def A_gravity_CheckFilter_1 : Nat → Ty := tyAt [.un]
abbrev P_gravity_CheckFilter_1 : List PSh := [.one tQ]
abbrev R_gravity_CheckFilter_1 : List PSh := [.one .bool]
theorem e_gravity_CheckFilter_1 : cFn Tryd.prog 121 = some F_gravity_CheckFilter_1.erase := by kernel_rfl
theorem k_gravity_CheckFilter_1 : callable Tryd.prog 121 = true := by kernel_rfl
def F_gravity_readingsErr_1 : TFn := ⟨6, 1, [.tmp 2],
 (.seq (.reg [(oQ 2 (.mv (.c (.p (.bool false)))))])
 (.seq (.reg [(oQ 3 (.mv (.t 0))),
 (kQ 4 0 93 [(.t 3), (iQ 1000000)]),
 (oQ 5 (.unot (.t 4))),
 (oQ 2 (.mv (.t 5)))])
 .ret))⟩
def A_gravity_readingsErr_1 : Nat → Ty := tyAt [.un]
abbrev P_gravity_readingsErr_1 : List PSh := [.one tQ]
abbrev R_gravity_readingsErr_1 : List PSh := [.one .bool]
theorem e_gravity_readingsErr_1 : cFn Tryd.prog 131 = some F_gravity_readingsErr_1.erase := by kernel_rfl
theorem k_gravity_readingsErr_1 : callable Tryd.prog 131 = true := by kernel_rfl
end Go.Proofs.YtcecdmdnfmgnfaaDoor
