/- The code of the functions that GroundContained reaches, as it is walked: each equals what the given program's text gives. -/
import Derived.Test.YtehblgccaiiikaaGg1GroundContained
import Derived.Test.YtehblgccaiiikaaProg
import Derived.KernelRfl
namespace Go.Proofs.Ytehblgccaiiikaa
open Go Go.Mx
set_option maxRecDepth 100000
abbrev oQ (d:Nat) (o:AOp):AIns := ⟨some d,none,.op o⟩
abbrev uQ (o:AOp):AIns := ⟨none,none,.op o⟩
abbrev gQ (d g:Nat) (b:Bool) (o:AOp):AIns := ⟨some d,some (some g,b),.op o⟩
abbrev kQ (d s f:Nat) (a:List Opd):AIns := ⟨some d,none,.call s f a⟩
abbrev iQ (n:Int):Opd := .c (.p (.int .i64 n))
abbrev zQ:V := .p (.int .i64 0)
abbrev tQ:Ty := .int .i64
abbrev pQ:Ty := .pr tQ tQ
def F_law04_GroundContained:TFn := ⟨365,37,[.tmp 6],
 (.seq (.reg [(oQ 3 (.box 0 (.t 0))),
 (oQ 6 (.mv (.c (.p (.bool false)))))])
 (.seq (.seq (.reg [(kQ 31 1 12 []),
 (oQ 32 (.unot (.t 31)))])
 (.cond (.t 32) (.seq (.reg [(oQ 6 (.mv (.c (.p (.bool false)))))])
 .ret) .skip))
 (.seq (.seq (.reg [(oQ 33 (.ldn 1 (.t 3))),
 (kQ 34 2 27 [(.t 33)]),
 (oQ 35 (.unot (.t 34))),
 (oQ 36 (.mv (.t 35))),
 (gQ 37 36 false (.ldn 1 (.t 3))),
 ⟨some 38,some (some 36,false),(.call 3 45 [(.t 37)])⟩,
 (gQ 39 36 false (.unot (.t 38))),
 (oQ 40 (.pick (.t 36) (.c (.p (.bool true))) (.t 39))),
 (oQ 41 (.mv (.t 40))),
 (gQ 42 41 false (.ldn 1 (.t 3))),
 ⟨some 43,some (some 41,false),(.call 4 46 [(.t 42)])⟩,
 (gQ 44 41 false (.bin .neq (.t 43) (iQ 0))),
 (oQ 45 (.pick (.t 41) (.c (.p (.bool true))) (.t 44))),
 (oQ 46 (.mv (.t 45))),
 (gQ 47 46 false (.mv (.t 1))),
 ⟨some 48,some (some 46,false),(.call 5 47 [(.t 47)])⟩,
 (gQ 49 46 false (.unot (.t 48))),
 (oQ 50 (.pick (.t 46) (.c (.p (.bool true))) (.t 49))),
 (oQ 51 (.mv (.t 50))),
 (gQ 52 51 false (.mv (.t 1))),
 ⟨some 53,some (some 51,false),(.call 6 42 [(.t 52)])⟩,
 (gQ 54 51 false (.bin .neq (.t 53) (iQ 0))),
 (oQ 55 (.pick (.t 51) (.c (.p (.bool true))) (.t 54)))])
 (.cond (.t 55) (.seq (.reg [(oQ 6 (.mv (.c (.p (.bool true)))))])
 .ret) .skip))
 (.seq (.reg [(oQ 57 (.ldn 1 (.t 3))),
 (kQ 58 7 29 [(.t 57)]),
 (oQ 59 (.mv (.t 1))),
 (kQ 60 8 49 [(.t 59)]),
 (kQ 61 9 48 [(.t 58),(.t 60)]),
 (oQ 56 (.mv (.t 61))),
 (oQ 62 (.ext 0 (.t 56))),
 (oQ 63 (.ext 1 (.t 56))),
 (oQ 7 (.mv (.t 62))),
 (oQ 8 (.mv (.t 63)))])
 (.seq (.reg [(oQ 65 (.ldn 1 (.t 3))),
 (kQ 66 10 29 [(.t 65)]),
 (oQ 67 (.mv (.t 1))),
 (kQ 68 11 49 [(.t 67)]),
 (kQ 69 12 50 [(.t 66),(.t 68)]),
 (oQ 64 (.mv (.t 69))),
 (oQ 70 (.ext 0 (.t 64))),
 (oQ 71 (.ext 1 (.t 64))),
 (oQ 9 (.mv (.t 70))),
 (oQ 10 (.mv (.t 71)))])
 (.seq (.reg [(oQ 73 (.ldn 1 (.t 3))),
 (kQ 74 13 29 [(.t 73)]),
 (kQ 75 14 30 [(.t 74)]),
 (oQ 72 (.mv (.t 75))),
 (oQ 76 (.ext 0 (.t 72))),
 (oQ 77 (.ext 1 (.t 72))),
 (oQ 11 (.mv (.t 76))),
 (oQ 12 (.mv (.t 77)))])
 (.seq (.seq (.reg [(oQ 78 (.mv (.t 8))),
 (oQ 79 (.bin .neq (.t 78) (iQ 0))),
 (oQ 80 (.mv (.t 79))),
 (gQ 81 80 false (.mv (.t 12))),
 (gQ 82 80 false (.bin .neq (.t 81) (iQ 0))),
 (oQ 83 (.pick (.t 80) (.c (.p (.bool true))) (.t 82))),
 (oQ 84 (.mv (.t 83))),
 (gQ 85 84 false (.mv (.t 11))),
 (gQ 86 84 false (.bin .gtr (.t 85) (iQ 60))),
 (oQ 87 (.pick (.t 84) (.c (.p (.bool true))) (.t 86))),
 (oQ 88 (.mv (.t 87))),
 (gQ 89 88 false (.mv (.t 7))),
 (gQ 90 88 false (.len false (.t 89))),
 (gQ 91 88 false (.bin .eql (.t 90) (iQ 0))),
 (gQ 92 88 false (.mv (.t 10))),
 (gQ 93 88 false (.bin .eql (.t 92) (iQ 12))),
 (gQ 94 88 false (.eqb true (.t 91) (.t 93))),
 (oQ 95 (.pick (.t 88) (.c (.p (.bool true))) (.t 94))),
 (oQ 96 (.mv (.t 95))),
 (gQ 97 96 false (.mv (.t 7))),
 (gQ 98 96 false (.len false (.t 97))),
 (gQ 99 96 false (.bin .gtr (.t 98) (iQ 0))),
 (gQ 100 96 false (.mv (.t 99))),
 (gQ 101 100 true (.mv (.t 10))),
 (gQ 102 100 true (.bin .neq (.t 101) (iQ 0))),
 (gQ 103 100 true (.mv (.t 102))),
 (gQ 104 103 false (.mv (.t 9))),
 (gQ 105 103 false (.len false (.t 104))),
 (gQ 106 103 false (.fa 0 (.t 3))),
 (gQ 107 103 false (.ld1 (.t 106))),
 (gQ 108 103 false (.len false (.t 107))),
 (gQ 109 103 false (.bin .neq (.t 105) (.t 108))),
 (gQ 110 100 true (.pick (.t 103) (.c (.p (.bool true))) (.t 109))),
 (gQ 111 96 false (.pick (.t 100) (.t 110) (.c (.p (.bool false))))),
 (oQ 112 (.pick (.t 96) (.c (.p (.bool true))) (.t 111)))])
 (.cond (.t 112) (.seq (.reg [(oQ 6 (.mv (.c (.p (.bool false)))))])
 .ret) .skip))
 (.seq (.reg [(oQ 113 (.fa 0 (.t 3))),
 (oQ 114 (.ld1 (.t 113))),
 (oQ 115 (.len false (.t 114))),
 (oQ 116 (.mk 15 4 4 [(.p (.bool false)),(.p (.bool false)),(.p (.bool false)),(.p (.bool false))] (.t 115))),
 (oQ 13 (.mv (.t 116)))])
 (.seq (.seq (.reg [(oQ 14 (.mv (iQ 0)))])
 (.block 0 (.loop [.v 14 tQ,.d 15 (.pr .bool (.pr .bool (.pr .bool .bool)))] [15,18,19,20,23,24] [18,19,20,23,24] (.seq (.seq (.reg [(oQ 117 (.mv (.t 14))),
 (oQ 118 (.mv (.t 11))),
 (oQ 119 (.bin .lss (.t 117) (.t 118)))])
 (.cond (.t 119) .skip (.exit 0)))
 (.seq (.block 1 (.seq (.reg [(oQ 123 (.ldn 1 (.t 3))),
 (kQ 124 16 29 [(.t 123)]),
 (oQ 125 (.mv (.t 14))),
 (kQ 126 17 31 [(.t 124),(.t 125)]),
 (oQ 122 (.mv (.t 126))),
 (oQ 127 (.ext 0 (.t 122))),
 (oQ 128 (.ext 1 (.t 122))),
 (oQ 15 (.newz 18 [(.p (.sl 0 [] true))])),
 (uQ (.st 1 (.t 15) (.t 127))),
 (oQ 16 (.mv (.t 128)))])
 (.seq (.reg [(oQ 130 (.ldn 1 (.t 15))),
 (kQ 131 19 15 [(.t 130)]),
 (oQ 132 (.mv (.t 1))),
 (kQ 133 20 49 [(.t 132)]),
 (kQ 134 21 44 [(.t 131),(.t 133)]),
 (oQ 129 (.mv (.t 134))),
 (oQ 135 (.ext 0 (.t 129))),
 (oQ 136 (.ext 1 (.t 129))),
 (oQ 17 (.mv (.t 135))),
 (oQ 18 (.mv (.t 136)))])
 (.seq (.seq (.reg [(oQ 137 (.mv (.t 16))),
 (oQ 138 (.bin .neq (.t 137) (iQ 0))),
 (oQ 139 (.mv (.t 138))),
 (gQ 140 139 false (.mv (.t 18))),
 (gQ 141 139 false (.bin .neq (.t 140) (iQ 0))),
 (oQ 142 (.pick (.t 139) (.c (.p (.bool true))) (.t 141))),
 (oQ 143 (.mv (.t 142))),
 (gQ 144 143 false (.mv (.t 17))),
 (gQ 145 143 false (.mv (.t 7))),
 (gQ 146 143 false (.mv (.t 14))),
 ⟨some 147,some (some 143,false),(.call 22 51 [(.t 145),(.t 146)])⟩,
 (gQ 148 143 false (.eqb true (.t 144) (.t 147))),
 (oQ 149 (.pick (.t 143) (.c (.p (.bool true))) (.t 148))),
 (oQ 150 (.mv (.t 149))),
 (gQ 151 150 false (.fa 0 (.t 15))),
 (gQ 152 150 false (.ld1 (.t 151))),
 (gQ 153 150 false (.len false (.t 152))),
 (gQ 154 150 false (.fa 0 (.t 3))),
 (gQ 155 150 false (.ld1 (.t 154))),
 (gQ 156 150 false (.len false (.t 155))),
 (gQ 157 150 false (.bin .neq (.t 153) (.t 156))),
 (oQ 158 (.pick (.t 150) (.c (.p (.bool true))) (.t 157)))])
 (.cond (.t 158) (.seq (.reg [(oQ 6 (.mv (.c (.p (.bool false)))))])
 .ret) .skip))
 (.seq (.reg [(oQ 19 (.mv (iQ 0)))])
 (.block 2 (.loop [.v 19 tQ,.d 15 (.pr .bool (.pr .bool (.pr .bool .bool)))] [15,23,24] [23,24] (.seq (.seq (.reg [(oQ 159 (.mv (.t 19))),
 (oQ 160 (.fa 0 (.t 15))),
 (oQ 161 (.ld1 (.t 160))),
 (oQ 162 (.len false (.t 161))),
 (oQ 163 (.bin .lss (.t 159) (.t 162))),
 (oQ 164 (.mv (.t 163))),
 (gQ 165 164 true (.mv (.t 17))),
 (oQ 166 (.pick (.t 164) (.t 165) (.c (.p (.bool false)))))])
 (.cond (.t 166) .skip (.exit 2)))
 (.seq (.block 3 (.seq (.regd [(oQ 169 (.fa 0 (.t 15))),
 (oQ 170 (.ld1 (.t 169))),
 (oQ 171 (.mv (.t 19))),
 (oQ 172 (.ia 2 (.t 170) (.t 171))),
 (oQ 173 (.ldn 2 (.t 172))),
 (oQ 174 (.mv (.t 9))),
 (oQ 175 (.mv (.t 19))),
 (oQ 176 (.ia 4 (.t 174) (.t 175))),
 (oQ 177 (.ldn 4 (.t 176))),
 (oQ 20 (.newz 23 [zQ,zQ])),
 (oQ 21 (.newz 24 [zQ,zQ,zQ,zQ])),
 (uQ (.st 2 (.t 20) (.t 173))),
 (uQ (.st 4 (.t 21) (.t 177)))] [(1,8),(4,8),(1,9),(4,9),(8,9),(1,10),(4,10),(8,10),(9,10),(8,11)] [])
 (.seq (.seq (.reg [(oQ 178 (.fa 0 (.t 20))),
 (oQ 179 (.ld1 (.t 178))),
 (oQ 180 (.fa 0 (.t 21))),
 (oQ 181 (.fa 0 (.t 180))),
 (oQ 182 (.ld1 (.t 181))),
 (oQ 183 (.fa 0 (.t 21))),
 (oQ 184 (.fa 1 (.t 183))),
 (oQ 185 (.ld1 (.t 184))),
 (kQ 186 25 35 [(.t 179),(.t 182),(.t 185)]),
 (oQ 187 (.unot (.t 186))),
 (oQ 188 (.mv (.t 187))),
 (gQ 189 188 false (.fa 1 (.t 20))),
 (gQ 190 188 false (.ld1 (.t 189))),
 (gQ 191 188 false (.fa 2 (.t 21))),
 (gQ 192 188 false (.fa 0 (.t 191))),
 (gQ 193 188 false (.ld1 (.t 192))),
 (gQ 194 188 false (.fa 2 (.t 21))),
 (gQ 195 188 false (.fa 1 (.t 194))),
 (gQ 196 188 false (.ld1 (.t 195))),
 ⟨some 197,some (some 188,false),(.call 26 35 [(.t 190),(.t 193),(.t 196)])⟩,
 (gQ 198 188 false (.unot (.t 197))),
 (oQ 199 (.pick (.t 188) (.c (.p (.bool true))) (.t 198)))])
 (.cond (.t 199) (.seq (.reg [(oQ 6 (.mv (.c (.p (.bool false)))))])
 .ret) .skip))
 (.seq (.regd [(oQ 200 (.mv (.t 13))),
 (oQ 201 (.mv (.t 19))),
 (oQ 202 (.mv (.t 13))),
 (oQ 203 (.mv (.t 19))),
 (oQ 204 (.ia 4 (.t 202) (.t 203))),
 (oQ 205 (.iaa 1 4 (.t 204) (iQ 0))),
 (oQ 206 (.ld1 (.t 205))),
 (oQ 207 (.mv (.t 206))),
 (gQ 208 207 false (.fa 0 (.t 20))),
 (gQ 209 207 false (.ld1 (.t 208))),
 (gQ 210 207 false (.fa 0 (.t 21))),
 (gQ 211 207 false (.fa 0 (.t 210))),
 (gQ 212 207 false (.ld1 (.t 211))),
 (gQ 213 207 false (.bin .eql (.t 209) (.t 212))),
 (oQ 214 (.pick (.t 207) (.c (.p (.bool true))) (.t 213))),
 (oQ 215 (.ia 4 (.t 200) (.t 201))),
 (oQ 216 (.iaa 1 4 (.t 215) (iQ 0))),
 (uQ (.st 1 (.t 216) (.t 214)))] [(9,12)] [])
 (.seq (.regd [(oQ 217 (.mv (.t 13))),
 (oQ 218 (.mv (.t 19))),
 (oQ 219 (.mv (.t 13))),
 (oQ 220 (.mv (.t 19))),
 (oQ 221 (.ia 4 (.t 219) (.t 220))),
 (oQ 222 (.iaa 1 4 (.t 221) (iQ 1))),
 (oQ 223 (.ld1 (.t 222))),
 (oQ 224 (.mv (.t 223))),
 (gQ 225 224 false (.fa 0 (.t 20))),
 (gQ 226 224 false (.ld1 (.t 225))),
 (gQ 227 224 false (.fa 0 (.t 21))),
 (gQ 228 224 false (.fa 1 (.t 227))),
 (gQ 229 224 false (.ld1 (.t 228))),
 (gQ 230 224 false (.bin .eql (.t 226) (.t 229))),
 (oQ 231 (.pick (.t 224) (.c (.p (.bool true))) (.t 230))),
 (oQ 232 (.ia 4 (.t 217) (.t 218))),
 (oQ 233 (.iaa 1 4 (.t 232) (iQ 1))),
 (uQ (.st 1 (.t 233) (.t 231)))] [(9,12)] [])
 (.seq (.regd [(oQ 234 (.mv (.t 13))),
 (oQ 235 (.mv (.t 19))),
 (oQ 236 (.mv (.t 13))),
 (oQ 237 (.mv (.t 19))),
 (oQ 238 (.ia 4 (.t 236) (.t 237))),
 (oQ 239 (.iaa 1 4 (.t 238) (iQ 2))),
 (oQ 240 (.ld1 (.t 239))),
 (oQ 241 (.mv (.t 240))),
 (gQ 242 241 false (.fa 1 (.t 20))),
 (gQ 243 241 false (.ld1 (.t 242))),
 (gQ 244 241 false (.fa 2 (.t 21))),
 (gQ 245 241 false (.fa 0 (.t 244))),
 (gQ 246 241 false (.ld1 (.t 245))),
 (gQ 247 241 false (.bin .eql (.t 243) (.t 246))),
 (oQ 248 (.pick (.t 241) (.c (.p (.bool true))) (.t 247))),
 (oQ 249 (.ia 4 (.t 234) (.t 235))),
 (oQ 250 (.iaa 1 4 (.t 249) (iQ 2))),
 (uQ (.st 1 (.t 250) (.t 248)))] [(9,12)] [])
 (.regd [(oQ 251 (.mv (.t 13))),
 (oQ 252 (.mv (.t 19))),
 (oQ 253 (.mv (.t 13))),
 (oQ 254 (.mv (.t 19))),
 (oQ 255 (.ia 4 (.t 253) (.t 254))),
 (oQ 256 (.iaa 1 4 (.t 255) (iQ 3))),
 (oQ 257 (.ld1 (.t 256))),
 (oQ 258 (.mv (.t 257))),
 (gQ 259 258 false (.fa 1 (.t 20))),
 (gQ 260 258 false (.ld1 (.t 259))),
 (gQ 261 258 false (.fa 2 (.t 21))),
 (gQ 262 258 false (.fa 1 (.t 261))),
 (gQ 263 258 false (.ld1 (.t 262))),
 (gQ 264 258 false (.bin .eql (.t 260) (.t 263))),
 (oQ 265 (.pick (.t 258) (.c (.p (.bool true))) (.t 264))),
 (oQ 266 (.ia 4 (.t 251) (.t 252))),
 (oQ 267 (.iaa 1 4 (.t 266) (iQ 3))),
 (uQ (.st 1 (.t 267) (.t 265)))] [(9,12)] [])))))))
 (.reg [(oQ 167 (.mv (.t 19))),
 (oQ 168 (.bin .add (.t 167) (iQ 1))),
 (oQ 19 (.mv (.t 168)))]))))))))))
 (.reg [(oQ 120 (.mv (.t 14))),
 (oQ 121 (.bin .add (.t 120) (iQ 1))),
 (oQ 14 (.mv (.t 121)))]))))))
 (.seq (.seq (.reg [(oQ 22 (.mv (iQ 0)))])
 (.block 4 (.loop [.v 22 tQ] [] [] (.seq (.seq (.reg [(oQ 268 (.mv (.t 22))),
 (oQ 269 (.mv (.t 13))),
 (oQ 270 (.len false (.t 269))),
 (oQ 271 (.bin .lss (.t 268) (.t 270))),
 (oQ 272 (.mv (.t 271))),
 (gQ 273 272 true (.mv (.t 7))),
 (gQ 274 272 true (.len false (.t 273))),
 (gQ 275 272 true (.bin .gtr (.t 274) (iQ 0))),
 (oQ 276 (.pick (.t 272) (.t 275) (.c (.p (.bool false)))))])
 (.cond (.t 276) .skip (.exit 4)))
 (.seq (.block 5 (.seq (.reg [(oQ 279 (.mv (.t 13))),
 (oQ 280 (.mv (.t 22))),
 (oQ 281 (.ia 4 (.t 279) (.t 280))),
 (oQ 282 (.ldn 4 (.t 281))),
 (oQ 283 (.build [(.p (.bool false)),(.p (.bool false)),(.p (.bool false)),(.p (.bool false))] [(0,1,(.c (.p (.bool true)))),(1,1,(.c (.p (.bool true)))),(2,1,(.c (.p (.bool true)))),(3,1,(.c (.p (.bool true))))])),
 (oQ 284 (.eqa true 4 [(false,0),(false,1),(false,2),(false,3)] (.t 282) (.t 283)))])
 (.cond (.t 284) (.seq (.reg [(oQ 6 (.mv (.c (.p (.bool false)))))])
 .ret) .skip)))
 (.reg [(oQ 277 (.mv (.t 22))),
 (oQ 278 (.bin .add (.t 277) (iQ 1))),
 (oQ 22 (.mv (.t 278)))]))))))
 (.seq (.reg [(oQ 285 (.mv (.t 1))),
 (kQ 286 27 49 [(.t 285)]),
 (oQ 23 (.mv (.t 286)))])
 (.seq (.seq (.reg [(oQ 24 (.mv (iQ 0)))])
 (.block 6 (.loop [.v 24 tQ,.d 27 (.pr tQ pQ)] [27] [] (.seq (.seq (.reg [(oQ 287 (.mv (.t 24))),
 (oQ 288 (.mv (.t 23))),
 (oQ 289 (.len false (.t 288))),
 (oQ 290 (.bin .lss (.t 287) (.t 289)))])
 (.cond (.t 290) .skip (.exit 6)))
 (.seq (.block 7 (.regd [(oQ 293 (.mv (.t 23))),
 (oQ 294 (.mv (.t 24))),
 (oQ 295 (.mv (.t 23))),
 (oQ 296 (.mv (.t 24))),
 (oQ 297 (.ia 3 (.t 295) (.t 296))),
 (oQ 298 (.fa 1 (.t 297))),
 (oQ 299 (.fa 0 (.t 298))),
 (oQ 300 (.ld1 (.t 299))),
 (oQ 301 (.mv (.t 2))),
 (kQ 302 28 25 [(.t 301),(iQ 500)]),
 (oQ 303 (.bin .sub (.t 300) (.t 302))),
 (oQ 304 (.mm true (iQ 0) (.t 303))),
 (oQ 305 (.mv (.t 23))),
 (oQ 306 (.mv (.t 24))),
 (oQ 307 (.ia 3 (.t 305) (.t 306))),
 (oQ 308 (.fa 1 (.t 307))),
 (oQ 309 (.fa 1 (.t 308))),
 (oQ 310 (.ld1 (.t 309))),
 (oQ 311 (.mv (.t 2))),
 (kQ 312 29 25 [(.t 311),(iQ 300)]),
 (oQ 313 (.bin .add (.t 310) (.t 312))),
 (oQ 314 (.mm false (iQ 100000) (.t 313))),
 (oQ 315 (.build [zQ,zQ] [(0,1,(.t 304)),(1,1,(.t 314))])),
 (oQ 316 (.ia 3 (.t 293) (.t 294))),
 (oQ 317 (.fa 1 (.t 316))),
 (uQ (.st 2 (.t 317) (.t 315)))] [(7,9),(7,17),(9,17),(7,19),(17,19)] []))
 (.reg [(oQ 291 (.mv (.t 24))),
 (oQ 292 (.bin .add (.t 291) (iQ 1))),
 (oQ 24 (.mv (.t 292)))]))))))
 (.seq (.reg [(oQ 319 (.ldn 1 (.t 3))),
 (kQ 320 30 29 [(.t 319)]),
 (oQ 321 (.mv (.t 23))),
 (kQ 322 31 48 [(.t 320),(.t 321)]),
 (oQ 318 (.mv (.t 322))),
 (oQ 323 (.ext 0 (.t 318))),
 (oQ 324 (.ext 1 (.t 318))),
 (oQ 25 (.mv (.t 323))),
 (oQ 26 (.mv (.t 324)))])
 (.seq (.reg [(oQ 325 (.mv (.t 25))),
 (oQ 27 (.mv (.t 325)))])
 (.seq (.seq (.reg [(oQ 326 (.mv (.t 1))),
 (oQ 327 (.len false (.t 326))),
 (oQ 328 (.bin .gtr (.t 327) (iQ 1)))])
 (.cond (.t 328) (.seq (.regd [(oQ 330 (.ldn 1 (.t 3))),
 (kQ 331 32 29 [(.t 330)]),
 (oQ 332 (.mv (.t 1))),
 (oQ 333 (.sl 3 (.t 332) (some (iQ 1)) none)),
 (kQ 334 33 49 [(.t 333)]),
 (kQ 335 34 48 [(.t 331),(.t 334)]),
 (oQ 329 (.mv (.t 335))),
 (oQ 336 (.ext 0 (.t 329))),
 (oQ 337 (.ext 1 (.t 329))),
 (oQ 28 (.mv (.t 336))),
 (oQ 29 (.mv (.t 337)))] [] [])
 (.seq (.seq (.reg [(oQ 338 (.mv (.t 29))),
 (oQ 339 (.bin .neq (.t 338) (iQ 0)))])
 (.cond (.t 339) (.seq (.reg [(oQ 6 (.mv (.c (.p (.bool false)))))])
 .ret) .skip))
 (.reg [(oQ 340 (.mv (.t 28))),
 (oQ 27 (.mv (.t 340)))]))) .skip))
 (.seq (.seq (.reg [(oQ 30 (.mv (iQ 0)))])
 (.block 8 (.loop [.v 30 tQ] [] [] (.seq (.seq (.reg [(oQ 341 (.mv (.t 30))),
 (oQ 342 (.mv (.t 7))),
 (oQ 343 (.len false (.t 342))),
 (oQ 344 (.bin .lss (.t 341) (.t 343)))])
 (.cond (.t 344) .skip (.exit 8)))
 (.seq (.block 9 (.seq (.reg [(oQ 347 (.mv (.t 25))),
 (oQ 348 (.mv (.t 7))),
 (oQ 349 (.mv (.t 30))),
 (oQ 350 (.ia 1 (.t 348) (.t 349))),
 (oQ 351 (.ld1 (.t 350))),
 (kQ 352 35 51 [(.t 347),(.t 351)]),
 (oQ 353 (.unot (.t 352))),
 (oQ 354 (.mv (.t 353))),
 (gQ 355 354 false (.mv (.t 27))),
 (gQ 356 354 false (.mv (.t 7))),
 (gQ 357 354 false (.mv (.t 30))),
 (gQ 358 354 false (.ia 1 (.t 356) (.t 357))),
 (gQ 359 354 false (.ld1 (.t 358))),
 ⟨some 360,some (some 354,false),(.call 36 51 [(.t 355),(.t 359)])⟩,
 (gQ 361 354 false (.unot (.t 360))),
 (oQ 362 (.pick (.t 354) (.c (.p (.bool true))) (.t 361)))])
 (.cond (.t 362) (.seq (.reg [(oQ 6 (.mv (.c (.p (.bool false)))))])
 .ret) .skip)))
 (.reg [(oQ 345 (.mv (.t 30))),
 (oQ 346 (.bin .add (.t 345) (iQ 1))),
 (oQ 30 (.mv (.t 346)))]))))))
 (.seq (.reg [(oQ 363 (.mv (.t 26))),
 (oQ 364 (.bin .eql (.t 363) (iQ 0))),
 (oQ 6 (.mv (.t 364)))])
 .ret)))))))))))))))))⟩
def A_law04_GroundContained:Nat→Ty := tyAt [.un,.un,.un,.un,.un,.un,.un,.un,.un,.un,.un,.un,.un,.un,.un,(.pr .bool (.pr .bool (.pr .bool .bool))),.un,.un,.un,.un,.un,.un,.un,.un,.un,.un,.un,.un,.un,.un,.un,.un,.un,.un,.un,.un,.un]
abbrev P_law04_GroundContained:List PSh := [.agg (.sl (.pr (.sl tQ) (.sl tQ))),.one (.sl (.pr tQ pQ)),.one tQ]
abbrev R_law04_GroundContained:List PSh := [.one .bool]
theorem e_law04_GroundContained:cFn Try.prog 8 = some F_law04_GroundContained.erase := by kernel_rfl
theorem k_law04_GroundContained:callable Try.prog 8 = true := by kernel_rfl
def F_law04_awake:TFn := ⟨65,15,[.tmp 0],
 (.seq (.reg [(oQ 0 (.mv (.c (.p (.bool false)))))])
 (.seq (.reg [(kQ 10 0 69 []),
 (kQ 11 1 16 [(.t 10),(iQ 2)]),
 (oQ 9 (.mv (.t 11))),
 (oQ 12 (.ext 0 (.t 9))),
 (oQ 13 (.ext 1 (.t 9))),
 (oQ 1 (.newz 2 [zQ,zQ])),
 (uQ (.st 2 (.t 1) (.t 12))),
 (oQ 2 (.mv (.t 13)))])
 (.seq (.reg [(kQ 15 3 70 []),
 (kQ 16 4 71 []),
 (kQ 17 5 48 [(.t 15),(.t 16)]),
 (oQ 14 (.mv (.t 17))),
 (oQ 18 (.ext 0 (.t 14))),
 (oQ 19 (.ext 1 (.t 14))),
 (oQ 3 (.mv (.t 18))),
 (oQ 4 (.mv (.t 19)))])
 (.seq (.reg [(kQ 21 6 70 []),
 (kQ 22 7 71 []),
 (kQ 23 8 72 [(.t 21),(.t 22),(iQ 2)]),
 (oQ 20 (.mv (.t 23))),
 (oQ 24 (.ext 0 (.t 20))),
 (oQ 25 (.ext 1 (.t 20))),
 (oQ 5 (.newz 9 [zQ,zQ])),
 (uQ (.st 2 (.t 5) (.t 24))),
 (oQ 6 (.mv (.t 25)))])
 (.seq (.reg [(kQ 27 10 70 []),
 (kQ 28 11 69 []),
 (kQ 29 12 32 [(.t 27),(.t 28)]),
 (oQ 26 (.mv (.t 29))),
 (oQ 30 (.ext 0 (.t 26))),
 (oQ 31 (.ext 1 (.t 26))),
 (oQ 7 (.mv (.t 30))),
 (oQ 8 (.mv (.t 31)))])
 (.seq (.reg [(oQ 32 (.mv (.t 2))),
 (oQ 33 (.bin .eql (.t 32) (iQ 0))),
 (oQ 34 (.mv (.t 33))),
 (gQ 35 34 true (.ldn 2 (.t 1))),
 (gQ 36 34 true (.build [zQ,zQ] [(0,1,(iQ 8)),(1,1,(iQ 3))])),
 (gQ 37 34 true (.eqa false 2 [(true,0),(true,1)] (.t 35) (.t 36))),
 (oQ 38 (.pick (.t 34) (.t 37) (.c (.p (.bool false))))),
 (oQ 39 (.mv (.t 38))),
 (gQ 40 39 true (.mv (.t 4))),
 (gQ 41 39 true (.bin .eql (.t 40) (iQ 0))),
 (oQ 42 (.pick (.t 39) (.t 41) (.c (.p (.bool false))))),
 (oQ 43 (.mv (.t 42))),
 (gQ 44 43 true (.mv (.t 3))),
 (gQ 45 43 true (.bsl false 13 1 3 [zQ,zQ,zQ] [(0,1,(iQ 1)),(1,1,(iQ 3)),(2,1,(iQ 4))])),
 ⟨some 46,some (some 43,true),(.call 14 58 [(.t 44),(.t 45)])⟩,
 (oQ 47 (.pick (.t 43) (.t 46) (.c (.p (.bool false))))),
 (oQ 48 (.mv (.t 47))),
 (gQ 49 48 true (.mv (.t 6))),
 (gQ 50 48 true (.bin .eql (.t 49) (iQ 0))),
 (oQ 51 (.pick (.t 48) (.t 50) (.c (.p (.bool false))))),
 (oQ 52 (.mv (.t 51))),
 (gQ 53 52 true (.ldn 2 (.t 5))),
 (gQ 54 52 true (.build [zQ,zQ] [(0,1,(iQ 1)),(1,1,(iQ 4))])),
 (gQ 55 52 true (.eqa false 2 [(true,0),(true,1)] (.t 53) (.t 54))),
 (oQ 56 (.pick (.t 52) (.t 55) (.c (.p (.bool false))))),
 (oQ 57 (.mv (.t 56))),
 (gQ 58 57 true (.mv (.t 8))),
 (gQ 59 57 true (.bin .eql (.t 58) (iQ 0))),
 (oQ 60 (.pick (.t 57) (.t 59) (.c (.p (.bool false))))),
 (oQ 61 (.mv (.t 60))),
 (gQ 62 61 true (.mv (.t 7))),
 (gQ 63 61 true (.bin .eql (.t 62) (iQ 4))),
 (oQ 64 (.pick (.t 61) (.t 63) (.c (.p (.bool false))))),
 (oQ 0 (.mv (.t 64)))])
 .ret))))))⟩
abbrev P_law04_awake:List PSh := []
abbrev R_law04_awake:List PSh := [.one .bool]
theorem e_law04_awake:cFn Try.prog 12 = some F_law04_awake.erase := by kernel_rfl
theorem k_law04_awake:callable Try.prog 12 = true := by kernel_rfl
def F_ref04_CopyModel:TFn := ⟨8,4,[.celln 2 1],
 (.seq (.reg [(oQ 1 (.box 0 (.t 0))),
 (oQ 2 (.newz 1 [(.p (.sl 0 [] true))]))])
 (.seq (.reg [(oQ 3 (.bsl true 2 2 0 [] [])),
 (oQ 4 (.fa 0 (.t 1))),
 (oQ 5 (.ld1 (.t 4))),
 (oQ 6 (.app 3 2 16 (.t 3) (.t 5))),
 (oQ 7 (.build [(.p (.sl 0 [] true))] [(0,1,(.t 6))])),
 (uQ (.st 1 (.t 2) (.t 7)))])
 .ret))⟩
def A_ref04_CopyModel:Nat→Ty := tyAt [.un,.un,pQ,pQ]
abbrev P_ref04_CopyModel:List PSh := [.agg (.sl pQ)]
abbrev E_ref04_CopyModel:Ty := pQ
theorem e_ref04_CopyModel:cFn Try.prog 15 = some F_ref04_CopyModel.erase := by kernel_rfl
theorem k_ref04_CopyModel:callable Try.prog 15 = true := by kernel_rfl
def F_ground_CheckModel:TFn := ⟨62,12,[.tmp 2,.tmp 3],
 (.seq (.reg [(oQ 1 (.box 0 (.t 0))),
 (oQ 2 (.mv (iQ 0))),
 (oQ 3 (.mv (iQ 0)))])
 (.seq (.seq (.regd [(oQ 9 (.fa 0 (.t 1))),
 (oQ 10 (.ld1 (.t 9))),
 (oQ 11 (.len false (.t 10))),
 (oQ 12 (.bin .gtr (.t 11) (iQ 0))),
 (kQ 13 1 74 [(.t 12),(iQ 10)]),
 (oQ 14 (.fa 0 (.t 1))),
 (oQ 15 (.ld1 (.t 14))),
 (oQ 16 (.len false (.t 15))),
 (oQ 17 (.bin .leq (.t 16) (iQ 4))),
 (kQ 18 2 74 [(.t 17),(iQ 8)]),
 (oQ 19 (.bsl false 3 1 2 [zQ,zQ] [(0,1,(.t 13)),(1,1,(.t 18))])),
 (kQ 20 4 73 [(.t 19)]),
 (oQ 4 (.mv (.t 20)))] [(1,6),(4,6)] [])
 (.seq (.reg [(oQ 21 (.mv (.t 4))),
 (oQ 22 (.bin .neq (.t 21) (iQ 0)))])
 (.cond (.t 22) (.seq (.reg [(oQ 23 (.mv (.t 4))),
 (oQ 2 (.mv (iQ 0))),
 (oQ 3 (.mv (.t 23)))])
 .ret) .skip)))
 (.seq (.seq (.reg [(oQ 24 (.fa 0 (.t 1))),
 (oQ 25 (.ld1 (.t 24))),
 (oQ 26 (.len false (.t 25))),
 (oQ 27 (.mv (iQ 0)))])
 (.block 0 (.loop [.v 27 tQ] [5] [5] (.seq (.reg [(oQ 28 (.bin .lss (.t 27) (.t 26)))])
 (.seq (.cond (.t 28) .skip (.exit 0))
 (.seq (.block 1 (.seq (.reg [(oQ 29 (.mv (.t 27))),
 (oQ 30 (.ia 2 (.t 25) (.t 27))),
 (oQ 31 (.ldn 2 (.t 30))),
 (oQ 6 (.newz 5 [zQ,zQ])),
 (oQ 5 (.mv (.t 29))),
 (uQ (.st 2 (.t 6) (.t 31)))])
 (.seq (.reg [(oQ 32 (.mv (.t 5))),
 (oQ 33 (.fa 0 (.t 1))),
 (oQ 34 (.ld1 (.t 33))),
 (oQ 35 (.len false (.t 34))),
 (oQ 36 (.bin .sub (.t 35) (iQ 1))),
 (oQ 37 (.bin .eql (.t 32) (.t 36))),
 (oQ 7 (.mv (.t 37)))])
 (.seq (.reg [(oQ 38 (.fa 0 (.t 6))),
 (oQ 39 (.ld1 (.t 38))),
 (kQ 40 6 75 [(.t 39)]),
 (oQ 41 (.mv (.t 40))),
 (gQ 42 41 true (.fa 1 (.t 6))),
 (gQ 43 41 true (.ld1 (.t 42))),
 ⟨some 44,some (some 41,true),(.call 7 76 [(.t 43)])⟩,
 (oQ 45 (.pick (.t 41) (.t 44) (.c (.p (.bool false))))),
 (kQ 46 8 74 [(.t 45),(iQ 2)]),
 (oQ 47 (.mv (.t 7))),
 (oQ 48 (.unot (.t 47))),
 (oQ 49 (.mv (.t 48))),
 (gQ 50 49 false (.fa 1 (.t 6))),
 (gQ 51 49 false (.ld1 (.t 50))),
 (gQ 52 49 false (.bin .eql (.t 51) (iQ 0))),
 (oQ 53 (.pick (.t 49) (.c (.p (.bool true))) (.t 52))),
 (kQ 54 9 74 [(.t 53),(iQ 3)]),
 (oQ 55 (.bsl false 10 1 2 [zQ,zQ] [(0,1,(.t 46)),(1,1,(.t 54))])),
 (kQ 56 11 73 [(.t 55)]),
 (oQ 8 (.mv (.t 56)))])
 (.seq (.reg [(oQ 57 (.mv (.t 8))),
 (oQ 58 (.bin .neq (.t 57) (iQ 0)))])
 (.cond (.t 58) (.seq (.reg [(oQ 59 (.mv (.t 5))),
 (oQ 60 (.mv (.t 8))),
 (oQ 2 (.mv (.t 59))),
 (oQ 3 (.mv (.t 60)))])
 .ret) .skip))))))
 (.reg [(oQ 61 (.bin .add (.t 27) (iQ 1))),
 (oQ 27 (.mv (.t 61)))])))))))
 (.seq (.reg [(oQ 2 (.mv (iQ 0))),
 (oQ 3 (.mv (iQ 0)))])
 .ret))))⟩
def A_ground_CheckModel:Nat→Ty := tyAt [.un,.un,.un,tQ,.un,.un,.un,.un,.un,.un,tQ,.un]
abbrev P_ground_CheckModel:List PSh := [.agg (.sl pQ)]
abbrev R_ground_CheckModel:List PSh := [.one tQ,.one tQ]
theorem e_ground_CheckModel:cFn Try.prog 14 = some F_ground_CheckModel.erase := by kernel_rfl
theorem k_ground_CheckModel:callable Try.prog 14 = true := by kernel_rfl
def F_ground_ResponseAt:TFn := ⟨24,8,[.celln 4 2,.tmp 5],
 (.seq (.reg [(oQ 2 (.box 0 (.t 0))),
 (oQ 4 (.newz 1 [zQ,zQ])),
 (oQ 5 (.mv (iQ 0)))])
 (.seq (.seq (.reg [(oQ 7 (.ldn 1 (.t 2))),
 (kQ 8 2 77 [(.t 7)]),
 (oQ 9 (.mv (.t 1))),
 (kQ 10 3 78 [(.t 9)]),
 (oQ 11 (.bsl false 4 1 2 [zQ,zQ] [(0,1,(.t 8)),(1,1,(.t 10))])),
 (kQ 12 5 73 [(.t 11)]),
 (oQ 6 (.mv (.t 12)))])
 (.seq (.reg [(oQ 13 (.mv (.t 6))),
 (oQ 14 (.bin .neq (.t 13) (iQ 0)))])
 (.cond (.t 14) (.seq (.reg [(oQ 15 (.build [zQ,zQ] [])),
 (oQ 16 (.mv (.t 6))),
 (uQ (.st 2 (.t 4) (.t 15))),
 (oQ 5 (.mv (.t 16)))])
 .ret) .skip)))
 (.seq (.reg [(oQ 17 (.fa 0 (.t 2))),
 (oQ 18 (.ld1 (.t 17))),
 (oQ 19 (.mv (.t 1))),
 (kQ 20 6 79 [(.t 18),(.t 19)]),
 (kQ 21 7 80 [(.t 20)]),
 (oQ 22 (.ext 0 (.t 21))),
 (oQ 23 (.ext 1 (.t 21))),
 (uQ (.st 2 (.t 4) (.t 22))),
 (oQ 5 (.mv (.t 23)))])
 .ret)))⟩
theorem e_ground_ResponseAt:cFn Try.prog 16 = some F_ground_ResponseAt.erase := by kernel_rfl
def F_ref04_ScaleErr:TFn := ⟨6,1,[.tmp 2],
 (.seq (.reg [(oQ 2 (.mv (iQ 0)))])
 (.seq (.seq (.reg [(oQ 3 (.mv (.t 0))),
 (kQ 4 0 35 [(.t 3),(iQ 1),(iQ 20)]),
 (oQ 5 (.unot (.t 4)))])
 (.cond (.t 5) (.seq (.reg [(oQ 2 (.mv (iQ 2)))])
 .ret) .skip))
 (.seq (.reg [(oQ 2 (.mv (iQ 0)))])
 .ret)))⟩
def A_ref04_ScaleErr:Nat→Ty := tyAt [.un]
abbrev P_ref04_ScaleErr:List PSh := [.one tQ]
abbrev R_ref04_ScaleErr:List PSh := [.one tQ]
theorem e_ref04_ScaleErr:cFn Try.prog 18 = some F_ref04_ScaleErr.erase := by kernel_rfl
theorem k_ref04_ScaleErr:callable Try.prog 18 = true := by kernel_rfl
def F_base_Mod:TFn := ⟨14,0,[.tmp 4],
 (.seq (.reg [(oQ 4 (.mv (iQ 0)))])
 (.seq (.reg [(oQ 5 (.mv (.t 0))),
 (oQ 6 (.mv (.t 1))),
 (oQ 7 (.bin .rem (.t 5) (.t 6))),
 (oQ 0 (.mv (.t 7)))])
 (.seq (.seq (.reg [(oQ 8 (.mv (.t 0))),
 (oQ 9 (.bin .lss (.t 8) (iQ 0)))])
 (.cond (.t 9) (.reg [(oQ 10 (.mv (.t 0))),
 (oQ 11 (.mv (.t 1))),
 (oQ 12 (.bin .add (.t 10) (.t 11))),
 (oQ 0 (.mv (.t 12)))]) .skip))
 (.seq (.reg [(oQ 13 (.mv (.t 0))),
 (oQ 4 (.mv (.t 13)))])
 .ret))))⟩
def A_base_Mod:Nat→Ty := tyAt []
abbrev P_base_Mod:List PSh := [.one tQ,.one tQ]
abbrev R_base_Mod:List PSh := [.one tQ]
theorem e_base_Mod:cFn Try.prog 25 = some F_base_Mod.erase := by kernel_rfl
theorem k_base_Mod:callable Try.prog 25 = true := by kernel_rfl
def F_law04_Few:TFn := ⟨33,1,[.tmp 2],
 (.seq (.reg [(oQ 1 (.box 0 (.t 0))),
 (oQ 2 (.mv (.c (.p (.bool false)))))])
 (.seq (.seq (.reg [(oQ 4 (.fa 0 (.t 1))),
 (oQ 5 (.ld1 (.t 4))),
 (oQ 6 (.len false (.t 5))),
 (oQ 7 (.bin .gtr (.t 6) (iQ 6)))])
 (.cond (.t 7) (.seq (.reg [(oQ 2 (.mv (.c (.p (.bool false)))))])
 .ret) .skip))
 (.seq (.seq (.reg [(oQ 3 (.mv (iQ 0)))])
 (.block 0 (.loop [.v 3 tQ] [] [] (.seq (.seq (.reg [(oQ 8 (.mv (.t 3))),
 (oQ 9 (.fa 0 (.t 1))),
 (oQ 10 (.ld1 (.t 9))),
 (oQ 11 (.len false (.t 10))),
 (oQ 12 (.bin .lss (.t 8) (.t 11)))])
 (.cond (.t 12) .skip (.exit 0)))
 (.seq (.block 1 (.seq (.reg [(oQ 15 (.fa 0 (.t 1))),
 (oQ 16 (.ld1 (.t 15))),
 (oQ 17 (.mv (.t 3))),
 (oQ 18 (.ia 2 (.t 16) (.t 17))),
 (oQ 19 (.fa 0 (.t 18))),
 (oQ 20 (.ld1 (.t 19))),
 (oQ 21 (.len false (.t 20))),
 (oQ 22 (.bin .gtr (.t 21) (iQ 22))),
 (oQ 23 (.mv (.t 22))),
 (gQ 24 23 false (.fa 0 (.t 1))),
 (gQ 25 23 false (.ld1 (.t 24))),
 (gQ 26 23 false (.mv (.t 3))),
 (gQ 27 23 false (.ia 2 (.t 25) (.t 26))),
 (gQ 28 23 false (.fa 1 (.t 27))),
 (gQ 29 23 false (.ld1 (.t 28))),
 (gQ 30 23 false (.len false (.t 29))),
 (gQ 31 23 false (.bin .gtr (.t 30) (iQ 22))),
 (oQ 32 (.pick (.t 23) (.c (.p (.bool true))) (.t 31)))])
 (.cond (.t 32) (.seq (.reg [(oQ 2 (.mv (.c (.p (.bool false)))))])
 .ret) .skip)))
 (.reg [(oQ 13 (.mv (.t 3))),
 (oQ 14 (.bin .add (.t 13) (iQ 1))),
 (oQ 3 (.mv (.t 14)))]))))))
 (.seq (.reg [(oQ 2 (.mv (.c (.p (.bool true)))))])
 .ret))))⟩
def A_law04_Few:Nat→Ty := tyAt [.un]
abbrev P_law04_Few:List PSh := [.agg (.sl (.pr (.sl tQ) (.sl tQ)))]
abbrev R_law04_Few:List PSh := [.one .bool]
theorem e_law04_Few:cFn Try.prog 27 = some F_law04_Few.erase := by kernel_rfl
theorem k_law04_Few:callable Try.prog 27 = true := by kernel_rfl
def F_ref04_CopyClass:TFn := ⟨31,8,[.celln 2 1],
 (.seq (.reg [(oQ 1 (.box 0 (.t 0))),
 (oQ 2 (.newz 1 [(.p (.sl 0 [] true))]))])
 (.seq (.reg [(oQ 3 (.newz 2 [(.p (.sl 0 [] true))]))])
 (.seq (.seq (.reg [(oQ 4 (.mv (iQ 0)))])
 (.block 0 (.loop [.v 4 tQ,.q 2 7 (.pr (.sl tQ) (.sl tQ))] [2,3,7] [3,7] (.seq (.seq (.reg [(oQ 6 (.mv (.t 4))),
 (oQ 7 (.fa 0 (.t 1))),
 (oQ 8 (.ld1 (.t 7))),
 (oQ 9 (.len false (.t 8))),
 (oQ 10 (.bin .lss (.t 6) (.t 9)))])
 (.cond (.t 10) .skip (.exit 0)))
 (.seq (.block 1 (.seq (.reg [(oQ 13 (.fa 0 (.t 1))),
 (oQ 14 (.ld1 (.t 13))),
 (oQ 15 (.mv (.t 4))),
 (oQ 16 (.ia 2 (.t 14) (.t 15))),
 (oQ 17 (.ldn 2 (.t 16))),
 (oQ 5 (.newz 3 [(.p (.sl 0 [] true)),(.p (.sl 0 [] true))])),
 (uQ (.st 2 (.t 5) (.t 17)))])
 (.regd [(oQ 18 (.fa 0 (.t 3))),
 (oQ 19 (.ld1 (.t 18))),
 (oQ 20 (.fa 0 (.t 5))),
 (oQ 21 (.ld1 (.t 20))),
 (kQ 22 4 66 [(.t 21)]),
 (oQ 23 (.fa 1 (.t 5))),
 (oQ 24 (.ld1 (.t 23))),
 (kQ 25 5 66 [(.t 24)]),
 (oQ 26 (.build [(.p (.sl 0 [] true)),(.p (.sl 0 [] true))] [(0,1,(.t 22)),(1,1,(.t 25))])),
 (oQ 27 (.bsl false 6 2 1 [(.p (.sl 0 [] true)),(.p (.sl 0 [] true))] [(0,2,(.t 26))])),
 (oQ 28 (.app 7 2 48 (.t 19) (.t 27))),
 (oQ 29 (.fa 0 (.t 3))),
 (uQ (.st 1 (.t 29) (.t 28)))] [(1,3),(1,4),(1,6),(3,6),(4,6),(1,7)] [])))
 (.reg [(oQ 11 (.mv (.t 4))),
 (oQ 12 (.bin .add (.t 11) (iQ 1))),
 (oQ 4 (.mv (.t 12)))]))))))
 (.seq (.reg [(oQ 30 (.ldn 1 (.t 3))),
 (uQ (.st 1 (.t 2) (.t 30)))])
 .ret))))⟩
def A_ref04_CopyClass:Nat→Ty := tyAt [.un,.un,.un,.un,.un,.un,(.pr (.sl tQ) (.sl tQ)),(.pr (.sl tQ) (.sl tQ))]
abbrev P_ref04_CopyClass:List PSh := [.agg (.sl (.pr (.sl tQ) (.sl tQ)))]
abbrev R_ref04_CopyClass:List PSh := [.agg (.sl (.pr (.sl tQ) (.sl tQ)))]
theorem e_ref04_CopyClass:cFn Try.prog 29 = some F_ref04_CopyClass.erase := by kernel_rfl
theorem k_ref04_CopyClass:callable Try.prog 29 = true := by kernel_rfl
def F_ground_CheckClass:TFn := ⟨84,15,[.tmp 2,.tmp 3],
 (.seq (.reg [(oQ 1 (.box 0 (.t 0))),
 (oQ 2 (.mv (iQ 0))),
 (oQ 3 (.mv (iQ 0)))])
 (.seq (.seq (.regd [(oQ 10 (.fa 0 (.t 1))),
 (oQ 11 (.ld1 (.t 10))),
 (oQ 12 (.len false (.t 11))),
 (oQ 13 (.bin .gtr (.t 12) (iQ 0))),
 (kQ 14 1 74 [(.t 13),(iQ 10)]),
 (oQ 15 (.fa 0 (.t 1))),
 (oQ 16 (.ld1 (.t 15))),
 (oQ 17 (.len false (.t 16))),
 (oQ 18 (.bin .leq (.t 17) (iQ 4))),
 (kQ 19 2 74 [(.t 18),(iQ 8)]),
 (oQ 20 (.bsl false 3 1 2 [zQ,zQ] [(0,1,(.t 14)),(1,1,(.t 19))])),
 (kQ 21 4 73 [(.t 20)]),
 (oQ 4 (.mv (.t 21)))] [(1,6),(4,6)] [])
 (.seq (.reg [(oQ 22 (.mv (.t 4))),
 (oQ 23 (.bin .neq (.t 22) (iQ 0)))])
 (.cond (.t 23) (.seq (.reg [(oQ 24 (.mv (.t 4))),
 (oQ 2 (.mv (iQ 0))),
 (oQ 3 (.mv (.t 24)))])
 .ret) .skip)))
 (.seq (.reg [(oQ 5 (.mv (iQ 1)))])
 (.seq (.seq (.reg [(oQ 25 (.fa 0 (.t 1))),
 (oQ 26 (.ld1 (.t 25))),
 (oQ 27 (.len false (.t 26))),
 (oQ 28 (.mv (iQ 0)))])
 (.block 0 (.loop [.v 28 tQ,.v 5 tQ] [5] [5] (.seq (.reg [(oQ 29 (.bin .lss (.t 28) (.t 27)))])
 (.seq (.cond (.t 29) .skip (.exit 0))
 (.seq (.block 1 (.seq (.reg [(oQ 30 (.mv (.t 28))),
 (oQ 31 (.ia 2 (.t 26) (.t 28))),
 (oQ 32 (.ldn 2 (.t 31))),
 (oQ 7 (.newz 5 [(.p (.sl 0 [] true)),(.p (.sl 0 [] true))])),
 (oQ 6 (.mv (.t 30))),
 (uQ (.st 2 (.t 7) (.t 32)))])
 (.seq (.reg [(oQ 33 (.mv (.t 6))),
 (oQ 34 (.fa 0 (.t 1))),
 (oQ 35 (.ld1 (.t 34))),
 (oQ 36 (.len false (.t 35))),
 (oQ 37 (.bin .sub (.t 36) (iQ 1))),
 (oQ 38 (.bin .eql (.t 33) (.t 37))),
 (oQ 8 (.mv (.t 38)))])
 (.seq (.regd [(oQ 39 (.fa 0 (.t 7))),
 (oQ 40 (.ld1 (.t 39))),
 (oQ 41 (.len false (.t 40))),
 (oQ 42 (.bin .gtr (.t 41) (iQ 0))),
 (oQ 43 (.mv (.t 42))),
 (gQ 44 43 true (.fa 1 (.t 7))),
 (gQ 45 43 true (.ld1 (.t 44))),
 (gQ 46 43 true (.len false (.t 45))),
 (gQ 47 43 true (.bin .gtr (.t 46) (iQ 0))),
 (oQ 48 (.pick (.t 43) (.t 47) (.c (.p (.bool false))))),
 (kQ 49 6 74 [(.t 48),(iQ 10)]),
 (oQ 50 (.fa 0 (.t 7))),
 (oQ 51 (.ld1 (.t 50))),
 (kQ 52 7 91 [(.t 51),(.c (.clo 75 []))]),
 (oQ 53 (.fa 1 (.t 7))),
 (oQ 54 (.ld1 (.t 53))),
 (kQ 55 8 91 [(.t 54),(.c (.clo 76 []))]),
 (oQ 56 (.mv (.t 8))),
 (oQ 57 (.unot (.t 56))),
 (oQ 58 (.mv (.t 57))),
 (gQ 59 58 false (.fa 1 (.t 7))),
 (gQ 60 58 false (.ld1 (.t 59))),
 (gQ 61 58 false (.bsl false 9 1 1 [zQ] [(0,1,(iQ 0))])),
 ⟨some 62,some (some 58,false),(.call 10 92 [(.t 60),(.t 61)])⟩,
 (oQ 63 (.pick (.t 58) (.c (.p (.bool true))) (.t 62))),
 (kQ 64 11 74 [(.t 63),(iQ 3)]),
 (oQ 65 (.bsl false 12 1 4 [zQ,zQ,zQ,zQ] [(0,1,(.t 49)),(1,1,(.t 52)),(2,1,(.t 55)),(3,1,(.t 64))])),
 (kQ 66 13 73 [(.t 65)]),
 (oQ 9 (.mv (.t 66)))] [(1,12),(6,12),(10,12),(1,15),(6,15),(10,15),(12,15),(13,15)] [])
 (.seq (.seq (.reg [(oQ 67 (.mv (.t 9))),
 (oQ 68 (.bin .neq (.t 67) (iQ 0)))])
 (.cond (.t 68) (.seq (.reg [(oQ 69 (.mv (.t 6))),
 (oQ 70 (.mv (.t 9))),
 (oQ 2 (.mv (.t 69))),
 (oQ 3 (.mv (.t 70)))])
 .ret) .skip))
 (.reg [(oQ 71 (.mv (.t 5))),
 (oQ 72 (.fa 0 (.t 7))),
 (oQ 73 (.ld1 (.t 72))),
 (oQ 74 (.len false (.t 73))),
 (oQ 75 (.fa 1 (.t 7))),
 (oQ 76 (.ld1 (.t 75))),
 (oQ 77 (.len false (.t 76))),
 (oQ 78 (.bin .mul (.t 74) (.t 77))),
 (oQ 79 (.bin .mul (.t 71) (.t 78))),
 (oQ 5 (.mv (.t 79)))]))))))
 (.reg [(oQ 80 (.bin .add (.t 28) (iQ 1))),
 (oQ 28 (.mv (.t 80)))])))))))
 (.seq (.reg [(oQ 81 (.mv (.t 5))),
 (oQ 82 (.bin .leq (.t 81) (iQ 300))),
 (kQ 83 14 74 [(.t 82),(iQ 16)]),
 (oQ 2 (.mv (iQ 0))),
 (oQ 3 (.mv (.t 83)))])
 .ret)))))⟩
def A_ground_CheckClass:Nat→Ty := tyAt [.un,.un,.un,tQ,.un,.un,.un,.un,.un,tQ,.un,.un,tQ,.un,.un]
abbrev P_ground_CheckClass:List PSh := [.agg (.sl (.pr (.sl tQ) (.sl tQ)))]
abbrev R_ground_CheckClass:List PSh := [.one tQ,.one tQ]
theorem e_ground_CheckClass:cFn Try.prog 28 = some F_ground_CheckClass.erase := by kernel_rfl
theorem k_ground_CheckClass:callable Try.prog 28 = true := by kernel_rfl
def F_ground_CountOf:TFn := ⟨16,4,[.tmp 2,.tmp 3],
 (.seq (.reg [(oQ 1 (.box 0 (.t 0))),
 (oQ 2 (.mv (iQ 0))),
 (oQ 3 (.mv (iQ 0)))])
 (.seq (.reg [(oQ 7 (.ldn 1 (.t 1))),
 (kQ 8 1 93 [(.t 7)]),
 (oQ 6 (.mv (.t 8))),
 (oQ 9 (.ext 0 (.t 6))),
 (oQ 10 (.ext 1 (.t 6))),
 (oQ 4 (.newz 2 [(.p (.sl 0 [] true))])),
 (uQ (.st 1 (.t 4) (.t 9))),
 (oQ 5 (.mv (.t 10)))])
 (.seq (.seq (.reg [(oQ 11 (.mv (.t 5))),
 (oQ 12 (.bin .neq (.t 11) (iQ 0)))])
 (.cond (.t 12) (.seq (.reg [(oQ 13 (.mv (.t 5))),
 (oQ 2 (.mv (iQ 0))),
 (oQ 3 (.mv (.t 13)))])
 .ret) .skip))
 (.seq (.reg [(oQ 14 (.ldn 1 (.t 4))),
 (kQ 15 3 94 [(.t 14)]),
 (oQ 2 (.mv (.t 15))),
 (oQ 3 (.mv (iQ 0)))])
 .ret))))⟩
def A_ground_CountOf:Nat→Ty := tyAt [.un,.un,.un,.un]
abbrev P_ground_CountOf:List PSh := [.agg (.sl (.pr (.sl tQ) (.sl tQ)))]
abbrev R_ground_CountOf:List PSh := [.one tQ,.one tQ]
theorem e_ground_CountOf:cFn Try.prog 30 = some F_ground_CountOf.erase := by kernel_rfl
theorem k_ground_CountOf:callable Try.prog 30 = true := by kernel_rfl
def F_ground_ModelOf:TFn := ⟨28,8,[.celln 4 1,.tmp 5],
 (.seq (.reg [(oQ 2 (.box 0 (.t 0))),
 (oQ 4 (.newz 1 [(.p (.sl 0 [] true))])),
 (oQ 5 (.mv (iQ 0)))])
 (.seq (.reg [(oQ 9 (.ldn 1 (.t 2))),
 (kQ 10 2 93 [(.t 9)]),
 (oQ 8 (.mv (.t 10))),
 (oQ 11 (.ext 0 (.t 8))),
 (oQ 12 (.ext 1 (.t 8))),
 (oQ 6 (.newz 3 [(.p (.sl 0 [] true))])),
 (uQ (.st 1 (.t 6) (.t 11))),
 (oQ 7 (.mv (.t 12)))])
 (.seq (.seq (.reg [(oQ 13 (.mv (.t 7))),
 (oQ 14 (.bin .eql (.t 13) (iQ 0)))])
 (.cond (.t 14) (.reg [(oQ 15 (.mv (.t 1))),
 (oQ 16 (.ldn 1 (.t 6))),
 (kQ 17 4 94 [(.t 16)]),
 (oQ 18 (.bin .sub (.t 17) (iQ 1))),
 (kQ 19 5 95 [(.t 15),(iQ 0),(.t 18)]),
 (kQ 20 6 74 [(.t 19),(iQ 6)]),
 (oQ 7 (.mv (.t 20)))]) .skip))
 (.seq (.seq (.reg [(oQ 21 (.mv (.t 7))),
 (oQ 22 (.bin .neq (.t 21) (iQ 0)))])
 (.cond (.t 22) (.seq (.reg [(oQ 23 (.build [(.p (.sl 0 [] true))] [])),
 (oQ 24 (.mv (.t 7))),
 (uQ (.st 1 (.t 4) (.t 23))),
 (oQ 5 (.mv (.t 24)))])
 .ret) .skip))
 (.seq (.reg [(oQ 25 (.ldn 1 (.t 6))),
 (oQ 26 (.mv (.t 1))),
 (kQ 27 7 96 [(.t 25),(.t 26)]),
 (uQ (.st 1 (.t 4) (.t 27))),
 (oQ 5 (.mv (iQ 0)))])
 .ret)))))⟩
def A_ground_ModelOf:Nat→Ty := tyAt [.un,.un,.un,.un,.un,.un,.un,.un]
abbrev P_ground_ModelOf:List PSh := [.agg (.sl (.pr (.sl tQ) (.sl tQ))),.one tQ]
abbrev R_ground_ModelOf:List PSh := [.agg (.sl pQ),.one tQ]
theorem e_ground_ModelOf:cFn Try.prog 31 = some F_ground_ModelOf.erase := by kernel_rfl
theorem k_ground_ModelOf:callable Try.prog 31 = true := by kernel_rfl
def F_ground_NumberOf:TFn := ⟨33,11,[.cell1 4,.cell1 5],
 (.seq (.reg [(oQ 2 (.box 0 (.t 0))),
 (oQ 3 (.box 1 (.t 1))),
 (oQ 4 (.newz 2 [zQ])),
 (oQ 5 (.newz 3 [zQ]))])
 (.seq (.reg [(oQ 11 (.ldn 1 (.t 2))),
 (kQ 12 4 93 [(.t 11)]),
 (oQ 10 (.mv (.t 12))),
 (oQ 13 (.ext 0 (.t 10))),
 (oQ 14 (.ext 1 (.t 10))),
 (oQ 6 (.newz 5 [(.p (.sl 0 [] true))])),
 (uQ (.st 1 (.t 6) (.t 13))),
 (oQ 7 (.mv (.t 14)))])
 (.seq (.seq (.reg [(oQ 15 (.mv (.t 7))),
 (oQ 16 (.ldn 1 (.t 3))),
 (kQ 17 6 77 [(.t 16)]),
 (oQ 18 (.bsl false 7 1 2 [zQ,zQ] [(0,1,(.t 15)),(1,1,(.t 17))])),
 (kQ 19 8 73 [(.t 18)]),
 (oQ 7 (.mv (.t 19)))])
 (.seq (.reg [(oQ 20 (.mv (.t 7))),
 (oQ 21 (.bin .neq (.t 20) (iQ 0)))])
 (.cond (.t 21) (.seq (.reg [(oQ 22 (.mv (.t 7))),
 (uQ (.st 1 (.t 4) (iQ 0))),
 (uQ (.st 1 (.t 5) (.t 22)))])
 .ret) .skip)))
 (.seq (.seq (.reg [(oQ 23 (.ldn 1 (.t 6))),
 (oQ 24 (.bnd 1000000097 (.t 23)))])
 (.block 0 (.rng (.t 24) [25,26] [25,26,8,9,27,28,29,30,31,32] [] [9] [9] (.seq (.reg [(oQ 8 (.mv (.t 25)))])
 (.reg [(oQ 9 (.newz 9 [(.p (.sl 0 [] true))])),
 (uQ (.st 1 (.t 9) (.t 26)))]))
 (.block 1 (.seq (.reg [(oQ 27 (.fa 0 (.t 9))),
 (oQ 28 (.ld1 (.t 27))),
 (oQ 29 (.fa 0 (.t 3))),
 (oQ 30 (.ld1 (.t 29))),
 (kQ 31 10 98 [(.t 28),(.t 30)])])
 (.cond (.t 31) (.seq (.reg [(oQ 32 (.mv (.t 8))),
 (uQ (.st 1 (.t 4) (.t 32))),
 (uQ (.st 1 (.t 5) (iQ 0)))])
 .ret) .skip))))))
 (.seq (.reg [(uQ (.st 1 (.t 4) (iQ 0))),
 (uQ (.st 1 (.t 5) (iQ 6)))])
 .ret)))))⟩
theorem e_ground_NumberOf:cFn Try.prog 32 = some F_ground_NumberOf.erase := by kernel_rfl
def F_ref04_CheckClass:TFn := ⟨79,6,[.tmp 2,.tmp 3],
 (.seq (.reg [(oQ 1 (.box 0 (.t 0))),
 (oQ 2 (.mv (iQ 0))),
 (oQ 3 (.mv (iQ 0)))])
 (.seq (.seq (.reg [(oQ 9 (.fa 0 (.t 1))),
 (oQ 10 (.ld1 (.t 9))),
 (oQ 11 (.len false (.t 10))),
 (oQ 12 (.bin .eql (.t 11) (iQ 0)))])
 (.cond (.t 12) (.seq (.reg [(oQ 2 (.mv (iQ 0))),
 (oQ 3 (.mv (iQ 10)))])
 .ret) .skip))
 (.seq (.seq (.reg [(oQ 13 (.fa 0 (.t 1))),
 (oQ 14 (.ld1 (.t 13))),
 (oQ 15 (.len false (.t 14))),
 (oQ 16 (.bin .gtr (.t 15) (iQ 4)))])
 (.cond (.t 16) (.seq (.reg [(oQ 2 (.mv (iQ 0))),
 (oQ 3 (.mv (iQ 8)))])
 .ret) .skip))
 (.seq (.reg [(oQ 4 (.mv (iQ 1)))])
 (.seq (.seq (.reg [(oQ 5 (.mv (iQ 0)))])
 (.block 0 (.loop [.v 5 tQ,.v 4 tQ] [1] [1] (.seq (.seq (.reg [(oQ 17 (.mv (.t 5))),
 (oQ 18 (.fa 0 (.t 1))),
 (oQ 19 (.ld1 (.t 18))),
 (oQ 20 (.len false (.t 19))),
 (oQ 21 (.bin .lss (.t 17) (.t 20)))])
 (.cond (.t 21) .skip (.exit 0)))
 (.seq (.block 1 (.seq (.reg [(oQ 24 (.fa 0 (.t 1))),
 (oQ 25 (.ld1 (.t 24))),
 (oQ 26 (.mv (.t 5))),
 (oQ 27 (.ia 2 (.t 25) (.t 26))),
 (oQ 28 (.ldn 2 (.t 27))),
 (oQ 6 (.newz 1 [(.p (.sl 0 [] true)),(.p (.sl 0 [] true))])),
 (uQ (.st 2 (.t 6) (.t 28)))])
 (.seq (.seq (.reg [(oQ 29 (.fa 0 (.t 6))),
 (oQ 30 (.ld1 (.t 29))),
 (oQ 31 (.len false (.t 30))),
 (oQ 32 (.bin .eql (.t 31) (iQ 0))),
 (oQ 33 (.mv (.t 32))),
 (gQ 34 33 false (.fa 1 (.t 6))),
 (gQ 35 33 false (.ld1 (.t 34))),
 (gQ 36 33 false (.len false (.t 35))),
 (gQ 37 33 false (.bin .eql (.t 36) (iQ 0))),
 (oQ 38 (.pick (.t 33) (.c (.p (.bool true))) (.t 37)))])
 (.cond (.t 38) (.seq (.reg [(oQ 39 (.mv (.t 5))),
 (oQ 2 (.mv (.t 39))),
 (oQ 3 (.mv (iQ 10)))])
 .ret) .skip))
 (.seq (.seq (.reg [(oQ 40 (.fa 0 (.t 6))),
 (oQ 41 (.ld1 (.t 40))),
 (kQ 42 2 99 [(.t 41),(.c (.p (.bool true)))]),
 (oQ 7 (.mv (.t 42)))])
 (.seq (.reg [(oQ 43 (.mv (.t 7))),
 (oQ 44 (.bin .neq (.t 43) (iQ 0)))])
 (.cond (.t 44) (.seq (.reg [(oQ 45 (.mv (.t 5))),
 (oQ 46 (.mv (.t 7))),
 (oQ 2 (.mv (.t 45))),
 (oQ 3 (.mv (.t 46)))])
 .ret) .skip)))
 (.seq (.seq (.reg [(oQ 47 (.fa 1 (.t 6))),
 (oQ 48 (.ld1 (.t 47))),
 (kQ 49 3 99 [(.t 48),(.c (.p (.bool false)))]),
 (oQ 8 (.mv (.t 49)))])
 (.seq (.reg [(oQ 50 (.mv (.t 8))),
 (oQ 51 (.bin .neq (.t 50) (iQ 0)))])
 (.cond (.t 51) (.seq (.reg [(oQ 52 (.mv (.t 5))),
 (oQ 53 (.mv (.t 8))),
 (oQ 2 (.mv (.t 52))),
 (oQ 3 (.mv (.t 53)))])
 .ret) .skip)))
 (.seq (.seq (.reg [(oQ 54 (.mv (.t 5))),
 (oQ 55 (.fa 0 (.t 1))),
 (oQ 56 (.ld1 (.t 55))),
 (oQ 57 (.len false (.t 56))),
 (oQ 58 (.bin .sub (.t 57) (iQ 1))),
 (oQ 59 (.bin .eql (.t 54) (.t 58))),
 (oQ 60 (.mv (.t 59))),
 (gQ 61 60 true (.fa 1 (.t 6))),
 (gQ 62 60 true (.ld1 (.t 61))),
 (gQ 63 60 true (.bsl false 4 1 1 [zQ] [(0,1,(iQ 0))])),
 ⟨some 64,some (some 60,true),(.call 5 58 [(.t 62),(.t 63)])⟩,
 (gQ 65 60 true (.unot (.t 64))),
 (oQ 66 (.pick (.t 60) (.t 65) (.c (.p (.bool false)))))])
 (.cond (.t 66) (.seq (.reg [(oQ 67 (.mv (.t 5))),
 (oQ 2 (.mv (.t 67))),
 (oQ 3 (.mv (iQ 3)))])
 .ret) .skip))
 (.reg [(oQ 68 (.mv (.t 4))),
 (oQ 69 (.fa 0 (.t 6))),
 (oQ 70 (.ld1 (.t 69))),
 (oQ 71 (.len false (.t 70))),
 (oQ 72 (.bin .mul (.t 68) (.t 71))),
 (oQ 73 (.fa 1 (.t 6))),
 (oQ 74 (.ld1 (.t 73))),
 (oQ 75 (.len false (.t 74))),
 (oQ 76 (.bin .mul (.t 72) (.t 75))),
 (oQ 4 (.mv (.t 76)))])))))))
 (.reg [(oQ 22 (.mv (.t 5))),
 (oQ 23 (.bin .add (.t 22) (iQ 1))),
 (oQ 5 (.mv (.t 23)))]))))))
 (.seq (.seq (.reg [(oQ 77 (.mv (.t 4))),
 (oQ 78 (.bin .gtr (.t 77) (iQ 300)))])
 (.cond (.t 78) (.seq (.reg [(oQ 2 (.mv (iQ 0))),
 (oQ 3 (.mv (iQ 16)))])
 .ret) .skip))
 (.seq (.reg [(oQ 2 (.mv (iQ 0))),
 (oQ 3 (.mv (iQ 0)))])
 .ret)))))))⟩
def A_ref04_CheckClass:Nat→Ty := tyAt [.un,.un,.un,.un,tQ,.un]
abbrev P_ref04_CheckClass:List PSh := [.agg (.sl (.pr (.sl tQ) (.sl tQ)))]
abbrev R_ref04_CheckClass:List PSh := [.one tQ,.one tQ]
theorem e_ref04_CheckClass:cFn Try.prog 33 = some F_ref04_CheckClass.erase := by kernel_rfl
theorem k_ref04_CheckClass:callable Try.prog 33 = true := by kernel_rfl
def F_ref04_Count:TFn := ⟨30,1,[.tmp 2],
 (.seq (.reg [(oQ 1 (.box 0 (.t 0))),
 (oQ 2 (.mv (iQ 0)))])
 (.seq (.reg [(oQ 3 (.mv (iQ 1)))])
 (.seq (.seq (.reg [(oQ 4 (.mv (iQ 0)))])
 (.block 0 (.loop [.v 4 tQ,.v 3 tQ] [] [] (.seq (.seq (.reg [(oQ 5 (.mv (.t 4))),
 (oQ 6 (.fa 0 (.t 1))),
 (oQ 7 (.ld1 (.t 6))),
 (oQ 8 (.len false (.t 7))),
 (oQ 9 (.bin .lss (.t 5) (.t 8)))])
 (.cond (.t 9) .skip (.exit 0)))
 (.seq (.block 1 (.regd [(oQ 12 (.mv (.t 3))),
 (oQ 13 (.fa 0 (.t 1))),
 (oQ 14 (.ld1 (.t 13))),
 (oQ 15 (.mv (.t 4))),
 (oQ 16 (.ia 2 (.t 14) (.t 15))),
 (oQ 17 (.fa 0 (.t 16))),
 (oQ 18 (.ld1 (.t 17))),
 (oQ 19 (.len false (.t 18))),
 (oQ 20 (.bin .mul (.t 12) (.t 19))),
 (oQ 21 (.fa 0 (.t 1))),
 (oQ 22 (.ld1 (.t 21))),
 (oQ 23 (.mv (.t 4))),
 (oQ 24 (.ia 2 (.t 22) (.t 23))),
 (oQ 25 (.fa 1 (.t 24))),
 (oQ 26 (.ld1 (.t 25))),
 (oQ 27 (.len false (.t 26))),
 (oQ 28 (.bin .mul (.t 20) (.t 27))),
 (oQ 3 (.mv (.t 28)))] [(2,10),(6,10),(2,14),(6,14)] []))
 (.reg [(oQ 10 (.mv (.t 4))),
 (oQ 11 (.bin .add (.t 10) (iQ 1))),
 (oQ 4 (.mv (.t 11)))]))))))
 (.seq (.reg [(oQ 29 (.mv (.t 3))),
 (oQ 2 (.mv (.t 29)))])
 .ret))))⟩
def A_ref04_Count:Nat→Ty := tyAt [.un]
abbrev P_ref04_Count:List PSh := [.agg (.sl (.pr (.sl tQ) (.sl tQ)))]
abbrev R_ref04_Count:List PSh := [.one tQ]
theorem e_ref04_Count:cFn Try.prog 34 = some F_ref04_Count.erase := by kernel_rfl
theorem k_ref04_Count:callable Try.prog 34 = true := by kernel_rfl
def F_base_Within:TFn := ⟨15,0,[.tmp 6],
 (.seq (.reg [(oQ 6 (.mv (.c (.p (.bool false)))))])
 (.seq (.reg [(oQ 7 (.mv (.t 1))),
 (oQ 8 (.mv (.t 0))),
 (oQ 9 (.bin .leq (.t 7) (.t 8))),
 (oQ 10 (.mv (.t 9))),
 (gQ 11 10 true (.mv (.t 0))),
 (gQ 12 10 true (.mv (.t 2))),
 (gQ 13 10 true (.bin .leq (.t 11) (.t 12))),
 (oQ 14 (.pick (.t 10) (.t 13) (.c (.p (.bool false))))),
 (oQ 6 (.mv (.t 14)))])
 .ret))⟩
def A_base_Within:Nat→Ty := tyAt []
abbrev P_base_Within:List PSh := [.one tQ,.one tQ,.one tQ]
abbrev R_base_Within:List PSh := [.one .bool]
theorem e_base_Within:cFn Try.prog 35 = some F_base_Within.erase := by kernel_rfl
theorem k_base_Within:callable Try.prog 35 = true := by kernel_rfl
def F_ref04_DataErr:TFn := ⟨11,1,[.tmp 2],
 (.seq (.reg [(oQ 2 (.mv (iQ 0)))])
 (.seq (.reg [(oQ 6 (.mv (.t 0))),
 (kQ 7 0 54 [(.t 6)]),
 (oQ 5 (.mv (.t 7))),
 (oQ 8 (.ext 0 (.t 5))),
 (oQ 9 (.ext 1 (.t 5))),
 (oQ 3 (.mv (.t 8))),
 (oQ 4 (.mv (.t 9)))])
 (.seq (.reg [(oQ 10 (.mv (.t 4))),
 (oQ 2 (.mv (.t 10)))])
 .ret)))⟩
def A_ref04_DataErr:Nat→Ty := tyAt [.un]
abbrev P_ref04_DataErr:List PSh := [.one (.sl (.pr tQ pQ))]
abbrev R_ref04_DataErr:List PSh := [.one tQ]
theorem e_ref04_DataErr:cFn Try.prog 42 = some F_ref04_DataErr.erase := by kernel_rfl
theorem k_ref04_DataErr:callable Try.prog 42 = true := by kernel_rfl
def F_ground_Explains:TFn := ⟨19,6,[.tmp 4,.tmp 5],
 (.seq (.reg [(oQ 2 (.box 0 (.t 0))),
 (oQ 4 (.mv (.c (.p (.bool false))))),
 (oQ 5 (.mv (iQ 0)))])
 (.seq (.seq (.reg [(oQ 7 (.ldn 1 (.t 2))),
 (kQ 8 1 77 [(.t 7)]),
 (oQ 9 (.mv (.t 1))),
 (kQ 10 2 101 [(.t 9)]),
 (oQ 11 (.bsl false 3 1 2 [zQ,zQ] [(0,1,(.t 8)),(1,1,(.t 10))])),
 (kQ 12 4 73 [(.t 11)]),
 (oQ 6 (.mv (.t 12)))])
 (.seq (.reg [(oQ 13 (.mv (.t 6))),
 (oQ 14 (.bin .neq (.t 13) (iQ 0)))])
 (.cond (.t 14) (.seq (.reg [(oQ 15 (.mv (.t 6))),
 (oQ 4 (.mv (.c (.p (.bool false))))),
 (oQ 5 (.mv (.t 15)))])
 .ret) .skip)))
 (.seq (.reg [(oQ 16 (.ldn 1 (.t 2))),
 (oQ 17 (.mv (.t 1))),
 (kQ 18 5 106 [(.t 16),(.t 17)]),
 (oQ 4 (.mv (.t 18))),
 (oQ 5 (.mv (iQ 0)))])
 .ret)))⟩
def A_ground_Explains:Nat→Ty := tyAt [.un,.un,.un,tQ,.un,.un]
abbrev P_ground_Explains:List PSh := [.agg (.sl pQ),.one (.sl (.pr tQ pQ))]
abbrev R_ground_Explains:List PSh := [.one .bool,.one tQ]
theorem e_ground_Explains:cFn Try.prog 44 = some F_ground_Explains.erase := by kernel_rfl
theorem k_ground_Explains:callable Try.prog 44 = true := by kernel_rfl
def F_law04_Light:TFn := ⟨11,3,[.tmp 2],
 (.seq (.reg [(oQ 1 (.box 0 (.t 0))),
 (oQ 2 (.mv (.c (.p (.bool false)))))])
 (.seq (.reg [(oQ 3 (.ldn 1 (.t 1))),
 (kQ 4 1 46 [(.t 3)]),
 (oQ 5 (.bin .neq (.t 4) (iQ 0))),
 (oQ 6 (.mv (.t 5))),
 (gQ 7 6 false (.ldn 1 (.t 1))),
 ⟨some 8,some (some 6,false),(.call 2 34 [(.t 7)])⟩,
 (gQ 9 6 false (.bin .leq (.t 8) (iQ 60))),
 (oQ 10 (.pick (.t 6) (.c (.p (.bool true))) (.t 9))),
 (oQ 2 (.mv (.t 10)))])
 .ret))⟩
def A_law04_Light:Nat→Ty := tyAt [.un,.un,.un]
abbrev P_law04_Light:List PSh := [.agg (.sl (.pr (.sl tQ) (.sl tQ)))]
abbrev R_law04_Light:List PSh := [.one .bool]
theorem e_law04_Light:cFn Try.prog 45 = some F_law04_Light.erase := by kernel_rfl
theorem k_law04_Light:callable Try.prog 45 = true := by kernel_rfl
def F_ref04_ClassErr:TFn := ⟨11,2,[.tmp 2],
 (.seq (.reg [(oQ 1 (.box 0 (.t 0))),
 (oQ 2 (.mv (iQ 0)))])
 (.seq (.reg [(oQ 6 (.ldn 1 (.t 1))),
 (kQ 7 1 33 [(.t 6)]),
 (oQ 5 (.mv (.t 7))),
 (oQ 8 (.ext 0 (.t 5))),
 (oQ 9 (.ext 1 (.t 5))),
 (oQ 3 (.mv (.t 8))),
 (oQ 4 (.mv (.t 9)))])
 (.seq (.reg [(oQ 10 (.mv (.t 4))),
 (oQ 2 (.mv (.t 10)))])
 .ret)))⟩
def A_ref04_ClassErr:Nat→Ty := tyAt [.un,.un]
abbrev P_ref04_ClassErr:List PSh := [.agg (.sl (.pr (.sl tQ) (.sl tQ)))]
abbrev R_ref04_ClassErr:List PSh := [.one tQ]
theorem e_ref04_ClassErr:cFn Try.prog 46 = some F_ref04_ClassErr.erase := by kernel_rfl
theorem k_ref04_ClassErr:callable Try.prog 46 = true := by kernel_rfl
def F_law04_fewData:TFn := ⟨6,0,[.tmp 2],
 (.seq (.reg [(oQ 2 (.mv (.c (.p (.bool false)))))])
 (.seq (.reg [(oQ 3 (.mv (.t 0))),
 (oQ 4 (.len false (.t 3))),
 (oQ 5 (.bin .leq (.t 4) (iQ 8))),
 (oQ 2 (.mv (.t 5)))])
 .ret))⟩
def A_law04_fewData:Nat→Ty := tyAt []
abbrev P_law04_fewData:List PSh := [.one (.sl (.pr tQ pQ))]
abbrev R_law04_fewData:List PSh := [.one .bool]
theorem e_law04_fewData:cFn Try.prog 47 = some F_law04_fewData.erase := by kernel_rfl
theorem k_law04_fewData:callable Try.prog 47 = true := by kernel_rfl
def F_ref04_CopyData:TFn := ⟨6,2,[.tmp 2],
 (.seq (.reg [(oQ 2 (.mv (.c (.p (.sl 0 [] true)))))])
 (.seq (.reg [(oQ 3 (.bsl true 0 3 0 [] [])),
 (oQ 4 (.mv (.t 0))),
 (oQ 5 (.app 1 3 24 (.t 3) (.t 4))),
 (oQ 2 (.mv (.t 5)))])
 .ret))⟩
def A_ref04_CopyData:Nat→Ty := tyAt [(.pr tQ pQ),(.pr tQ pQ)]
abbrev P_ref04_CopyData:List PSh := [.one (.sl (.pr tQ pQ))]
abbrev E_ref04_CopyData:Ty := (.pr tQ pQ)
theorem e_ref04_CopyData:cFn Try.prog 49 = some F_ref04_CopyData.erase := by kernel_rfl
theorem k_ref04_CopyData:callable Try.prog 49 = true := by kernel_rfl
def F_ground_ExplainedIn:TFn := ⟨20,4,[.tmp 4,.tmp 5],
 (.seq (.reg [(oQ 2 (.box 0 (.t 0))),
 (oQ 4 (.mv (.c (.p (.sl 0 [] true))))),
 (oQ 5 (.mv (iQ 0)))])
 (.seq (.reg [(oQ 9 (.ldn 1 (.t 2))),
 (oQ 10 (.mv (.t 1))),
 (kQ 11 1 107 [(.t 9),(.t 10)]),
 (oQ 8 (.mv (.t 11))),
 (oQ 12 (.ext 0 (.t 8))),
 (oQ 13 (.ext 1 (.t 8))),
 (oQ 6 (.newz 2 [(.p (.sl 0 [] true))])),
 (uQ (.st 1 (.t 6) (.t 12))),
 (oQ 7 (.mv (.t 13)))])
 (.seq (.seq (.reg [(oQ 14 (.mv (.t 7))),
 (oQ 15 (.bin .neq (.t 14) (iQ 0)))])
 (.cond (.t 15) (.seq (.reg [(oQ 16 (.mv (.t 7))),
 (oQ 4 (.mv (.c (.p (.sl 0 [] true))))),
 (oQ 5 (.mv (.t 16)))])
 .ret) .skip))
 (.seq (.reg [(oQ 17 (.ldn 1 (.t 6))),
 (oQ 18 (.mv (.t 1))),
 (kQ 19 3 108 [(.t 17),(.t 18)]),
 (oQ 4 (.mv (.t 19))),
 (oQ 5 (.mv (iQ 0)))])
 .ret))))⟩
def A_ground_ExplainedIn:Nat→Ty := tyAt [.un,.un,.un,.un]
abbrev P_ground_ExplainedIn:List PSh := [.agg (.sl (.pr (.sl tQ) (.sl tQ))),.one (.sl (.pr tQ pQ))]
abbrev R_ground_ExplainedIn:List PSh := [.one (.sl tQ),.one tQ]
theorem e_ground_ExplainedIn:cFn Try.prog 48 = some F_ground_ExplainedIn.erase := by kernel_rfl
theorem k_ground_ExplainedIn:callable Try.prog 48 = true := by kernel_rfl
def F_ground_RangesOf:TFn := ⟨85,11,[.tmp 4,.tmp 5],
 (.seq (.reg [(oQ 2 (.box 0 (.t 0))),
 (oQ 4 (.mv (.c (.p (.sl 0 [] true))))),
 (oQ 5 (.mv (iQ 0)))])
 (.seq (.reg [(oQ 14 (.ldn 1 (.t 2))),
 (oQ 15 (.mv (.t 1))),
 (kQ 16 1 107 [(.t 14),(.t 15)]),
 (oQ 13 (.mv (.t 16))),
 (oQ 17 (.ext 0 (.t 13))),
 (oQ 18 (.ext 1 (.t 13))),
 (oQ 6 (.newz 2 [(.p (.sl 0 [] true))])),
 (uQ (.st 1 (.t 6) (.t 17))),
 (oQ 7 (.mv (.t 18)))])
 (.seq (.seq (.reg [(oQ 19 (.mv (.t 7))),
 (oQ 20 (.bin .neq (.t 19) (iQ 0)))])
 (.cond (.t 20) (.seq (.reg [(oQ 21 (.mv (.t 7))),
 (oQ 4 (.mv (.c (.p (.sl 0 [] true))))),
 (oQ 5 (.mv (.t 21)))])
 .ret) .skip))
 (.seq (.reg [(oQ 8 (.mv (.c (.p (.sl 0 [] true)))))])
 (.seq (.seq (.reg [(oQ 22 (.ldn 1 (.t 6))),
 (oQ 23 (.mv (.t 1))),
 (kQ 24 3 108 [(.t 22),(.t 23)]),
 (oQ 25 (.len false (.t 24))),
 (oQ 26 (.mv (iQ 0)))])
 (.block 0 (.loop [.o 8 7 (.pr pQ pQ),.v 26 tQ] [7,5] [7,5] (.seq (.reg [(oQ 27 (.bin .lss (.t 26) (.t 25)))])
 (.seq (.cond (.t 27) .skip (.exit 0))
 (.seq (.block 1 (.seq (.reg [(oQ 28 (.ia 1 (.t 24) (.t 26))),
 (oQ 29 (.ld1 (.t 28))),
 (oQ 10 (.mv (.t 29)))])
 (.seq (.reg [(oQ 30 (.ldn 1 (.t 6))),
 (oQ 31 (.mv (.t 10))),
 (kQ 32 4 96 [(.t 30),(.t 31)]),
 (oQ 33 (.prt 0 none (.t 32))),
 (oQ 34 (.len false (.t 33))),
 (oQ 35 (.mv (iQ 0)))])
 (.block 2 (.loop [.v 35 tQ,.o 8 7 (.pr pQ pQ)] [7,5] [7,5] (.seq (.reg [(oQ 36 (.bin .lss (.t 35) (.t 34)))])
 (.seq (.cond (.t 36) .skip (.exit 2))
 (.seq (.block 3 (.seq (.reg [(oQ 37 (.mv (.t 35))),
 (oQ 38 (.ia 2 (.t 33) (.t 35))),
 (oQ 39 (.ldn 2 (.t 38))),
 (oQ 12 (.newz 5 [zQ,zQ])),
 (oQ 11 (.mv (.t 37))),
 (uQ (.st 2 (.t 12) (.t 39)))])
 (.seq (.seq (.reg [(oQ 40 (.mv (.t 11))),
 (oQ 41 (.mv (.t 8))),
 (oQ 42 (.len false (.t 41))),
 (oQ 43 (.bin .eql (.t 40) (.t 42)))])
 (.cond (.t 43) (.reg [(oQ 44 (.mv (.t 8))),
 (oQ 45 (.fa 0 (.t 12))),
 (oQ 46 (.ld1 (.t 45))),
 (oQ 47 (.fa 0 (.t 12))),
 (oQ 48 (.ld1 (.t 47))),
 (oQ 49 (.build [zQ,zQ] [(0,1,(.t 46)),(1,1,(.t 48))])),
 (oQ 50 (.fa 1 (.t 12))),
 (oQ 51 (.ld1 (.t 50))),
 (oQ 52 (.fa 1 (.t 12))),
 (oQ 53 (.ld1 (.t 52))),
 (oQ 54 (.build [zQ,zQ] [(0,1,(.t 51)),(1,1,(.t 53))])),
 (oQ 55 (.build [zQ,zQ,zQ,zQ] [(0,2,(.t 49)),(2,2,(.t 54))])),
 (oQ 56 (.bsl false 6 4 1 [zQ,zQ,zQ,zQ] [(0,4,(.t 55))])),
 (oQ 57 (.app 7 4 32 (.t 44) (.t 56))),
 (oQ 8 (.mv (.t 57)))]) .skip))
 (.regd [(oQ 58 (.mv (.t 8))),
 (oQ 59 (.mv (.t 11))),
 (oQ 60 (.mv (.t 8))),
 (oQ 61 (.mv (.t 11))),
 (oQ 62 (.ia 4 (.t 60) (.t 61))),
 (oQ 63 (.fa 0 (.t 62))),
 (oQ 64 (.ldn 2 (.t 63))),
 (oQ 65 (.fa 0 (.t 12))),
 (oQ 66 (.ld1 (.t 65))),
 (kQ 67 8 109 [(.t 64),(.t 66)]),
 (oQ 68 (.mv (.t 8))),
 (oQ 69 (.mv (.t 11))),
 (oQ 70 (.ia 4 (.t 68) (.t 69))),
 (oQ 71 (.fa 2 (.t 70))),
 (oQ 72 (.ldn 2 (.t 71))),
 (oQ 73 (.fa 1 (.t 12))),
 (oQ 74 (.ld1 (.t 73))),
 (kQ 75 9 109 [(.t 72),(.t 74)]),
 (oQ 76 (.build [zQ,zQ,zQ,zQ] [(0,2,(.t 67)),(2,2,(.t 75))])),
 (oQ 77 (.ia 4 (.t 58) (.t 59))),
 (uQ (.st 4 (.t 77) (.t 76)))] [(6,8),(6,14),(8,14),(9,14),(6,16),(8,16),(9,16),(14,16)] []))))
 (.reg [(oQ 78 (.bin .add (.t 35) (iQ 1))),
 (oQ 35 (.mv (.t 78)))])))))))))
 (.reg [(oQ 79 (.bin .add (.t 26) (iQ 1))),
 (oQ 26 (.mv (.t 79)))])))))))
 (.seq (.reg [(oQ 80 (.mv (.t 8))),
 (oQ 81 (.mv (.t 8))),
 (oQ 82 (.len false (.t 81))),
 (oQ 83 (.bin .gtr (.t 82) (iQ 0))),
 (kQ 84 10 74 [(.t 83),(iQ 12)]),
 (oQ 4 (.mv (.t 80))),
 (oQ 5 (.mv (.t 84)))])
 .ret))))))⟩
def A_ground_RangesOf:Nat→Ty := tyAt [.un,.un,.un,.un,.un,.un,(.pr pQ pQ),(.pr pQ pQ),.un,.un,.un]
abbrev P_ground_RangesOf:List PSh := [.agg (.sl (.pr (.sl tQ) (.sl tQ))),.one (.sl (.pr tQ pQ))]
abbrev R_ground_RangesOf:List PSh := [.one (.sl (.pr pQ pQ)),.one tQ]
theorem e_ground_RangesOf:cFn Try.prog 50 = some F_ground_RangesOf.erase := by kernel_rfl
theorem k_ground_RangesOf:callable Try.prog 50 = true := by kernel_rfl
def F_base_Has:TFn := ⟨18,0,[.tmp 4],
 (.seq (.reg [(oQ 4 (.mv (.c (.p (.bool false)))))])
 (.seq (.seq (.reg [(oQ 5 (.mv (iQ 0)))])
 (.block 0 (.loop [.v 5 tQ] [] [] (.seq (.seq (.reg [(oQ 6 (.mv (.t 5))),
 (oQ 7 (.mv (.t 0))),
 (oQ 8 (.len false (.t 7))),
 (oQ 9 (.bin .lss (.t 6) (.t 8)))])
 (.cond (.t 9) .skip (.exit 0)))
 (.seq (.block 1 (.seq (.reg [(oQ 12 (.mv (.t 0))),
 (oQ 13 (.mv (.t 5))),
 (oQ 14 (.ia 1 (.t 12) (.t 13))),
 (oQ 15 (.ld1 (.t 14))),
 (oQ 16 (.mv (.t 1))),
 (oQ 17 (.bin .eql (.t 15) (.t 16)))])
 (.cond (.t 17) (.seq (.reg [(oQ 4 (.mv (.c (.p (.bool true)))))])
 .ret) .skip)))
 (.reg [(oQ 10 (.mv (.t 5))),
 (oQ 11 (.bin .add (.t 10) (iQ 1))),
 (oQ 5 (.mv (.t 11)))]))))))
 (.seq (.reg [(oQ 4 (.mv (.c (.p (.bool false)))))])
 .ret)))⟩
def A_base_Has:Nat→Ty := tyAt []
abbrev P_base_Has:List PSh := [.one (.sl tQ),.one tQ]
abbrev R_base_Has:List PSh := [.one .bool]
theorem e_base_Has:cFn Try.prog 51 = some F_base_Has.erase := by kernel_rfl
theorem k_base_Has:callable Try.prog 51 = true := by kernel_rfl
def F_ground_CheckData:TFn := ⟨77,12,[.tmp 2,.tmp 3],
 (.seq (.reg [(oQ 2 (.mv (iQ 0))),
 (oQ 3 (.mv (iQ 0)))])
 (.seq (.seq (.reg [(oQ 10 (.mv (.t 0))),
 (oQ 11 (.len false (.t 10))),
 (oQ 12 (.bin .gtr (.t 11) (iQ 0))),
 (kQ 13 0 74 [(.t 12),(iQ 10)]),
 (oQ 14 (.mv (.t 0))),
 (oQ 15 (.len false (.t 14))),
 (oQ 16 (.bin .leq (.t 15) (iQ 6))),
 (kQ 17 1 74 [(.t 16),(iQ 8)]),
 (oQ 18 (.bsl false 2 1 2 [zQ,zQ] [(0,1,(.t 13)),(1,1,(.t 17))])),
 (kQ 19 3 73 [(.t 18)]),
 (oQ 4 (.mv (.t 19)))])
 (.seq (.reg [(oQ 20 (.mv (.t 4))),
 (oQ 21 (.bin .neq (.t 20) (iQ 0)))])
 (.cond (.t 21) (.seq (.reg [(oQ 22 (.mv (.t 4))),
 (oQ 2 (.mv (iQ 0))),
 (oQ 3 (.mv (.t 22)))])
 .ret) .skip)))
 (.seq (.reg [(oQ 5 (.mv (.c (.clo 110 []))))])
 (.seq (.seq (.reg [(oQ 23 (.mv (.t 0))),
 (oQ 24 (.len false (.t 23))),
 (oQ 25 (.mv (iQ 0)))])
 (.block 0 (.loop [.v 25 tQ] [4] [4] (.seq (.reg [(oQ 26 (.bin .lss (.t 25) (.t 24)))])
 (.seq (.cond (.t 26) .skip (.exit 0))
 (.seq (.block 1 (.seq (.reg [(oQ 27 (.mv (.t 25))),
 (oQ 28 (.ia 3 (.t 23) (.t 25))),
 (oQ 29 (.ldn 3 (.t 28))),
 (oQ 7 (.newz 4 [zQ,zQ,zQ])),
 (oQ 6 (.mv (.t 27))),
 (uQ (.st 3 (.t 7) (.t 29)))])
 (.seq (.regd [(oQ 30 (.mv (.t 6))),
 (oQ 31 (.bin .eql (.t 30) (iQ 0))),
 (oQ 32 (.mv (.t 31))),
 (gQ 33 32 false (.fa 0 (.t 7))),
 (gQ 34 32 false (.ld1 (.t 33))),
 (gQ 35 32 false (.mv (.t 0))),
 (gQ 36 32 false (.mv (.t 6))),
 (gQ 37 32 false (.bin .sub (.t 36) (iQ 1))),
 (gQ 38 32 false (.ia 3 (.t 35) (.t 37))),
 (gQ 39 32 false (.fa 0 (.t 38))),
 (gQ 40 32 false (.ld1 (.t 39))),
 (gQ 41 32 false (.bin .gtr (.t 34) (.t 40))),
 (oQ 42 (.pick (.t 32) (.c (.p (.bool true))) (.t 41))),
 (oQ 8 (.mv (.t 42)))] [(4,10)] [])
 (.seq (.regd [(oQ 43 (.fa 0 (.t 7))),
 (oQ 44 (.ld1 (.t 43))),
 (kQ 45 5 78 [(.t 44)]),
 (oQ 46 (.mv (.t 5))),
 (oQ 47 (.fa 1 (.t 7))),
 (oQ 48 (.fa 0 (.t 47))),
 (oQ 49 (.ld1 (.t 48))),
 ⟨some 50,none,(.callv 6 (.t 46) [(.t 49)])⟩,
 (oQ 51 (.mv (.t 50))),
 (gQ 52 51 true (.mv (.t 5))),
 (gQ 53 51 true (.fa 1 (.t 7))),
 (gQ 54 51 true (.fa 1 (.t 53))),
 (gQ 55 51 true (.ld1 (.t 54))),
 ⟨some 56,some (some 51,true),(.callv 7 (.t 52) [(.t 55)])⟩,
 (oQ 57 (.pick (.t 51) (.t 56) (.c (.p (.bool false))))),
 (kQ 58 8 74 [(.t 57),(iQ 2)]),
 (oQ 59 (.fa 1 (.t 7))),
 (oQ 60 (.fa 0 (.t 59))),
 (oQ 61 (.ld1 (.t 60))),
 (oQ 62 (.fa 1 (.t 7))),
 (oQ 63 (.fa 1 (.t 62))),
 (oQ 64 (.ld1 (.t 63))),
 (oQ 65 (.bin .leq (.t 61) (.t 64))),
 (oQ 66 (.mv (.t 65))),
 (gQ 67 66 true (.mv (.t 8))),
 (oQ 68 (.pick (.t 66) (.t 67) (.c (.p (.bool false))))),
 (kQ 69 9 74 [(.t 68),(iQ 9)]),
 (oQ 70 (.bsl false 10 1 3 [zQ,zQ,zQ] [(0,1,(.t 45)),(1,1,(.t 58)),(2,1,(.t 69))])),
 (kQ 71 11 73 [(.t 70)]),
 (oQ 9 (.mv (.t 71)))] [(1,6),(2,6),(1,18),(2,18),(6,18),(7,18),(12,18),(13,18),(15,18),(1,21),(2,21),(6,21),(7,21),(12,21),(13,21),(15,21),(18,21)] [])
 (.seq (.reg [(oQ 72 (.mv (.t 9))),
 (oQ 73 (.bin .neq (.t 72) (iQ 0)))])
 (.cond (.t 73) (.seq (.reg [(oQ 74 (.mv (.t 6))),
 (oQ 75 (.mv (.t 9))),
 (oQ 2 (.mv (.t 74))),
 (oQ 3 (.mv (.t 75)))])
 .ret) .skip))))))
 (.reg [(oQ 76 (.bin .add (.t 25) (iQ 1))),
 (oQ 25 (.mv (.t 76)))])))))))
 (.seq (.reg [(oQ 2 (.mv (iQ 0))),
 (oQ 3 (.mv (iQ 0)))])
 .ret)))))⟩
def A_ground_CheckData:Nat→Ty := tyAt [.un,.un,tQ,.un,.un,.un,.un,.un,.un,.un,tQ,.un]
abbrev P_ground_CheckData:List PSh := [.one (.sl (.pr tQ pQ))]
abbrev R_ground_CheckData:List PSh := [.one tQ,.one tQ]
theorem e_ground_CheckData:cFn Try.prog 52 = some F_ground_CheckData.erase := by kernel_rfl
theorem k_ground_CheckData:callable Try.prog 52 = true := by kernel_rfl
def F_ref04_CheckData:TFn := ⟨77,3,[.tmp 2,.tmp 3],
 (.seq (.reg [(oQ 2 (.mv (iQ 0))),
 (oQ 3 (.mv (iQ 0)))])
 (.seq (.seq (.reg [(oQ 5 (.mv (.t 0))),
 (oQ 6 (.len false (.t 5))),
 (oQ 7 (.bin .eql (.t 6) (iQ 0)))])
 (.cond (.t 7) (.seq (.reg [(oQ 2 (.mv (iQ 0))),
 (oQ 3 (.mv (iQ 10)))])
 .ret) .skip))
 (.seq (.seq (.reg [(oQ 8 (.mv (.t 0))),
 (oQ 9 (.len false (.t 8))),
 (oQ 10 (.bin .gtr (.t 9) (iQ 6)))])
 (.cond (.t 10) (.seq (.reg [(oQ 2 (.mv (iQ 0))),
 (oQ 3 (.mv (iQ 8)))])
 .ret) .skip))
 (.seq (.seq (.reg [(oQ 4 (.mv (iQ 0)))])
 (.block 0 (.loop [.v 4 tQ] [] [] (.seq (.seq (.reg [(oQ 11 (.mv (.t 4))),
 (oQ 12 (.mv (.t 0))),
 (oQ 13 (.len false (.t 12))),
 (oQ 14 (.bin .lss (.t 11) (.t 13)))])
 (.cond (.t 14) .skip (.exit 0)))
 (.seq (.block 1 (.seq (.seq (.reg [(oQ 17 (.mv (.t 0))),
 (oQ 18 (.mv (.t 4))),
 (oQ 19 (.ia 3 (.t 17) (.t 18))),
 (oQ 20 (.fa 0 (.t 19))),
 (oQ 21 (.ld1 (.t 20))),
 (kQ 22 0 18 [(.t 21)]),
 (oQ 23 (.bin .neq (.t 22) (iQ 0))),
 (oQ 24 (.mv (.t 23))),
 (gQ 25 24 false (.mv (.t 0))),
 (gQ 26 24 false (.mv (.t 4))),
 (gQ 27 24 false (.ia 3 (.t 25) (.t 26))),
 (gQ 28 24 false (.fa 1 (.t 27))),
 (gQ 29 24 false (.fa 0 (.t 28))),
 (gQ 30 24 false (.ld1 (.t 29))),
 ⟨some 31,some (some 24,false),(.call 1 35 [(.t 30),(iQ 0),(iQ 100000)])⟩,
 (gQ 32 24 false (.unot (.t 31))),
 (oQ 33 (.pick (.t 24) (.c (.p (.bool true))) (.t 32))),
 (oQ 34 (.mv (.t 33))),
 (gQ 35 34 false (.mv (.t 0))),
 (gQ 36 34 false (.mv (.t 4))),
 (gQ 37 34 false (.ia 3 (.t 35) (.t 36))),
 (gQ 38 34 false (.fa 1 (.t 37))),
 (gQ 39 34 false (.fa 1 (.t 38))),
 (gQ 40 34 false (.ld1 (.t 39))),
 ⟨some 41,some (some 34,false),(.call 2 35 [(.t 40),(iQ 0),(iQ 100000)])⟩,
 (gQ 42 34 false (.unot (.t 41))),
 (oQ 43 (.pick (.t 34) (.c (.p (.bool true))) (.t 42)))])
 (.cond (.t 43) (.seq (.reg [(oQ 44 (.mv (.t 4))),
 (oQ 2 (.mv (.t 44))),
 (oQ 3 (.mv (iQ 2)))])
 .ret) .skip))
 (.seq (.regd [(oQ 45 (.mv (.t 0))),
 (oQ 46 (.mv (.t 4))),
 (oQ 47 (.ia 3 (.t 45) (.t 46))),
 (oQ 48 (.fa 1 (.t 47))),
 (oQ 49 (.fa 0 (.t 48))),
 (oQ 50 (.ld1 (.t 49))),
 (oQ 51 (.mv (.t 0))),
 (oQ 52 (.mv (.t 4))),
 (oQ 53 (.ia 3 (.t 51) (.t 52))),
 (oQ 54 (.fa 1 (.t 53))),
 (oQ 55 (.fa 1 (.t 54))),
 (oQ 56 (.ld1 (.t 55))),
 (oQ 57 (.bin .gtr (.t 50) (.t 56))),
 (oQ 58 (.mv (.t 57))),
 (gQ 59 58 false (.mv (.t 4))),
 (gQ 60 58 false (.bin .gtr (.t 59) (iQ 0))),
 (gQ 61 58 false (.mv (.t 60))),
 (gQ 62 61 true (.mv (.t 0))),
 (gQ 63 61 true (.mv (.t 4))),
 (gQ 64 61 true (.ia 3 (.t 62) (.t 63))),
 (gQ 65 61 true (.fa 0 (.t 64))),
 (gQ 66 61 true (.ld1 (.t 65))),
 (gQ 67 61 true (.mv (.t 0))),
 (gQ 68 61 true (.mv (.t 4))),
 (gQ 69 61 true (.bin .sub (.t 68) (iQ 1))),
 (gQ 70 61 true (.ia 3 (.t 67) (.t 69))),
 (gQ 71 61 true (.fa 0 (.t 70))),
 (gQ 72 61 true (.ld1 (.t 71))),
 (gQ 73 61 true (.bin .leq (.t 66) (.t 72))),
 (gQ 74 58 false (.pick (.t 61) (.t 73) (.c (.p (.bool false))))),
 (oQ 75 (.pick (.t 58) (.c (.p (.bool true))) (.t 74)))] [(5,11),(21,27)] [])
 (.cond (.t 75) (.seq (.reg [(oQ 76 (.mv (.t 4))),
 (oQ 2 (.mv (.t 76))),
 (oQ 3 (.mv (iQ 9)))])
 .ret) .skip))))
 (.reg [(oQ 15 (.mv (.t 4))),
 (oQ 16 (.bin .add (.t 15) (iQ 1))),
 (oQ 4 (.mv (.t 16)))]))))))
 (.seq (.reg [(oQ 2 (.mv (iQ 0))),
 (oQ 3 (.mv (iQ 0)))])
 .ret)))))⟩
def A_ref04_CheckData:Nat→Ty := tyAt [.un,.un,.un]
abbrev P_ref04_CheckData:List PSh := [.one (.sl (.pr tQ pQ))]
abbrev R_ref04_CheckData:List PSh := [.one tQ,.one tQ]
theorem e_ref04_CheckData:cFn Try.prog 54 = some F_ref04_CheckData.erase := by kernel_rfl
theorem k_ref04_CheckData:callable Try.prog 54 = true := by kernel_rfl
def F_base_Ints:TFn := ⟨26,0,[.tmp 4],
 (.seq (.reg [(oQ 4 (.mv (.c (.p (.bool false)))))])
 (.seq (.seq (.reg [(oQ 6 (.mv (.t 0))),
 (oQ 7 (.len false (.t 6))),
 (oQ 8 (.mv (.t 1))),
 (oQ 9 (.len false (.t 8))),
 (oQ 10 (.bin .neq (.t 7) (.t 9)))])
 (.cond (.t 10) (.seq (.reg [(oQ 4 (.mv (.c (.p (.bool false)))))])
 .ret) .skip))
 (.seq (.seq (.reg [(oQ 5 (.mv (iQ 0)))])
 (.block 0 (.loop [.v 5 tQ] [] [] (.seq (.seq (.reg [(oQ 11 (.mv (.t 5))),
 (oQ 12 (.mv (.t 0))),
 (oQ 13 (.len false (.t 12))),
 (oQ 14 (.bin .lss (.t 11) (.t 13)))])
 (.cond (.t 14) .skip (.exit 0)))
 (.seq (.block 1 (.seq (.regd [(oQ 17 (.mv (.t 0))),
 (oQ 18 (.mv (.t 5))),
 (oQ 19 (.ia 1 (.t 17) (.t 18))),
 (oQ 20 (.ld1 (.t 19))),
 (oQ 21 (.mv (.t 1))),
 (oQ 22 (.mv (.t 5))),
 (oQ 23 (.ia 1 (.t 21) (.t 22))),
 (oQ 24 (.ld1 (.t 23))),
 (oQ 25 (.bin .neq (.t 20) (.t 24)))] [(3,7)] [])
 (.cond (.t 25) (.seq (.reg [(oQ 4 (.mv (.c (.p (.bool false)))))])
 .ret) .skip)))
 (.reg [(oQ 15 (.mv (.t 5))),
 (oQ 16 (.bin .add (.t 15) (iQ 1))),
 (oQ 5 (.mv (.t 16)))]))))))
 (.seq (.reg [(oQ 4 (.mv (.c (.p (.bool true)))))])
 .ret))))⟩
def A_base_Ints:Nat→Ty := tyAt []
abbrev P_base_Ints:List PSh := [.one (.sl tQ),.one (.sl tQ)]
abbrev R_base_Ints:List PSh := [.one .bool]
theorem e_base_Ints:cFn Try.prog 58 = some F_base_Ints.erase := by kernel_rfl
theorem k_base_Ints:callable Try.prog 58 = true := by kernel_rfl
def F_law04_Model:TFn := ⟨5,2,[.celln 0 1],
 (.seq (.reg [(oQ 0 (.newz 0 [(.p (.sl 0 [] true))]))])
 (.seq (.reg [(oQ 1 (.build [zQ,zQ] [(0,1,(iQ 4)),(1,1,(iQ 2))])),
 (oQ 2 (.build [zQ,zQ] [(0,1,(iQ 1))])),
 (oQ 3 (.bsl false 1 2 2 [zQ,zQ,zQ,zQ] [(0,2,(.t 1)),(2,2,(.t 2))])),
 (oQ 4 (.build [(.p (.sl 0 [] true))] [(0,1,(.t 3))])),
 (uQ (.st 1 (.t 0) (.t 4)))])
 .ret))⟩
theorem e_law04_Model:cFn Try.prog 69 = some F_law04_Model.erase := by kernel_rfl
def F_law04_Class:TFn := ⟨9,6,[.celln 0 1],
 (.seq (.reg [(oQ 0 (.newz 0 [(.p (.sl 0 [] true))]))])
 (.seq (.reg [(oQ 1 (.bsl false 1 1 2 [zQ,zQ] [(0,1,(iQ 2)),(1,1,(iQ 4))])),
 (oQ 2 (.bsl false 2 1 2 [zQ,zQ] [(0,1,(iQ 2)),(1,1,(iQ 4))])),
 (oQ 3 (.build [(.p (.sl 0 [] true)),(.p (.sl 0 [] true))] [(0,1,(.t 1)),(1,1,(.t 2))])),
 (oQ 4 (.bsl false 3 1 2 [zQ,zQ] [(0,1,(iQ 1)),(1,1,(iQ 8))])),
 (oQ 5 (.bsl false 4 1 1 [zQ] [(0,1,(iQ 0))])),
 (oQ 6 (.build [(.p (.sl 0 [] true)),(.p (.sl 0 [] true))] [(0,1,(.t 4)),(1,1,(.t 5))])),
 (oQ 7 (.bsl false 5 2 2 [(.p (.sl 0 [] true)),(.p (.sl 0 [] true)),(.p (.sl 0 [] true)),(.p (.sl 0 [] true))] [(0,2,(.t 3)),(2,2,(.t 6))])),
 (oQ 8 (.build [(.p (.sl 0 [] true))] [(0,1,(.t 7))])),
 (uQ (.st 1 (.t 0) (.t 8)))])
 .ret))⟩
theorem e_law04_Class:cFn Try.prog 70 = some F_law04_Class.erase := by kernel_rfl
def F_law04_Data:TFn := ⟨4,1,[.tmp 0],
 (.seq (.reg [(oQ 0 (.mv (.c (.p (.sl 0 [] true)))))])
 (.seq (.reg [(oQ 1 (.build [zQ,zQ] [(0,1,(iQ 2500)),(1,1,(iQ 3100))])),
 (oQ 2 (.build [zQ,zQ,zQ] [(0,1,(iQ 2)),(1,2,(.t 1))])),
 (oQ 3 (.bsl false 0 3 1 [zQ,zQ,zQ] [(0,3,(.t 2))])),
 (oQ 0 (.mv (.t 3)))])
 .ret))⟩
theorem e_law04_Data:cFn Try.prog 71 = some F_law04_Data.erase := by kernel_rfl
def F_ground_TwoOf:TFn := ⟨64,12,[.celln 6 2,.tmp 7],
 (.seq (.reg [(oQ 3 (.box 0 (.t 0))),
 (oQ 6 (.newz 1 [zQ,zQ])),
 (oQ 7 (.mv (iQ 0)))])
 (.seq (.reg [(oQ 16 (.ldn 1 (.t 3))),
 (oQ 17 (.mv (.t 1))),
 (kQ 18 2 107 [(.t 16),(.t 17)]),
 (oQ 15 (.mv (.t 18))),
 (oQ 19 (.ext 0 (.t 15))),
 (oQ 20 (.ext 1 (.t 15))),
 (oQ 8 (.newz 3 [(.p (.sl 0 [] true))])),
 (uQ (.st 1 (.t 8) (.t 19))),
 (oQ 9 (.mv (.t 20)))])
 (.seq (.seq (.reg [(oQ 21 (.mv (.t 9))),
 (oQ 22 (.mv (.t 2))),
 (kQ 23 4 95 [(.t 22),(iQ 1),(iQ 20)]),
 (kQ 24 5 74 [(.t 23),(iQ 2)]),
 (oQ 25 (.bsl false 6 1 2 [zQ,zQ] [(0,1,(.t 21)),(1,1,(.t 24))])),
 (kQ 26 7 73 [(.t 25)]),
 (oQ 9 (.mv (.t 26)))])
 (.seq (.reg [(oQ 27 (.mv (.t 9))),
 (oQ 28 (.bin .neq (.t 27) (iQ 0)))])
 (.cond (.t 28) (.seq (.reg [(oQ 29 (.build [zQ,zQ] [])),
 (oQ 30 (.mv (.t 9))),
 (uQ (.st 2 (.t 6) (.t 29))),
 (oQ 7 (.mv (.t 30)))])
 .ret) .skip)))
 (.seq (.reg [(oQ 31 (.ldn 1 (.t 8))),
 (oQ 32 (.mv (.t 1))),
 (kQ 33 8 108 [(.t 31),(.t 32)]),
 (oQ 10 (.mv (.t 33)))])
 (.seq (.seq (.reg [(oQ 34 (.mv (.t 10))),
 (oQ 35 (.len false (.t 34))),
 (oQ 36 (.mv (iQ 0)))])
 (.block 0 (.loop [.v 36 tQ] [] [] (.seq (.reg [(oQ 37 (.bin .lss (.t 36) (.t 35)))])
 (.seq (.cond (.t 37) .skip (.exit 0))
 (.seq (.block 1 (.seq (.reg [(oQ 38 (.mv (.t 36))),
 (oQ 39 (.ia 1 (.t 34) (.t 36))),
 (oQ 40 (.ld1 (.t 39))),
 (oQ 11 (.mv (.t 38))),
 (oQ 12 (.mv (.t 40)))])
 (.seq (.reg [(oQ 41 (.mv (.t 10))),
 (oQ 42 (.mv (.t 11))),
 (oQ 43 (.bin .add (.t 42) (iQ 1))),
 (oQ 44 (.sl 1 (.t 41) (some (.t 43)) none)),
 (oQ 45 (.len false (.t 44))),
 (oQ 46 (.mv (iQ 0)))])
 (.block 2 (.loop [.v 46 tQ] [] [] (.seq (.reg [(oQ 47 (.bin .lss (.t 46) (.t 45)))])
 (.seq (.cond (.t 47) .skip (.exit 2))
 (.seq (.block 3 (.seq (.reg [(oQ 48 (.ia 1 (.t 44) (.t 46))),
 (oQ 49 (.ld1 (.t 48))),
 (oQ 14 (.mv (.t 49)))])
 (.seq (.regd [(oQ 50 (.ldn 1 (.t 8))),
 (oQ 51 (.mv (.t 12))),
 (kQ 52 9 96 [(.t 50),(.t 51)]),
 (oQ 53 (.ldn 1 (.t 8))),
 (oQ 54 (.mv (.t 14))),
 (kQ 55 10 96 [(.t 53),(.t 54)]),
 (oQ 56 (.mv (.t 2))),
 (kQ 57 11 124 [(.t 52),(.t 55),(.t 56)])] [(0,3),(2,3)] [])
 (.cond (.t 57) (.seq (.reg [(oQ 58 (.mv (.t 12))),
 (oQ 59 (.mv (.t 14))),
 (oQ 60 (.build [zQ,zQ] [(0,1,(.t 58)),(1,1,(.t 59))])),
 (uQ (.st 2 (.t 6) (.t 60))),
 (oQ 7 (.mv (iQ 0)))])
 .ret) .skip))))
 (.reg [(oQ 61 (.bin .add (.t 46) (iQ 1))),
 (oQ 46 (.mv (.t 61)))])))))))))
 (.reg [(oQ 62 (.bin .add (.t 36) (iQ 1))),
 (oQ 36 (.mv (.t 62)))])))))))
 (.seq (.reg [(oQ 63 (.build [zQ,zQ] [])),
 (uQ (.st 2 (.t 6) (.t 63))),
 (oQ 7 (.mv (iQ 12)))])
 .ret))))))⟩
theorem e_ground_TwoOf:cFn Try.prog 72 = some F_ground_TwoOf.erase := by kernel_rfl
def F_ground_unless:TFn := ⟨7,0,[.tmp 4],
 (.seq (.reg [(oQ 4 (.mv (iQ 0)))])
 (.seq (.seq (.reg [(oQ 5 (.mv (.t 0)))])
 (.cond (.t 5) (.seq (.reg [(oQ 4 (.mv (iQ 0)))])
 .ret) .skip))
 (.seq (.reg [(oQ 6 (.mv (.t 1))),
 (oQ 4 (.mv (.t 6)))])
 .ret)))⟩
def A_ground_unless:Nat→Ty := tyAt []
abbrev P_ground_unless:List PSh := [.one .bool,.one tQ]
abbrev R_ground_unless:List PSh := [.one tQ]
theorem e_ground_unless:cFn Try.prog 74 = some F_ground_unless.erase := by kernel_rfl
theorem k_ground_unless:callable Try.prog 74 = true := by kernel_rfl
def F_ground_first:TFn := ⟨15,0,[.tmp 2],
 (.seq (.reg [(oQ 2 (.mv (iQ 0)))])
 (.seq (.seq (.reg [(oQ 5 (.mv (.t 0))),
 (oQ 6 (.len false (.t 5))),
 (oQ 7 (.mv (iQ 0)))])
 (.block 0 (.loop [.v 7 tQ] [] [] (.seq (.reg [(oQ 8 (.bin .lss (.t 7) (.t 6)))])
 (.seq (.cond (.t 8) .skip (.exit 0))
 (.seq (.block 1 (.seq (.reg [(oQ 9 (.ia 1 (.t 5) (.t 7))),
 (oQ 10 (.ld1 (.t 9))),
 (oQ 4 (.mv (.t 10)))])
 (.seq (.reg [(oQ 11 (.mv (.t 4))),
 (oQ 12 (.bin .neq (.t 11) (iQ 0)))])
 (.cond (.t 12) (.seq (.reg [(oQ 13 (.mv (.t 4))),
 (oQ 2 (.mv (.t 13)))])
 .ret) .skip))))
 (.reg [(oQ 14 (.bin .add (.t 7) (iQ 1))),
 (oQ 7 (.mv (.t 14)))])))))))
 (.seq (.reg [(oQ 2 (.mv (iQ 0)))])
 .ret)))⟩
def A_ground_first:Nat→Ty := tyAt []
abbrev P_ground_first:List PSh := [.one (.sl tQ)]
abbrev R_ground_first:List PSh := [.one tQ]
theorem e_ground_first:cFn Try.prog 73 = some F_ground_first.erase := by kernel_rfl
theorem k_ground_first:callable Try.prog 73 = true := by kernel_rfl
def F_ground_isConductivity:TFn := ⟨5,1,[.tmp 2],
 (.seq (.reg [(oQ 2 (.mv (.c (.p (.bool false)))))])
 (.seq (.reg [(oQ 3 (.mv (.t 0))),
 (kQ 4 0 95 [(.t 3),(iQ 1),(iQ 20)]),
 (oQ 2 (.mv (.t 4)))])
 .ret))⟩
def A_ground_isConductivity:Nat→Ty := tyAt [.un]
abbrev P_ground_isConductivity:List PSh := [.one tQ]
abbrev R_ground_isConductivity:List PSh := [.one .bool]
theorem e_ground_isConductivity:cFn Try.prog 75 = some F_ground_isConductivity.erase := by kernel_rfl
theorem k_ground_isConductivity:callable Try.prog 75 = true := by kernel_rfl
def F_ground_isThickness:TFn := ⟨5,1,[.tmp 2],
 (.seq (.reg [(oQ 2 (.mv (.c (.p (.bool false)))))])
 (.seq (.reg [(oQ 3 (.mv (.t 0))),
 (kQ 4 0 95 [(.t 3),(iQ 0),(iQ 10)]),
 (oQ 2 (.mv (.t 4)))])
 .ret))⟩
def A_ground_isThickness:Nat→Ty := tyAt [.un]
abbrev P_ground_isThickness:List PSh := [.one tQ]
abbrev R_ground_isThickness:List PSh := [.one .bool]
theorem e_ground_isThickness:cFn Try.prog 76 = some F_ground_isThickness.erase := by kernel_rfl
theorem k_ground_isThickness:callable Try.prog 76 = true := by kernel_rfl
def F_ground_modelErr:TFn := ⟨11,2,[.tmp 2],
 (.seq (.reg [(oQ 1 (.box 0 (.t 0))),
 (oQ 2 (.mv (iQ 0)))])
 (.seq (.reg [(oQ 6 (.ldn 1 (.t 1))),
 (kQ 7 1 14 [(.t 6)]),
 (oQ 5 (.mv (.t 7))),
 (oQ 8 (.ext 0 (.t 5))),
 (oQ 9 (.ext 1 (.t 5))),
 (oQ 3 (.mv (.t 8))),
 (oQ 4 (.mv (.t 9)))])
 (.seq (.reg [(oQ 10 (.mv (.t 4))),
 (oQ 2 (.mv (.t 10)))])
 .ret)))⟩
def A_ground_modelErr:Nat→Ty := tyAt [.un,.un]
abbrev P_ground_modelErr:List PSh := [.agg (.sl pQ)]
abbrev R_ground_modelErr:List PSh := [.one tQ]
theorem e_ground_modelErr:cFn Try.prog 77 = some F_ground_modelErr.erase := by kernel_rfl
theorem k_ground_modelErr:callable Try.prog 77 = true := by kernel_rfl
def F_ground_scaleErr:TFn := ⟨6,2,[.tmp 2],
 (.seq (.reg [(oQ 2 (.mv (iQ 0)))])
 (.seq (.reg [(oQ 3 (.mv (.t 0))),
 (kQ 4 0 95 [(.t 3),(iQ 1),(iQ 20)]),
 (kQ 5 1 74 [(.t 4),(iQ 2)]),
 (oQ 2 (.mv (.t 5)))])
 .ret))⟩
def A_ground_scaleErr:Nat→Ty := tyAt [.un,.un]
abbrev P_ground_scaleErr:List PSh := [.one tQ]
abbrev R_ground_scaleErr:List PSh := [.one tQ]
theorem e_ground_scaleErr:cFn Try.prog 78 = some F_ground_scaleErr.erase := by kernel_rfl
theorem k_ground_scaleErr:callable Try.prog 78 = true := by kernel_rfl
def F_ground_response:TFn := ⟨57,7,[.celln 4 2],
 (.seq (.reg [(oQ 2 (.box 0 (.t 0))),
 (oQ 3 (.box 1 (.t 1))),
 (oQ 4 (.newz 2 [zQ,zQ]))])
 (.seq (.reg [(oQ 5 (.newz 3 [zQ,zQ]))])
 (.seq (.seq (.reg [(oQ 11 (.ld1 (.t 2))),
 (kQ 12 4 125 [(.t 11)])])
 (.block 0 (.rng (.t 12) [13,14] [13,14,6,7,15,16,17,18,19,20,21,22,23,24,25,26,27,28,29,30,8,9,10,31,32,33,34,35,36,37,38,39,40,41,42,43,44,45,46,47,48,49,50,51,52,53,54,55] [.c 3 pQ] [3,5] [5] (.seq (.reg [(oQ 6 (.mv (.t 13)))])
 (.reg [(oQ 7 (.newz 5 [zQ,zQ])),
 (uQ (.st 2 (.t 7) (.t 14)))]))
 (.block 1 (.seq (.seq (.reg [(oQ 15 (.mv (.t 6))),
 (oQ 16 (.ld1 (.t 2))),
 (oQ 17 (.len false (.t 16))),
 (oQ 18 (.bin .sub (.t 17) (iQ 1))),
 (oQ 19 (.bin .eql (.t 15) (.t 18)))])
 (.cond (.t 19) (.seq (.reg [(oQ 20 (.fa 0 (.t 7))),
 (oQ 21 (.ld1 (.t 20))),
 (oQ 22 (.build [zQ,zQ] [(0,1,(.t 21)),(1,1,(iQ 1))])),
 (uQ (.st 2 (.t 5) (.t 22)))])
 (.exit 1)) .skip))
 (.seq (.regd [(oQ 23 (.fa 0 (.t 7))),
 (oQ 24 (.ld1 (.t 23))),
 (oQ 25 (.fa 1 (.t 7))),
 (oQ 26 (.ld1 (.t 25))),
 (oQ 27 (.fa 1 (.t 7))),
 (oQ 28 (.ld1 (.t 27))),
 (oQ 29 (.ld1 (.t 3))),
 (oQ 30 (.bin .add (.t 28) (.t 29))),
 (oQ 8 (.mv (.t 24))),
 (oQ 9 (.mv (.t 26))),
 (oQ 10 (.mv (.t 30)))] [(1,3),(1,5),(3,5),(1,6),(3,6),(5,6)] [])
 (.reg [(oQ 31 (.mv (.t 8))),
 (oQ 32 (.fa 0 (.t 5))),
 (oQ 33 (.ld1 (.t 32))),
 (oQ 34 (.mv (.t 10))),
 (oQ 35 (.bin .mul (.t 33) (.t 34))),
 (oQ 36 (.mv (.t 8))),
 (oQ 37 (.mv (.t 9))),
 (oQ 38 (.bin .mul (.t 36) (.t 37))),
 (oQ 39 (.fa 1 (.t 5))),
 (oQ 40 (.ld1 (.t 39))),
 (oQ 41 (.bin .mul (.t 38) (.t 40))),
 (oQ 42 (.bin .add (.t 35) (.t 41))),
 (oQ 43 (.bin .mul (.t 31) (.t 42))),
 (oQ 44 (.mv (.t 8))),
 (oQ 45 (.fa 1 (.t 5))),
 (oQ 46 (.ld1 (.t 45))),
 (oQ 47 (.bin .mul (.t 44) (.t 46))),
 (oQ 48 (.mv (.t 10))),
 (oQ 49 (.bin .mul (.t 47) (.t 48))),
 (oQ 50 (.fa 0 (.t 5))),
 (oQ 51 (.ld1 (.t 50))),
 (oQ 52 (.mv (.t 9))),
 (oQ 53 (.bin .mul (.t 51) (.t 52))),
 (oQ 54 (.bin .add (.t 49) (.t 53))),
 (kQ 55 6 126 [(.t 43),(.t 54)]),
 (uQ (.st 2 (.t 5) (.t 55)))])))))))
 (.seq (.reg [(oQ 56 (.ldn 2 (.t 5))),
 (uQ (.st 2 (.t 4) (.t 56)))])
 .ret))))⟩
def A_ground_response:Nat→Ty := tyAt [.un,.un,.un,.un,.un,.un,.un]
abbrev P_ground_response:List PSh := [.one (.sl pQ),.one tQ]
abbrev R_ground_response:List PSh := [.agg pQ]
theorem e_ground_response:cFn Try.prog 79 = some F_ground_response.erase := by kernel_rfl
theorem k_ground_response:callable Try.prog 79 = true := by kernel_rfl
def F_ground_quotient_frac:TFn := ⟨18,2,[.celln 2 2,.tmp 3],
 (.seq (.reg [(oQ 1 (.box 0 (.t 0))),
 (oQ 2 (.newz 1 [zQ,zQ])),
 (oQ 3 (.mv (iQ 0)))])
 (.seq (.seq (.reg [(oQ 4 (.fa 0 (.t 1))),
 (oQ 5 (.ld1 (.t 4))),
 (oQ 6 (.bin .gtr (.t 5) (iQ 1000000000))),
 (oQ 7 (.mv (.t 6))),
 (gQ 8 7 false (.fa 1 (.t 1))),
 (gQ 9 7 false (.ld1 (.t 8))),
 (gQ 10 7 false (.bin .gtr (.t 9) (iQ 1000000000))),
 (oQ 11 (.pick (.t 7) (.c (.p (.bool true))) (.t 10)))])
 (.cond (.t 11) (.seq (.reg [(oQ 12 (.build [zQ,zQ] [])),
 (uQ (.st 2 (.t 2) (.t 12))),
 (oQ 3 (.mv (iQ 8)))])
 .ret) .skip))
 (.seq (.reg [(oQ 13 (.fa 0 (.t 1))),
 (oQ 14 (.ld1 (.t 13))),
 (oQ 15 (.fa 1 (.t 1))),
 (oQ 16 (.ld1 (.t 15))),
 (oQ 17 (.build [zQ,zQ] [(0,1,(.t 14)),(1,1,(.t 16))])),
 (uQ (.st 2 (.t 2) (.t 17))),
 (oQ 3 (.mv (iQ 0)))])
 .ret)))⟩
theorem e_ground_quotient_frac:cFn Try.prog 80 = some F_ground_quotient_frac.erase := by kernel_rfl
def F_ref04_isConductivity:TFn := ⟨5,1,[.tmp 2],
 (.seq (.reg [(oQ 2 (.mv (.c (.p (.bool false)))))])
 (.seq (.reg [(oQ 3 (.mv (.t 0))),
 (kQ 4 0 35 [(.t 3),(iQ 1),(iQ 20)]),
 (oQ 2 (.mv (.t 4)))])
 .ret))⟩
def A_ref04_isConductivity:Nat→Ty := tyAt [.un]
abbrev P_ref04_isConductivity:List PSh := [.one tQ]
abbrev R_ref04_isConductivity:List PSh := [.one .bool]
theorem e_ref04_isConductivity:cFn Try.prog 81 = some F_ref04_isConductivity.erase := by kernel_rfl
theorem k_ref04_isConductivity:callable Try.prog 81 = true := by kernel_rfl
def F_ref04_isThickness:TFn := ⟨5,1,[.tmp 2],
 (.seq (.reg [(oQ 2 (.mv (.c (.p (.bool false)))))])
 (.seq (.reg [(oQ 3 (.mv (.t 0))),
 (kQ 4 0 35 [(.t 3),(iQ 0),(iQ 10)]),
 (oQ 2 (.mv (.t 4)))])
 .ret))⟩
def A_ref04_isThickness:Nat→Ty := tyAt [.un]
abbrev P_ref04_isThickness:List PSh := [.one tQ]
abbrev R_ref04_isThickness:List PSh := [.one .bool]
theorem e_ref04_isThickness:cFn Try.prog 82 = some F_ref04_isThickness.erase := by kernel_rfl
theorem k_ref04_isThickness:callable Try.prog 82 = true := by kernel_rfl
def F_base_CopyInts_p:TFn := ⟨6,2,[.tmp 2],
 (.seq (.reg [(oQ 2 (.mv (.c (.p (.sl 0 [] true)))))])
 (.seq (.reg [(oQ 3 (.bsl true 0 1 0 [] [])),
 (oQ 4 (.mv (.t 0))),
 (oQ 5 (.app 1 1 8 (.t 3) (.t 4))),
 (oQ 2 (.mv (.t 5)))])
 .ret))⟩
def A_base_CopyInts_p:Nat→Ty := tyAt [tQ,tQ]
abbrev P_base_CopyInts_p:List PSh := [.one (.sl tQ)]
abbrev R_base_CopyInts_p:List PSh := [.one (.sl tQ)]
theorem e_base_CopyInts_p:cFn Try.prog 66 = some F_base_CopyInts_p.erase := by kernel_rfl
theorem k_base_CopyInts_p:callable Try.prog 66 = true := by kernel_rfl
def F_ground_listErr__ground_isConductivity:TFn := ⟨38,5,[.tmp 4],
 (.seq (.reg [(oQ 4 (.mv (iQ 0)))])
 (.seq (.seq (.reg [(oQ 8 (.mv (.t 0))),
 (oQ 9 (.len false (.t 8))),
 (oQ 10 (.mv (iQ 0)))])
 (.block 0 (.loop [.v 10 tQ] [] [] (.seq (.reg [(oQ 11 (.bin .lss (.t 10) (.t 9)))])
 (.seq (.cond (.t 11) .skip (.exit 0))
 (.seq (.block 1 (.seq (.reg [(oQ 12 (.mv (.t 10))),
 (oQ 13 (.ia 1 (.t 8) (.t 10))),
 (oQ 14 (.ld1 (.t 13))),
 (oQ 5 (.mv (.t 12))),
 (oQ 6 (.mv (.t 14)))])
 (.seq (.reg [(oQ 15 (.mv (.t 1))),
 (oQ 16 (.mv (.t 6))),
 ⟨some 17,none,(.callv 0 (.t 15) [(.t 16)])⟩,
 (kQ 18 1 74 [(.t 17),(iQ 2)]),
 (oQ 19 (.mv (.t 5))),
 (oQ 20 (.bin .eql (.t 19) (iQ 0))),
 (oQ 21 (.mv (.t 20))),
 (gQ 22 21 false (.mv (.t 6))),
 (gQ 23 21 false (.mv (.t 0))),
 (gQ 24 21 false (.mv (.t 5))),
 (gQ 25 21 false (.bin .sub (.t 24) (iQ 1))),
 (gQ 26 21 false (.mm true (iQ 0) (.t 25))),
 (gQ 27 21 false (.ia 1 (.t 23) (.t 26))),
 (gQ 28 21 false (.ld1 (.t 27))),
 (gQ 29 21 false (.bin .gtr (.t 22) (.t 28))),
 (oQ 30 (.pick (.t 21) (.c (.p (.bool true))) (.t 29))),
 (kQ 31 2 74 [(.t 30),(iQ 9)]),
 (oQ 32 (.bsl false 3 1 2 [zQ,zQ] [(0,1,(.t 18)),(1,1,(.t 31))])),
 (kQ 33 4 73 [(.t 32)]),
 (oQ 7 (.mv (.t 33)))])
 (.seq (.reg [(oQ 34 (.mv (.t 7))),
 (oQ 35 (.bin .neq (.t 34) (iQ 0)))])
 (.cond (.t 35) (.seq (.reg [(oQ 36 (.mv (.t 7))),
 (oQ 4 (.mv (.t 36)))])
 .ret) .skip)))))
 (.reg [(oQ 37 (.bin .add (.t 10) (iQ 1))),
 (oQ 10 (.mv (.t 37)))])))))))
 (.seq (.reg [(oQ 4 (.mv (iQ 0)))])
 .ret)))⟩
def A_ground_listErr__ground_isConductivity:Nat→Ty := tyAt [.un,.un,.un,tQ,.un]
abbrev P_ground_listErr__ground_isConductivity:List PSh := [.one (.sl tQ),.fn 75 []]
abbrev R_ground_listErr__ground_isConductivity:List PSh := [.one tQ]
theorem e_ground_listErr__ground_isConductivity:cFn Try.prog 91 = some F_ground_listErr__ground_isConductivity.erase := by kernel_rfl
theorem k_ground_listErr__ground_isConductivity:callable Try.prog 91 = true := by kernel_rfl
def F_ground_listErr__ground_isThickness:TFn := ⟨38,5,[.tmp 4],
 (.seq (.reg [(oQ 4 (.mv (iQ 0)))])
 (.seq (.seq (.reg [(oQ 8 (.mv (.t 0))),
 (oQ 9 (.len false (.t 8))),
 (oQ 10 (.mv (iQ 0)))])
 (.block 0 (.loop [.v 10 tQ] [] [] (.seq (.reg [(oQ 11 (.bin .lss (.t 10) (.t 9)))])
 (.seq (.cond (.t 11) .skip (.exit 0))
 (.seq (.block 1 (.seq (.reg [(oQ 12 (.mv (.t 10))),
 (oQ 13 (.ia 1 (.t 8) (.t 10))),
 (oQ 14 (.ld1 (.t 13))),
 (oQ 5 (.mv (.t 12))),
 (oQ 6 (.mv (.t 14)))])
 (.seq (.reg [(oQ 15 (.mv (.t 1))),
 (oQ 16 (.mv (.t 6))),
 ⟨some 17,none,(.callv 0 (.t 15) [(.t 16)])⟩,
 (kQ 18 1 74 [(.t 17),(iQ 2)]),
 (oQ 19 (.mv (.t 5))),
 (oQ 20 (.bin .eql (.t 19) (iQ 0))),
 (oQ 21 (.mv (.t 20))),
 (gQ 22 21 false (.mv (.t 6))),
 (gQ 23 21 false (.mv (.t 0))),
 (gQ 24 21 false (.mv (.t 5))),
 (gQ 25 21 false (.bin .sub (.t 24) (iQ 1))),
 (gQ 26 21 false (.mm true (iQ 0) (.t 25))),
 (gQ 27 21 false (.ia 1 (.t 23) (.t 26))),
 (gQ 28 21 false (.ld1 (.t 27))),
 (gQ 29 21 false (.bin .gtr (.t 22) (.t 28))),
 (oQ 30 (.pick (.t 21) (.c (.p (.bool true))) (.t 29))),
 (kQ 31 2 74 [(.t 30),(iQ 9)]),
 (oQ 32 (.bsl false 3 1 2 [zQ,zQ] [(0,1,(.t 18)),(1,1,(.t 31))])),
 (kQ 33 4 73 [(.t 32)]),
 (oQ 7 (.mv (.t 33)))])
 (.seq (.reg [(oQ 34 (.mv (.t 7))),
 (oQ 35 (.bin .neq (.t 34) (iQ 0)))])
 (.cond (.t 35) (.seq (.reg [(oQ 36 (.mv (.t 7))),
 (oQ 4 (.mv (.t 36)))])
 .ret) .skip)))))
 (.reg [(oQ 37 (.bin .add (.t 10) (iQ 1))),
 (oQ 10 (.mv (.t 37)))])))))))
 (.seq (.reg [(oQ 4 (.mv (iQ 0)))])
 .ret)))⟩
def A_ground_listErr__ground_isThickness:Nat→Ty := tyAt [.un,.un,.un,tQ,.un]
abbrev P_ground_listErr__ground_isThickness:List PSh := [.one (.sl tQ),.fn 76 []]
abbrev R_ground_listErr__ground_isThickness:List PSh := [.one tQ]
theorem e_ground_listErr__ground_isThickness:cFn Try.prog 91 = some F_ground_listErr__ground_isThickness.erase := by kernel_rfl
theorem k_ground_listErr__ground_isThickness:callable Try.prog 91 = true := by kernel_rfl
def F_slices_Equalint_int:TFn := ⟨26,0,[.tmp 4],
 (.seq (.reg [(oQ 4 (.mv (.c (.p (.bool false)))))])
 (.seq (.seq (.reg [(oQ 6 (.mv (.t 0))),
 (oQ 7 (.len false (.t 6))),
 (oQ 8 (.mv (.t 1))),
 (oQ 9 (.len false (.t 8))),
 (oQ 10 (.bin .neq (.t 7) (.t 9)))])
 (.cond (.t 10) (.seq (.reg [(oQ 4 (.mv (.c (.p (.bool false)))))])
 .ret) .skip))
 (.seq (.seq (.reg [(oQ 11 (.mv (.t 0))),
 (oQ 12 (.len false (.t 11))),
 (oQ 13 (.mv (iQ 0)))])
 (.block 0 (.loop [.v 13 tQ] [] [] (.seq (.reg [(oQ 14 (.bin .lss (.t 13) (.t 12)))])
 (.seq (.cond (.t 14) .skip (.exit 0))
 (.seq (.block 1 (.seq (.reg [(oQ 15 (.mv (.t 13))),
 (oQ 5 (.mv (.t 15)))])
 (.seq (.regd [(oQ 16 (.mv (.t 0))),
 (oQ 17 (.mv (.t 5))),
 (oQ 18 (.ia 1 (.t 16) (.t 17))),
 (oQ 19 (.ld1 (.t 18))),
 (oQ 20 (.mv (.t 1))),
 (oQ 21 (.mv (.t 5))),
 (oQ 22 (.ia 1 (.t 20) (.t 21))),
 (oQ 23 (.ld1 (.t 22))),
 (oQ 24 (.bin .neq (.t 19) (.t 23)))] [(3,7)] [])
 (.cond (.t 24) (.seq (.reg [(oQ 4 (.mv (.c (.p (.bool false)))))])
 .ret) .skip))))
 (.reg [(oQ 25 (.bin .add (.t 13) (iQ 1))),
 (oQ 13 (.mv (.t 25)))])))))))
 (.seq (.reg [(oQ 4 (.mv (.c (.p (.bool true)))))])
 .ret))))⟩
def A_slices_Equalint_int:Nat→Ty := tyAt []
abbrev P_slices_Equalint_int:List PSh := [.one (.sl tQ),.one (.sl tQ)]
abbrev R_slices_Equalint_int:List PSh := [.one .bool]
theorem e_slices_Equalint_int:cFn Try.prog 92 = some F_slices_Equalint_int.erase := by kernel_rfl
theorem k_slices_Equalint_int:callable Try.prog 92 = true := by kernel_rfl
def F_ground_open:TFn := ⟨14,3,[.celln 2 1,.tmp 3],
 (.seq (.reg [(oQ 1 (.box 0 (.t 0))),
 (oQ 2 (.newz 1 [(.p (.sl 0 [] true))])),
 (oQ 3 (.mv (iQ 0)))])
 (.seq (.reg [(oQ 7 (.ldn 1 (.t 1))),
 (kQ 8 2 28 [(.t 7)]),
 (oQ 6 (.mv (.t 8))),
 (oQ 9 (.ext 0 (.t 6))),
 (oQ 10 (.ext 1 (.t 6))),
 (oQ 4 (.mv (.t 9))),
 (oQ 5 (.mv (.t 10)))])
 (.seq (.reg [(oQ 11 (.ldn 1 (.t 1))),
 (oQ 12 (.build [(.p (.sl 0 [] true))] [(0,1,(.t 11))])),
 (oQ 13 (.mv (.t 5))),
 (uQ (.st 1 (.t 2) (.t 12))),
 (oQ 3 (.mv (.t 13)))])
 .ret)))⟩
def A_ground_open:Nat→Ty := tyAt [.un,.un,.un]
abbrev P_ground_open:List PSh := [.agg (.sl (.pr (.sl tQ) (.sl tQ)))]
abbrev R_ground_open:List PSh := [.agg (.sl (.pr (.sl tQ) (.sl tQ))),.one tQ]
theorem e_ground_open:cFn Try.prog 93 = some F_ground_open.erase := by kernel_rfl
theorem k_ground_open:callable Try.prog 93 = true := by kernel_rfl
def F_ground_class_count:TFn := ⟨25,2,[.tmp 2],
 (.seq (.reg [(oQ 1 (.box 0 (.t 0))),
 (oQ 2 (.mv (iQ 0)))])
 (.seq (.reg [(oQ 3 (.mv (iQ 1)))])
 (.seq (.seq (.reg [(oQ 6 (.fa 0 (.t 1))),
 (oQ 7 (.fa 0 (.t 6))),
 (oQ 8 (.ld1 (.t 7))),
 (oQ 9 (.len false (.t 8))),
 (oQ 10 (.mv (iQ 0)))])
 (.block 0 (.loop [.v 10 tQ,.v 3 tQ] [1] [1] (.seq (.reg [(oQ 11 (.bin .lss (.t 10) (.t 9)))])
 (.seq (.cond (.t 11) .skip (.exit 0))
 (.seq (.block 1 (.seq (.reg [(oQ 12 (.ia 2 (.t 8) (.t 10))),
 (oQ 13 (.ldn 2 (.t 12))),
 (oQ 5 (.newz 1 [(.p (.sl 0 [] true)),(.p (.sl 0 [] true))])),
 (uQ (.st 2 (.t 5) (.t 13)))])
 (.reg [(oQ 14 (.mv (.t 3))),
 (oQ 15 (.fa 0 (.t 5))),
 (oQ 16 (.ld1 (.t 15))),
 (oQ 17 (.len false (.t 16))),
 (oQ 18 (.fa 1 (.t 5))),
 (oQ 19 (.ld1 (.t 18))),
 (oQ 20 (.len false (.t 19))),
 (oQ 21 (.bin .mul (.t 17) (.t 20))),
 (oQ 22 (.bin .mul (.t 14) (.t 21))),
 (oQ 3 (.mv (.t 22)))])))
 (.reg [(oQ 23 (.bin .add (.t 10) (iQ 1))),
 (oQ 10 (.mv (.t 23)))])))))))
 (.seq (.reg [(oQ 24 (.mv (.t 3))),
 (oQ 2 (.mv (.t 24)))])
 .ret))))⟩
def A_ground_class_count:Nat→Ty := tyAt [.un,.un]
abbrev P_ground_class_count:List PSh := [.agg (.sl (.pr (.sl tQ) (.sl tQ)))]
abbrev R_ground_class_count:List PSh := [.one tQ]
theorem e_ground_class_count:cFn Try.prog 94 = some F_ground_class_count.erase := by kernel_rfl
theorem k_ground_class_count:callable Try.prog 94 = true := by kernel_rfl
def F_ground_within:TFn := ⟨15,0,[.tmp 6],
 (.seq (.reg [(oQ 6 (.mv (.c (.p (.bool false)))))])
 (.seq (.reg [(oQ 7 (.mv (.t 1))),
 (oQ 8 (.mv (.t 0))),
 (oQ 9 (.bin .leq (.t 7) (.t 8))),
 (oQ 10 (.mv (.t 9))),
 (gQ 11 10 true (.mv (.t 0))),
 (gQ 12 10 true (.mv (.t 2))),
 (gQ 13 10 true (.bin .leq (.t 11) (.t 12))),
 (oQ 14 (.pick (.t 10) (.t 13) (.c (.p (.bool false))))),
 (oQ 6 (.mv (.t 14)))])
 .ret))⟩
def A_ground_within:Nat→Ty := tyAt []
abbrev P_ground_within:List PSh := [.one tQ,.one tQ,.one tQ]
abbrev R_ground_within:List PSh := [.one .bool]
theorem e_ground_within:cFn Try.prog 95 = some F_ground_within.erase := by kernel_rfl
theorem k_ground_within:callable Try.prog 95 = true := by kernel_rfl
def F_ground_class_model:TFn := ⟨39,10,[.celln 4 1],
 (.seq (.reg [(oQ 2 (.box 0 (.t 0))),
 (oQ 3 (.box 1 (.t 1))),
 (oQ 4 (.newz 2 [(.p (.sl 0 [] true))]))])
 (.seq (.reg [(oQ 9 (.fa 0 (.t 2))),
 (oQ 10 (.fa 0 (.t 9))),
 (oQ 11 (.ld1 (.t 10))),
 (oQ 12 (.len false (.t 11))),
 (oQ 13 (.mk 3 2 16 [zQ,zQ] (.t 12))),
 (oQ 5 (.newz 4 [(.p (.sl 0 [] true))])),
 (uQ (.st 1 (.t 5) (.t 13)))])
 (.seq (.reg [(oQ 14 (.clo 132 [(.t 3)])),
 (oQ 6 (.newz 5 [.und])),
 (uQ (.st 1 (.t 6) (.t 14)))])
 (.seq (.seq (.reg [(oQ 15 (.fa 0 (.t 2))),
 (oQ 16 (.fa 0 (.t 15))),
 (oQ 17 (.ld1 (.t 16))),
 (kQ 18 6 133 [(.t 17)])])
 (.block 0 (.rng (.t 18) [19,20] [19,20,7,8,21,22,23,24,25,26,27,28,29,30,31,32,33,34,35,36] [.c 1 tQ,.d 3 pQ] [1,3,7] [7] (.seq (.reg [(oQ 7 (.mv (.t 19)))])
 (.reg [(oQ 8 (.newz 7 [(.p (.sl 0 [] true)),(.p (.sl 0 [] true))])),
 (uQ (.st 2 (.t 8) (.t 20)))]))
 (.block 1 (.seq (.regd [(oQ 21 (.ld1 (.t 5))),
 (oQ 22 (.mv (.t 7))),
 (oQ 23 (.ld1 (.t 6))),
 (oQ 24 (.fa 1 (.t 8))),
 (oQ 25 (.ld1 (.t 24))),
 ⟨some 26,none,(.callv 8 (.t 23) [(.t 25)])⟩,
 (oQ 27 (.ia 2 (.t 21) (.t 22))),
 (oQ 28 (.fa 1 (.t 27))),
 (uQ (.st 1 (.t 28) (.t 26)))] [(0,2),(0,4),(2,4),(0,5)] [])
 (.regd [(oQ 29 (.ld1 (.t 5))),
 (oQ 30 (.mv (.t 7))),
 (oQ 31 (.ld1 (.t 6))),
 (oQ 32 (.fa 0 (.t 8))),
 (oQ 33 (.ld1 (.t 32))),
 ⟨some 34,none,(.callv 9 (.t 31) [(.t 33)])⟩,
 (oQ 35 (.ia 2 (.t 29) (.t 30))),
 (oQ 36 (.fa 0 (.t 35))),
 (uQ (.st 1 (.t 36) (.t 34)))] [(0,2),(0,4),(2,4),(0,5)] []))))))
 (.seq (.reg [(oQ 37 (.ld1 (.t 5))),
 (oQ 38 (.build [(.p (.sl 0 [] true))] [(0,1,(.t 37))])),
 (uQ (.st 1 (.t 4) (.t 38)))])
 .ret)))))⟩
def A_ground_class_model:Nat→Ty := tyAt [.un,.un,.un,pQ,.un,.un,.un,.un,.un,.un]
abbrev P_ground_class_model:List PSh := [.agg (.sl (.pr (.sl tQ) (.sl tQ))),.one tQ]
abbrev R_ground_class_model:List PSh := [.agg (.sl pQ)]
theorem e_ground_class_model:cFn Try.prog 96 = some F_ground_class_model.erase := by kernel_rfl
theorem k_ground_class_model:callable Try.prog 96 = true := by kernel_rfl
def F_ground_class_models:TFn := ⟨18,4,[],
 (.seq (.reg [(oQ 2 (.box 0 (.t 0)))])
 (.seq (.reg [(oQ 5 (.ldn 1 (.t 2))),
 (kQ 6 1 94 [(.t 5)]),
 (oQ 7 (.mv (iQ 0)))])
 (.block 0 (.loop [] [] [] (.seq (.reg [(oQ 8 (.bin .lss (.t 7) (.t 6)))])
 (.seq (.cond (.t 8) .skip (.exit 0))
 (.seq (.block 1 (.seq (.reg [(oQ 9 (.mv (.t 7))),
 (oQ 4 (.mv (.t 9)))])
 (.seq (.reg [(oQ 10 (.mv (.t 1))),
 (oQ 11 (.mv (.t 4))),
 (oQ 12 (.ldn 1 (.t 2))),
 (oQ 13 (.mv (.t 4))),
 (kQ 14 2 96 [(.t 12),(.t 13)]),
 ⟨some 15,none,(.callv 3 (.t 10) [(.t 11),(.t 14)])⟩,
 (oQ 16 (.unot (.t 15)))])
 (.cond (.t 16) .ret .skip))))
 (.reg [(oQ 17 (.bin .add (.t 7) (iQ 1))),
 (oQ 7 (.mv (.t 17)))]))))))))⟩
theorem e_ground_class_models:cFn Try.prog 97 = some F_ground_class_models.erase := by kernel_rfl
theorem k_ground_class_models:callI Try.prog 1000000097 = true := by kernel_rfl
def F_slices_Equalapi_GroundLayer_api_GroundLayer:TFn := ⟨26,0,[.tmp 4],
 (.seq (.reg [(oQ 4 (.mv (.c (.p (.bool false)))))])
 (.seq (.seq (.reg [(oQ 6 (.mv (.t 0))),
 (oQ 7 (.len false (.t 6))),
 (oQ 8 (.mv (.t 1))),
 (oQ 9 (.len false (.t 8))),
 (oQ 10 (.bin .neq (.t 7) (.t 9)))])
 (.cond (.t 10) (.seq (.reg [(oQ 4 (.mv (.c (.p (.bool false)))))])
 .ret) .skip))
 (.seq (.seq (.reg [(oQ 11 (.mv (.t 0))),
 (oQ 12 (.len false (.t 11))),
 (oQ 13 (.mv (iQ 0)))])
 (.block 0 (.loop [.v 13 tQ] [] [] (.seq (.reg [(oQ 14 (.bin .lss (.t 13) (.t 12)))])
 (.seq (.cond (.t 14) .skip (.exit 0))
 (.seq (.block 1 (.seq (.reg [(oQ 15 (.mv (.t 13))),
 (oQ 5 (.mv (.t 15)))])
 (.seq (.regd [(oQ 16 (.mv (.t 0))),
 (oQ 17 (.mv (.t 5))),
 (oQ 18 (.ia 2 (.t 16) (.t 17))),
 (oQ 19 (.ldn 2 (.t 18))),
 (oQ 20 (.mv (.t 1))),
 (oQ 21 (.mv (.t 5))),
 (oQ 22 (.ia 2 (.t 20) (.t 21))),
 (oQ 23 (.ldn 2 (.t 22))),
 (oQ 24 (.eqa true 2 [(true,0),(true,1)] (.t 19) (.t 23)))] [(3,7)] [])
 (.cond (.t 24) (.seq (.reg [(oQ 4 (.mv (.c (.p (.bool false)))))])
 .ret) .skip))))
 (.reg [(oQ 25 (.bin .add (.t 13) (iQ 1))),
 (oQ 13 (.mv (.t 25)))])))))))
 (.seq (.reg [(oQ 4 (.mv (.c (.p (.bool true)))))])
 .ret))))⟩
theorem e_slices_Equalapi_GroundLayer_api_GroundLayer:cFn Try.prog 98 = some F_slices_Equalapi_GroundLayer_api_GroundLayer.erase := by kernel_rfl
def F_ref04_choiceErr:TFn := ⟨47,2,[.tmp 4],
 (.seq (.reg [(oQ 4 (.mv (iQ 0)))])
 (.seq (.seq (.reg [(oQ 5 (.mv (iQ 0)))])
 (.block 0 (.loop [.v 5 tQ] [] [] (.seq (.seq (.reg [(oQ 6 (.mv (.t 5))),
 (oQ 7 (.mv (.t 0))),
 (oQ 8 (.len false (.t 7))),
 (oQ 9 (.bin .lss (.t 6) (.t 8)))])
 (.cond (.t 9) .skip (.exit 0)))
 (.seq (.block 1 (.seq (.seq (.reg [(oQ 12 (.mv (.t 1))),
 (oQ 13 (.mv (.t 12))),
 (gQ 14 13 true (.mv (.t 0))),
 (gQ 15 13 true (.mv (.t 5))),
 (gQ 16 13 true (.ia 1 (.t 14) (.t 15))),
 (gQ 17 13 true (.ld1 (.t 16))),
 ⟨some 18,some (some 13,true),(.call 0 81 [(.t 17)])⟩,
 (gQ 19 13 true (.unot (.t 18))),
 (oQ 20 (.pick (.t 13) (.t 19) (.c (.p (.bool false))))),
 (oQ 21 (.mv (.t 20))),
 (gQ 22 21 false (.mv (.t 1))),
 (gQ 23 21 false (.unot (.t 22))),
 (gQ 24 21 false (.mv (.t 23))),
 (gQ 25 24 true (.mv (.t 0))),
 (gQ 26 24 true (.mv (.t 5))),
 (gQ 27 24 true (.ia 1 (.t 25) (.t 26))),
 (gQ 28 24 true (.ld1 (.t 27))),
 ⟨some 29,some (some 24,true),(.call 1 82 [(.t 28)])⟩,
 (gQ 30 24 true (.unot (.t 29))),
 (gQ 31 21 false (.pick (.t 24) (.t 30) (.c (.p (.bool false))))),
 (oQ 32 (.pick (.t 21) (.c (.p (.bool true))) (.t 31)))])
 (.cond (.t 32) (.seq (.reg [(oQ 4 (.mv (iQ 2)))])
 .ret) .skip))
 (.seq (.regd [(oQ 33 (.mv (.t 5))),
 (oQ 34 (.bin .gtr (.t 33) (iQ 0))),
 (oQ 35 (.mv (.t 34))),
 (gQ 36 35 true (.mv (.t 0))),
 (gQ 37 35 true (.mv (.t 5))),
 (gQ 38 35 true (.ia 1 (.t 36) (.t 37))),
 (gQ 39 35 true (.ld1 (.t 38))),
 (gQ 40 35 true (.mv (.t 0))),
 (gQ 41 35 true (.mv (.t 5))),
 (gQ 42 35 true (.bin .sub (.t 41) (iQ 1))),
 (gQ 43 35 true (.ia 1 (.t 40) (.t 42))),
 (gQ 44 35 true (.ld1 (.t 43))),
 (gQ 45 35 true (.bin .leq (.t 39) (.t 44))),
 (oQ 46 (.pick (.t 35) (.t 45) (.c (.p (.bool false)))))] [(6,11)] [])
 (.cond (.t 46) (.seq (.reg [(oQ 4 (.mv (iQ 9)))])
 .ret) .skip))))
 (.reg [(oQ 10 (.mv (.t 5))),
 (oQ 11 (.bin .add (.t 10) (iQ 1))),
 (oQ 5 (.mv (.t 11)))]))))))
 (.seq (.reg [(oQ 4 (.mv (iQ 0)))])
 .ret)))⟩
def A_ref04_choiceErr:Nat→Ty := tyAt [.un,.un]
abbrev P_ref04_choiceErr:List PSh := [.one (.sl tQ),.one .bool]
abbrev R_ref04_choiceErr:List PSh := [.one tQ]
theorem e_ref04_choiceErr:cFn Try.prog 99 = some F_ref04_choiceErr.erase := by kernel_rfl
theorem k_ref04_choiceErr:callable Try.prog 99 = true := by kernel_rfl
def F_ground_dataErr:TFn := ⟨11,1,[.tmp 2],
 (.seq (.reg [(oQ 2 (.mv (iQ 0)))])
 (.seq (.reg [(oQ 6 (.mv (.t 0))),
 (kQ 7 0 52 [(.t 6)]),
 (oQ 5 (.mv (.t 7))),
 (oQ 8 (.ext 0 (.t 5))),
 (oQ 9 (.ext 1 (.t 5))),
 (oQ 3 (.mv (.t 8))),
 (oQ 4 (.mv (.t 9)))])
 (.seq (.reg [(oQ 10 (.mv (.t 4))),
 (oQ 2 (.mv (.t 10)))])
 .ret)))⟩
def A_ground_dataErr:Nat→Ty := tyAt [.un]
abbrev P_ground_dataErr:List PSh := [.one (.sl (.pr tQ pQ))]
abbrev R_ground_dataErr:List PSh := [.one tQ]
theorem e_ground_dataErr:cFn Try.prog 101 = some F_ground_dataErr.erase := by kernel_rfl
theorem k_ground_dataErr:callable Try.prog 101 = true := by kernel_rfl
def F_ground_below:TFn := ⟨15,2,[.tmp 4],
 (.seq (.reg [(oQ 2 (.box 0 (.t 0))),
 (oQ 3 (.box 1 (.t 1))),
 (oQ 4 (.mv (.c (.p (.bool false)))))])
 (.seq (.reg [(oQ 5 (.fa 0 (.t 2))),
 (oQ 6 (.ld1 (.t 5))),
 (oQ 7 (.bin .mul (iQ 1000) (.t 6))),
 (oQ 8 (.fa 1 (.t 3))),
 (oQ 9 (.fa 0 (.t 8))),
 (oQ 10 (.ld1 (.t 9))),
 (oQ 11 (.fa 1 (.t 2))),
 (oQ 12 (.ld1 (.t 11))),
 (oQ 13 (.bin .mul (.t 10) (.t 12))),
 (oQ 14 (.bin .lss (.t 7) (.t 13))),
 (oQ 4 (.mv (.t 14)))])
 .ret))⟩
def A_ground_below:Nat→Ty := tyAt [.un,.un]
abbrev P_ground_below:List PSh := [.agg pQ,.agg (.pr tQ pQ)]
abbrev R_ground_below:List PSh := [.one .bool]
theorem e_ground_below:cFn Try.prog 102 = some F_ground_below.erase := by kernel_rfl
theorem k_ground_below:callable Try.prog 102 = true := by kernel_rfl
def F_ground_beyond:TFn := ⟨15,2,[.tmp 4],
 (.seq (.reg [(oQ 2 (.box 0 (.t 0))),
 (oQ 3 (.box 1 (.t 1))),
 (oQ 4 (.mv (.c (.p (.bool false)))))])
 (.seq (.reg [(oQ 5 (.fa 0 (.t 2))),
 (oQ 6 (.ld1 (.t 5))),
 (oQ 7 (.bin .mul (iQ 1000) (.t 6))),
 (oQ 8 (.fa 1 (.t 3))),
 (oQ 9 (.fa 1 (.t 8))),
 (oQ 10 (.ld1 (.t 9))),
 (oQ 11 (.fa 1 (.t 2))),
 (oQ 12 (.ld1 (.t 11))),
 (oQ 13 (.bin .mul (.t 10) (.t 12))),
 (oQ 14 (.bin .gtr (.t 7) (.t 13))),
 (oQ 4 (.mv (.t 14)))])
 .ret))⟩
def A_ground_beyond:Nat→Ty := tyAt [.un,.un]
abbrev P_ground_beyond:List PSh := [.agg pQ,.agg (.pr tQ pQ)]
abbrev R_ground_beyond:List PSh := [.one .bool]
theorem e_ground_beyond:cFn Try.prog 103 = some F_ground_beyond.erase := by kernel_rfl
theorem k_ground_beyond:callable Try.prog 103 = true := by kernel_rfl
def F_ground_explainsAll:TFn := ⟨9,2,[.tmp 4],
 (.seq (.reg [(oQ 2 (.box 0 (.t 0))),
 (oQ 4 (.mv (.c (.p (.bool false)))))])
 (.seq (.reg [(oQ 5 (.mv (.t 1))),
 (oQ 6 (.clo 136 [(.t 2)])),
 (kQ 7 1 135 [(.t 5),(.t 6)]),
 (oQ 8 (.unot (.t 7))),
 (oQ 4 (.mv (.t 8)))])
 .ret))⟩
def A_ground_explainsAll:Nat→Ty := tyAt [.un,.un]
abbrev P_ground_explainsAll:List PSh := [.agg (.sl pQ),.one (.sl (.pr tQ pQ))]
abbrev R_ground_explainsAll:List PSh := [.one .bool]
theorem e_ground_explainsAll:cFn Try.prog 106 = some F_ground_explainsAll.erase := by kernel_rfl
theorem k_ground_explainsAll:callable Try.prog 106 = true := by kernel_rfl
def F_ground_openData:TFn := ⟨19,7,[.celln 4 1,.tmp 5],
 (.seq (.reg [(oQ 2 (.box 0 (.t 0))),
 (oQ 4 (.newz 1 [(.p (.sl 0 [] true))])),
 (oQ 5 (.mv (iQ 0)))])
 (.seq (.reg [(oQ 9 (.ldn 1 (.t 2))),
 (kQ 10 2 93 [(.t 9)]),
 (oQ 8 (.mv (.t 10))),
 (oQ 11 (.ext 0 (.t 8))),
 (oQ 12 (.ext 1 (.t 8))),
 (oQ 6 (.newz 3 [(.p (.sl 0 [] true))])),
 (uQ (.st 1 (.t 6) (.t 11))),
 (oQ 7 (.mv (.t 12)))])
 (.seq (.regd [(oQ 13 (.ldn 1 (.t 6))),
 (oQ 14 (.mv (.t 7))),
 (oQ 15 (.mv (.t 1))),
 (kQ 16 4 101 [(.t 15)]),
 (oQ 17 (.bsl false 5 1 2 [zQ,zQ] [(0,1,(.t 14)),(1,1,(.t 16))])),
 (kQ 18 6 73 [(.t 17)]),
 (uQ (.st 1 (.t 4) (.t 13))),
 (oQ 5 (.mv (.t 18)))] [(0,3),(0,5)] [])
 .ret)))⟩
def A_ground_openData:Nat→Ty := tyAt [.un,.un,.un,.un,.un,tQ,.un]
abbrev P_ground_openData:List PSh := [.agg (.sl (.pr (.sl tQ) (.sl tQ))),.one (.sl (.pr tQ pQ))]
abbrev R_ground_openData:List PSh := [.agg (.sl (.pr (.sl tQ) (.sl tQ))),.one tQ]
theorem e_ground_openData:cFn Try.prog 107 = some F_ground_openData.erase := by kernel_rfl
theorem k_ground_openData:callable Try.prog 107 = true := by kernel_rfl
def F_ground_class_explained:TFn := ⟨20,7,[.tmp 4],
 (.seq (.reg [(oQ 2 (.box 0 (.t 0))),
 (oQ 3 (.box 1 (.t 1))),
 (oQ 4 (.mv (.c (.p (.sl 0 [] true)))))])
 (.seq (.reg [(oQ 5 (.newz 2 [(.p (.sl 0 [] true))]))])
 (.seq (.seq (.reg [(oQ 8 (.ldn 1 (.t 2))),
 (oQ 9 (.bnd 1000000097 (.t 8)))])
 (.block 0 (.rng (.t 9) [10,11] [10,11,6,7,12,13,14,15,16,17,18] [.q 2 6 tQ] [2,3,6] [3,6] (.seq (.reg [(oQ 6 (.mv (.t 10)))])
 (.reg [(oQ 7 (.newz 3 [(.p (.sl 0 [] true))])),
 (uQ (.st 1 (.t 7) (.t 11)))]))
 (.block 1 (.seq (.reg [(oQ 12 (.ldn 1 (.t 7))),
 (oQ 13 (.ld1 (.t 3))),
 (kQ 14 4 106 [(.t 12),(.t 13)])])
 (.cond (.t 14) (.reg [(oQ 15 (.ld1 (.t 5))),
 (oQ 16 (.mv (.t 6))),
 (oQ 17 (.bsl false 5 1 1 [zQ] [(0,1,(.t 16))])),
 (oQ 18 (.app 6 1 8 (.t 15) (.t 17))),
 (uQ (.st 1 (.t 5) (.t 18)))]) .skip))))))
 (.seq (.reg [(oQ 19 (.ld1 (.t 5))),
 (oQ 4 (.mv (.t 19)))])
 .ret))))⟩
def A_ground_class_explained:Nat→Ty := tyAt [.un,.un,.un,.un,.un,tQ,tQ]
abbrev P_ground_class_explained:List PSh := [.agg (.sl (.pr (.sl tQ) (.sl tQ))),.one (.sl (.pr tQ pQ))]
abbrev R_ground_class_explained:List PSh := [.one (.sl tQ)]
theorem e_ground_class_explained:cFn Try.prog 108 = some F_ground_class_explained.erase := by kernel_rfl
theorem k_ground_class_explained:callable Try.prog 108 = true := by kernel_rfl
def F_ground_widened:TFn := ⟨14,2,[.celln 4 2],
 (.seq (.reg [(oQ 2 (.box 0 (.t 0))),
 (oQ 4 (.newz 1 [zQ,zQ]))])
 (.seq (.reg [(oQ 5 (.fa 0 (.t 2))),
 (oQ 6 (.ld1 (.t 5))),
 (oQ 7 (.mv (.t 1))),
 (oQ 8 (.mm false (.t 6) (.t 7))),
 (oQ 9 (.fa 1 (.t 2))),
 (oQ 10 (.ld1 (.t 9))),
 (oQ 11 (.mv (.t 1))),
 (oQ 12 (.mm true (.t 10) (.t 11))),
 (oQ 13 (.build [zQ,zQ] [(0,1,(.t 8)),(1,1,(.t 12))])),
 (uQ (.st 2 (.t 4) (.t 13)))])
 .ret))⟩
def A_ground_widened:Nat→Ty := tyAt [.un,.un]
abbrev P_ground_widened:List PSh := [.agg pQ,.one tQ]
abbrev R_ground_widened:List PSh := [.agg pQ]
theorem e_ground_widened:cFn Try.prog 109 = some F_ground_widened.erase := by kernel_rfl
theorem k_ground_widened:callable Try.prog 109 = true := by kernel_rfl
def F_ground_CheckData_1:TFn := ⟨5,1,[.tmp 2],
 (.seq (.reg [(oQ 2 (.mv (.c (.p (.bool false)))))])
 (.seq (.reg [(oQ 3 (.mv (.t 0))),
 (kQ 4 0 95 [(.t 3),(iQ 0),(iQ 100000)]),
 (oQ 2 (.mv (.t 4)))])
 .ret))⟩
def A_ground_CheckData_1:Nat→Ty := tyAt [.un]
abbrev P_ground_CheckData_1:List PSh := [.one tQ]
abbrev R_ground_CheckData_1:List PSh := [.one .bool]
theorem e_ground_CheckData_1:cFn Try.prog 110 = some F_ground_CheckData_1.erase := by kernel_rfl
theorem k_ground_CheckData_1:callable Try.prog 110 = true := by kernel_rfl
def F_ground_disagree:TFn := ⟨37,4,[.tmp 6],
 (.seq (.reg [(oQ 3 (.box 0 (.t 0))),
 (oQ 4 (.box 1 (.t 1))),
 (oQ 6 (.mv (.c (.p (.bool false)))))])
 (.seq (.seq (.reg [(oQ 10 (.fa 0 (.t 3))),
 (oQ 11 (.ld1 (.t 10))),
 (oQ 12 (.len false (.t 11))),
 (oQ 13 (.mv (iQ 0)))])
 (.block 0 (.loop [.v 13 tQ] [2,3] [2,3] (.seq (.reg [(oQ 14 (.bin .lss (.t 13) (.t 12)))])
 (.seq (.cond (.t 14) .skip (.exit 0))
 (.seq (.block 1 (.seq (.reg [(oQ 15 (.mv (.t 13))),
 (oQ 16 (.ia 2 (.t 11) (.t 13))),
 (oQ 17 (.ldn 2 (.t 16))),
 (oQ 8 (.newz 2 [zQ,zQ])),
 (oQ 7 (.mv (.t 15))),
 (uQ (.st 2 (.t 8) (.t 17)))])
 (.seq (.reg [(oQ 18 (.fa 0 (.t 4))),
 (oQ 19 (.ld1 (.t 18))),
 (oQ 20 (.mv (.t 7))),
 (oQ 21 (.ia 2 (.t 19) (.t 20))),
 (oQ 22 (.ldn 2 (.t 21))),
 (oQ 9 (.newz 3 [zQ,zQ])),
 (uQ (.st 2 (.t 9) (.t 22)))])
 (.seq (.reg [(oQ 23 (.fa 0 (.t 8))),
 (oQ 24 (.ld1 (.t 23))),
 (oQ 25 (.fa 0 (.t 9))),
 (oQ 26 (.ld1 (.t 25))),
 (oQ 27 (.mm true (.t 24) (.t 26))),
 (oQ 28 (.fa 0 (.t 8))),
 (oQ 29 (.ld1 (.t 28))),
 (oQ 30 (.fa 0 (.t 9))),
 (oQ 31 (.ld1 (.t 30))),
 (oQ 32 (.mm false (.t 29) (.t 31))),
 (oQ 33 (.bin .sub (.t 27) (.t 32))),
 (oQ 34 (.mv (.t 2))),
 (oQ 35 (.bin .geq (.t 33) (.t 34)))])
 (.cond (.t 35) (.seq (.reg [(oQ 6 (.mv (.c (.p (.bool true)))))])
 .ret) .skip)))))
 (.reg [(oQ 36 (.bin .add (.t 13) (iQ 1))),
 (oQ 13 (.mv (.t 36)))])))))))
 (.seq (.reg [(oQ 6 (.mv (.c (.p (.bool false)))))])
 .ret)))⟩
theorem e_ground_disagree:cFn Try.prog 124 = some F_ground_disagree.erase := by kernel_rfl
def F_slices_Backwardapi_GroundLayer_api_GroundLayer:TFn := ⟨4,1,[.tmp 2],
 (.seq (.reg [(oQ 1 (.box 0 (.t 0))),
 (oQ 2 (.mv (.c .und)))])
 (.seq (.reg [(oQ 3 (.clo 144 [(.t 1)])),
 (oQ 2 (.mv (.t 3)))])
 .ret))⟩
def A_slices_Backwardapi_GroundLayer_api_GroundLayer:Nat→Ty := tyAt [.un]
abbrev P_slices_Backwardapi_GroundLayer_api_GroundLayer:List PSh := [.one (.sl pQ)]
abbrev R_slices_Backwardapi_GroundLayer_api_GroundLayer:List PSh := [.fn 144 [(.sl pQ)]]
theorem e_slices_Backwardapi_GroundLayer_api_GroundLayer:cFn Try.prog 125 = some F_slices_Backwardapi_GroundLayer_api_GroundLayer.erase := by kernel_rfl
theorem k_slices_Backwardapi_GroundLayer_api_GroundLayer:callable Try.prog 125 = true := by kernel_rfl
def F_slices_Backwardapi_GroundLayer_api_GroundLayer_1:TFn := ⟨19,1,[],
 (.seq (.reg [(oQ 4 (.ld1 (.t 1))),
 (oQ 5 (.len false (.t 4))),
 (oQ 6 (.bin .sub (.t 5) (iQ 1))),
 (oQ 3 (.mv (.t 6)))])
 (.block 0 (.loop [] [] [] (.seq (.seq (.reg [(oQ 7 (.mv (.t 3))),
 (oQ 8 (.bin .geq (.t 7) (iQ 0)))])
 (.cond (.t 8) .skip (.exit 0)))
 (.seq (.block 1 (.seq (.reg [(oQ 11 (.mv (.t 0))),
 (oQ 12 (.mv (.t 3))),
 (oQ 13 (.ld1 (.t 1))),
 (oQ 14 (.mv (.t 3))),
 (oQ 15 (.ia 2 (.t 13) (.t 14))),
 (oQ 16 (.ldn 2 (.t 15))),
 ⟨some 17,none,(.callv 0 (.t 11) [(.t 12),(.t 16)])⟩,
 (oQ 18 (.unot (.t 17)))])
 (.cond (.t 18) .ret .skip)))
 (.reg [(oQ 9 (.mv (.t 3))),
 (oQ 10 (.bin .sub (.t 9) (iQ 1))),
 (oQ 3 (.mv (.t 10)))]))))))⟩
theorem e_slices_Backwardapi_GroundLayer_api_GroundLayer_1:cFn Try.prog 144 = some F_slices_Backwardapi_GroundLayer_api_GroundLayer_1.erase := by kernel_rfl
theorem k_slices_Backwardapi_GroundLayer_api_GroundLayer_1:callI Try.prog 144 = true := by kernel_rfl
def F_ground_reduced:TFn := ⟨16,2,[.celln 4 2],
 (.seq (.reg [(oQ 4 (.newz 0 [zQ,zQ]))])
 (.seq (.reg [(oQ 6 (.mv (.t 0))),
 (oQ 7 (.mv (.t 1))),
 (kQ 8 1 145 [(.t 6),(.t 7)]),
 (oQ 5 (.mv (.t 8)))])
 (.seq (.regd [(oQ 9 (.mv (.t 0))),
 (oQ 10 (.mv (.t 5))),
 (oQ 11 (.bin .quo (.t 9) (.t 10))),
 (oQ 12 (.mv (.t 1))),
 (oQ 13 (.mv (.t 5))),
 (oQ 14 (.bin .quo (.t 12) (.t 13))),
 (oQ 15 (.build [zQ,zQ] [(0,1,(.t 11)),(1,1,(.t 14))])),
 (uQ (.st 2 (.t 4) (.t 15)))] [] [])
 .ret)))⟩
def A_ground_reduced:Nat→Ty := tyAt [.un,.un]
abbrev P_ground_reduced:List PSh := [.one tQ,.one tQ]
abbrev R_ground_reduced:List PSh := [.agg pQ]
theorem e_ground_reduced:cFn Try.prog 126 = some F_ground_reduced.erase := by kernel_rfl
theorem k_ground_reduced:callable Try.prog 126 = true := by kernel_rfl
def F_slices_Backwardapi_GroundChoice_api_GroundChoice:TFn := ⟨4,1,[.tmp 2],
 (.seq (.reg [(oQ 1 (.box 0 (.t 0))),
 (oQ 2 (.mv (.c .und)))])
 (.seq (.reg [(oQ 3 (.clo 152 [(.t 1)])),
 (oQ 2 (.mv (.t 3)))])
 .ret))⟩
def A_slices_Backwardapi_GroundChoice_api_GroundChoice:Nat→Ty := tyAt [.un]
abbrev P_slices_Backwardapi_GroundChoice_api_GroundChoice:List PSh := [.one (.sl (.pr (.sl tQ) (.sl tQ)))]
abbrev R_slices_Backwardapi_GroundChoice_api_GroundChoice:List PSh := [.fn 152 [(.sl (.pr (.sl tQ) (.sl tQ)))]]
theorem e_slices_Backwardapi_GroundChoice_api_GroundChoice:cFn Try.prog 133 = some F_slices_Backwardapi_GroundChoice_api_GroundChoice.erase := by kernel_rfl
theorem k_slices_Backwardapi_GroundChoice_api_GroundChoice:callable Try.prog 133 = true := by kernel_rfl
def F_slices_Backwardapi_GroundChoice_api_GroundChoice_1:TFn := ⟨19,1,[],
 (.seq (.reg [(oQ 4 (.ld1 (.t 1))),
 (oQ 5 (.len false (.t 4))),
 (oQ 6 (.bin .sub (.t 5) (iQ 1))),
 (oQ 3 (.mv (.t 6)))])
 (.block 0 (.loop [] [] [] (.seq (.seq (.reg [(oQ 7 (.mv (.t 3))),
 (oQ 8 (.bin .geq (.t 7) (iQ 0)))])
 (.cond (.t 8) .skip (.exit 0)))
 (.seq (.block 1 (.seq (.reg [(oQ 11 (.mv (.t 0))),
 (oQ 12 (.mv (.t 3))),
 (oQ 13 (.ld1 (.t 1))),
 (oQ 14 (.mv (.t 3))),
 (oQ 15 (.ia 2 (.t 13) (.t 14))),
 (oQ 16 (.ldn 2 (.t 15))),
 ⟨some 17,none,(.callv 0 (.t 11) [(.t 12),(.t 16)])⟩,
 (oQ 18 (.unot (.t 17)))])
 (.cond (.t 18) .ret .skip)))
 (.reg [(oQ 9 (.mv (.t 3))),
 (oQ 10 (.bin .sub (.t 9) (iQ 1))),
 (oQ 3 (.mv (.t 10)))]))))))⟩
theorem e_slices_Backwardapi_GroundChoice_api_GroundChoice_1:cFn Try.prog 152 = some F_slices_Backwardapi_GroundChoice_api_GroundChoice_1.erase := by kernel_rfl
theorem k_slices_Backwardapi_GroundChoice_api_GroundChoice_1:callI Try.prog 152 = true := by kernel_rfl
def F_ground_class_model_1:TFn := ⟨17,0,[.tmp 3],
 (.seq (.reg [(oQ 3 (.mv (iQ 0)))])
 (.seq (.reg [(oQ 5 (.mv (.t 0))),
 (oQ 6 (.ld1 (.t 1))),
 (oQ 7 (.mv (.t 0))),
 (oQ 8 (.len false (.t 7))),
 (oQ 9 (.bin .rem (.t 6) (.t 8))),
 (oQ 10 (.ia 1 (.t 5) (.t 9))),
 (oQ 11 (.ld1 (.t 10))),
 (oQ 4 (.mv (.t 11)))])
 (.seq (.reg [(oQ 12 (.ld1 (.t 1))),
 (oQ 13 (.mv (.t 0))),
 (oQ 14 (.len false (.t 13))),
 (oQ 15 (.bin .quo (.t 12) (.t 14))),
 (uQ (.st 1 (.t 1) (.t 15)))])
 (.seq (.reg [(oQ 16 (.mv (.t 4))),
 (oQ 3 (.mv (.t 16)))])
 .ret))))⟩
def A_ground_class_model_1:Nat→Ty := tyAt [.un]
abbrev U_ground_class_model_1:Ty := (.sl tQ)
abbrev T_ground_class_model_1:Ty := tQ
abbrev V_ground_class_model_1:Ty := tQ
theorem e_ground_class_model_1:cFnM Try.prog 132 = some F_ground_class_model_1.erase := by kernel_rfl
theorem k_ground_class_model_1:callable Try.prog 132 = true := by kernel_rfl
def F_slices_ContainsFuncapi_GroundDatum_api_GroundDatum__ground_explainsAll_1:TFn := ⟨9,1,[.tmp 4],
 (.seq (.reg [(oQ 4 (.mv (.c (.p (.bool false)))))])
 (.seq (.reg [(oQ 5 (.mv (.t 0))),
 (oQ 6 (.mv (.t 1))),
 (kQ 7 0 154 [(.t 5),(.t 6)]),
 (oQ 8 (.bin .geq (.t 7) (iQ 0))),
 (oQ 4 (.mv (.t 8)))])
 .ret))⟩
def A_slices_ContainsFuncapi_GroundDatum_api_GroundDatum__ground_explainsAll_1:Nat→Ty := tyAt [.un]
abbrev P_slices_ContainsFuncapi_GroundDatum_api_GroundDatum__ground_explainsAll_1:List PSh := [.one (.sl (.pr tQ pQ)),.fn 136 [(.sl pQ)]]
abbrev R_slices_ContainsFuncapi_GroundDatum_api_GroundDatum__ground_explainsAll_1:List PSh := [.one .bool]
theorem e_slices_ContainsFuncapi_GroundDatum_api_GroundDatum__ground_explainsAll_1:cFn Try.prog 135 = some F_slices_ContainsFuncapi_GroundDatum_api_GroundDatum__ground_explainsAll_1.erase := by kernel_rfl
theorem k_slices_ContainsFuncapi_GroundDatum_api_GroundDatum__ground_explainsAll_1:callable Try.prog 135 = true := by kernel_rfl
def F_ground_divisor:TFn := ⟨13,0,[.tmp 4],
 (.seq (.reg [(oQ 4 (.mv (iQ 0)))])
 (.seq (.block 0 (.loop [.v 1 tQ,.v 0 tQ] [] [] (.seq (.seq (.reg [(oQ 5 (.mv (.t 1))),
 (oQ 6 (.bin .neq (.t 5) (iQ 0)))])
 (.cond (.t 6) .skip (.exit 0)))
 (.block 1 (.regd [(oQ 7 (.mv (.t 1))),
 (oQ 8 (.mv (.t 0))),
 (oQ 9 (.mv (.t 1))),
 (oQ 10 (.bin .rem (.t 8) (.t 9))),
 (oQ 0 (.mv (.t 7))),
 (oQ 1 (.mv (.t 10)))] [] [])))))
 (.seq (.reg [(oQ 11 (.mv (.t 0))),
 (oQ 12 (.mm true (.t 11) (iQ 1))),
 (oQ 4 (.mv (.t 12)))])
 .ret)))⟩
def A_ground_divisor:Nat→Ty := tyAt []
abbrev P_ground_divisor:List PSh := [.one tQ,.one tQ]
abbrev R_ground_divisor:List PSh := [.one tQ]
theorem e_ground_divisor:cFn Try.prog 145 = some F_ground_divisor.erase := by kernel_rfl
theorem k_ground_divisor:callable Try.prog 145 = true := by kernel_rfl
def F_slices_IndexFuncapi_GroundDatum_api_GroundDatum__ground_explainsAll_1:TFn := ⟨19,1,[.tmp 4],
 (.seq (.reg [(oQ 4 (.mv (iQ 0)))])
 (.seq (.seq (.reg [(oQ 6 (.mv (.t 0))),
 (oQ 7 (.len false (.t 6))),
 (oQ 8 (.mv (iQ 0)))])
 (.block 0 (.loop [.v 8 tQ] [] [] (.seq (.reg [(oQ 9 (.bin .lss (.t 8) (.t 7)))])
 (.seq (.cond (.t 9) .skip (.exit 0))
 (.seq (.block 1 (.seq (.reg [(oQ 10 (.mv (.t 8))),
 (oQ 5 (.mv (.t 10)))])
 (.seq (.reg [(oQ 11 (.mv (.t 1))),
 (oQ 12 (.mv (.t 0))),
 (oQ 13 (.mv (.t 5))),
 (oQ 14 (.ia 3 (.t 12) (.t 13))),
 (oQ 15 (.ldn 3 (.t 14))),
 ⟨some 16,none,(.callv 0 (.t 11) [(.t 15)])⟩])
 (.cond (.t 16) (.seq (.reg [(oQ 17 (.mv (.t 5))),
 (oQ 4 (.mv (.t 17)))])
 .ret) .skip))))
 (.reg [(oQ 18 (.bin .add (.t 8) (iQ 1))),
 (oQ 8 (.mv (.t 18)))])))))))
 (.seq (.reg [(oQ 4 (.mv (iQ (-1))))])
 .ret)))⟩
def A_slices_IndexFuncapi_GroundDatum_api_GroundDatum__ground_explainsAll_1:Nat→Ty := tyAt [.un]
abbrev P_slices_IndexFuncapi_GroundDatum_api_GroundDatum__ground_explainsAll_1:List PSh := [.one (.sl (.pr tQ pQ)),.fn 136 [(.sl pQ)]]
abbrev R_slices_IndexFuncapi_GroundDatum_api_GroundDatum__ground_explainsAll_1:List PSh := [.one tQ]
theorem e_slices_IndexFuncapi_GroundDatum_api_GroundDatum__ground_explainsAll_1:cFn Try.prog 154 = some F_slices_IndexFuncapi_GroundDatum_api_GroundDatum__ground_explainsAll_1.erase := by kernel_rfl
theorem k_slices_IndexFuncapi_GroundDatum_api_GroundDatum__ground_explainsAll_1:callable Try.prog 154 = true := by kernel_rfl
def F_ground_explainsAll_1:TFn := ⟨8,2,[.tmp 3],
 (.seq (.reg [(oQ 2 (.box 0 (.t 0))),
 (oQ 3 (.mv (.c (.p (.bool false)))))])
 (.seq (.reg [(oQ 4 (.ldn 1 (.t 1))),
 (oQ 5 (.ldn 3 (.t 2))),
 (kQ 6 1 137 [(.t 4),(.t 5)]),
 (oQ 7 (.unot (.t 6))),
 (oQ 3 (.mv (.t 7)))])
 .ret))⟩
def A_ground_explainsAll_1:Nat→Ty := tyAt [.un,.un]
abbrev P_ground_explainsAll_1:List PSh := [.agg (.pr tQ pQ),.ptr (.sl pQ)]
abbrev R_ground_explainsAll_1:List PSh := [.one .bool]
theorem e_ground_explainsAll_1:cFn Try.prog 136 = some F_ground_explainsAll_1.erase := by kernel_rfl
theorem k_ground_explainsAll_1:callable Try.prog 136 = true := by kernel_rfl
def F_ground_explains:TFn := ⟨21,6,[.tmp 4],
 (.seq (.reg [(oQ 2 (.box 0 (.t 0))),
 (oQ 3 (.box 1 (.t 1))),
 (oQ 4 (.mv (.c (.p (.bool false)))))])
 (.seq (.reg [(oQ 6 (.fa 0 (.t 2))),
 (oQ 7 (.ld1 (.t 6))),
 (oQ 8 (.fa 0 (.t 3))),
 (oQ 9 (.ld1 (.t 8))),
 (kQ 10 2 79 [(.t 7),(.t 9)]),
 (oQ 5 (.newz 3 [zQ,zQ])),
 (uQ (.st 2 (.t 5) (.t 10)))])
 (.seq (.reg [(oQ 11 (.ldn 2 (.t 5))),
 (oQ 12 (.ldn 3 (.t 3))),
 (kQ 13 4 102 [(.t 11),(.t 12)]),
 (oQ 14 (.unot (.t 13))),
 (oQ 15 (.mv (.t 14))),
 (gQ 16 15 true (.ldn 2 (.t 5))),
 (gQ 17 15 true (.ldn 3 (.t 3))),
 ⟨some 18,some (some 15,true),(.call 5 103 [(.t 16),(.t 17)])⟩,
 (gQ 19 15 true (.unot (.t 18))),
 (oQ 20 (.pick (.t 15) (.t 19) (.c (.p (.bool false))))),
 (oQ 4 (.mv (.t 20)))])
 .ret)))⟩
def A_ground_explains:Nat→Ty := tyAt [.un,.un,.un,.un,.un,.un]
abbrev P_ground_explains:List PSh := [.agg (.sl pQ),.agg (.pr tQ pQ)]
abbrev R_ground_explains:List PSh := [.one .bool]
theorem e_ground_explains:cFn Try.prog 137 = some F_ground_explains.erase := by kernel_rfl
theorem k_ground_explains:callable Try.prog 137 = true := by kernel_rfl
end Go.Proofs.Ytehblgccaiiikaa
