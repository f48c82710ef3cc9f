/- The code of the functions that TopGravityTruth reaches, as it is walked: each equals what the given program's text gives. -/
import Derived.Test.YtfapfcjioianbaaDoorGt5TopGravityTruth
import Derived.Test.YtfapfcjioianbaaDoorProg
import Derived.KernelRfl
namespace Go.Proofs.YtfapfcjioianbaaDoor
open Go Go.Mx
set_option maxRecDepth 100000
abbrev mQ (d x:Nat):AIns := ⟨some d,none,.op (.mv (.t x))⟩
abbrev fQ (d f x:Nat):AIns := ⟨some d,none,.op (.fa f (.t x))⟩
abbrev lQ (d x:Nat):AIns := ⟨some d,none,.op (.ld1 (.t x))⟩
abbrev nQ (d n x:Nat):AIns := ⟨some d,none,.op (.ldn n (.t x))⟩
abbrev hQ (d x:Nat):AIns := ⟨some d,none,.op (.len false (.t x))⟩
abbrev sQ (n x v:Nat):AIns := ⟨none,none,.op (.st n (.t x) (.t v))⟩
abbrev jQ (d k x i:Nat):AIns := ⟨some d,none,.op (.ia k (.t x) (.t i))⟩
abbrev bQ (d:Nat) (b:BinOp) (x y:Nat):AIns := ⟨some d,none,.op (.bin b (.t x) (.t y))⟩
abbrev cQ (d:Nat) (b:BinOp) (x:Nat) (n:Int):AIns := ⟨some d,none,.op (.bin b (.t x) (.c (.p (.int .i64 n))))⟩
abbrev vQ (d g:Nat) (b:Bool) (x:Nat):AIns := ⟨some d,some (some g,b),.op (.mv (.t x))⟩
abbrev cF:Opd := .c (.p (.bool false))
abbrev cT:Opd := .c (.p (.bool true))
abbrev oQ (d:Nat) (o:AOp):AIns := ⟨some d,none,.op o⟩
abbrev uQ (o:AOp):AIns := ⟨none,none,.op o⟩
abbrev gQ (d g:Nat) (b:Bool) (o:AOp):AIns := ⟨some d,some (some g,b),.op o⟩
abbrev kQ (d s f:Nat) (a:List Opd):AIns := ⟨some d,none,.call s f a⟩
abbrev iQ (n:Int):Opd := .c (.p (.int .i64 n))
abbrev zQ:V := .p (.int .i64 0)
abbrev tQ:Ty := .int .i64
abbrev pQ:Ty := .pr tQ tQ
def F_Z0:TFn := ⟨462,45,[.tmp 6],(.seq (.reg [(oQ 3 (.box 0 (.t 0))),(oQ 4 (.box 1 (.t 1))),(oQ 5 (.box 2 (.t 2))),(oQ 6 (.mv cF))])
 (.seq (.seq (.reg [(kQ 36 3 4 []),(oQ 37 (.unot (.t 36)))])
 (.cond (.t 37) (.seq (.reg [(oQ 6 (.mv cF))])
 .ret) .skip))
 (.seq (.reg [(fQ 38 0 3),(lQ 39 38),(hQ 40 39),(mQ 7 40)])
 (.seq (.seq (.reg [(mQ 41 7),(cQ 42 .lss 41 3),(mQ 43 42),(vQ 44 43 false 7),(gQ 45 43 false (.bin .gtr (.t 44) (iQ 30))),(oQ 46 (.pick (.t 43) cT (.t 45))),(mQ 47 46),(gQ 48 47 false (.fa 1 (.t 3))),(gQ 49 47 false (.ld1 (.t 48))),(gQ 50 47 false (.len false (.t 49))),(vQ 51 47 false 7),(gQ 52 47 false (.bin .neq (.t 50) (.t 51))),(oQ 53 (.pick (.t 47) cT (.t 52))),(mQ 54 53),(gQ 55 54 false (.fa 2 (.t 3))),(gQ 56 54 false (.ld1 (.t 55))),(gQ 57 54 false (.len false (.t 56))),(vQ 58 54 false 7),(gQ 59 54 false (.bin .neq (.t 57) (.t 58))),(oQ 60 (.pick (.t 54) cT (.t 59))),(mQ 61 60),(gQ 62 61 false (.fa 3 (.t 3))),(gQ 63 61 false (.ld1 (.t 62))),⟨some 64,some (some 61,false),(.call 4 5 [(.t 63),(iQ 0),(iQ 20)])⟩,(gQ 65 61 false (.unot (.t 64))),(oQ 66 (.pick (.t 61) cT (.t 65))),(mQ 67 66),(gQ 68 67 false (.fa 4 (.t 3))),(gQ 69 67 false (.ld1 (.t 68))),⟨some 70,some (some 67,false),(.call 5 5 [(.t 69),(iQ (-1000)),(iQ 1000)])⟩,(gQ 71 67 false (.unot (.t 70))),(oQ 72 (.pick (.t 67) cT (.t 71))),(mQ 73 72),(gQ 74 73 false (.fa 5 (.t 3))),(gQ 75 73 false (.ld1 (.t 74))),⟨some 76,some (some 73,false),(.call 6 5 [(.t 75),(iQ (-20)),(iQ 20)])⟩,(gQ 77 73 false (.unot (.t 76))),(oQ 78 (.pick (.t 73) cT (.t 77))),(mQ 79 78),(gQ 80 79 false (.ldn 1 (.t 4))),⟨some 81,some (some 79,false),(.call 7 6 [(.t 80)])⟩,(gQ 82 79 false (.bin .neq (.t 81) (iQ 0))),(oQ 83 (.pick (.t 79) cT (.t 82))),(mQ 84 83),(gQ 85 84 false (.ldn 1 (.t 5))),⟨some 86,some (some 84,false),(.call 8 6 [(.t 85)])⟩,(gQ 87 84 false (.bin .neq (.t 86) (iQ 0))),(oQ 88 (.pick (.t 84) cT (.t 87)))])
 (.cond (.t 88) (.seq (.reg [(oQ 6 (.mv cT))])
 .ret) .skip))
 (.seq (.seq (.reg [(oQ 8 (.mv (iQ 0)))])
 (.block 0 (.loop [.v 8 tQ] [] [] (.seq (.seq (.reg [(mQ 89 8),(fQ 90 0 4),(lQ 91 90),(hQ 92 91),(bQ 93 .lss 89 92)])
 (.cond (.t 93) .skip (.exit 0)))
 (.seq (.block 1 (.seq (.reg [(fQ 96 0 4),(lQ 97 96),(mQ 98 8),(jQ 99 1 97 98),(lQ 100 99),(cQ 101 .lss 100 0)])
 (.cond (.t 101) (.seq (.reg [(oQ 6 (.mv cT))])
 .ret) .skip)))
 (.reg [(mQ 94 8),(cQ 95 .add 94 1),(mQ 8 95)]))))))
 (.seq (.seq (.reg [(oQ 9 (.mv (iQ 0)))])
 (.block 2 (.loop [.v 9 tQ] [] [] (.seq (.seq (.reg [(mQ 102 9),(fQ 103 0 5),(lQ 104 103),(hQ 105 104),(bQ 106 .lss 102 105)])
 (.cond (.t 106) .skip (.exit 2)))
 (.seq (.block 3 (.seq (.reg [(fQ 109 0 5),(lQ 110 109),(mQ 111 9),(jQ 112 1 110 111),(lQ 113 112),(cQ 114 .lss 113 0)])
 (.cond (.t 114) (.seq (.reg [(oQ 6 (.mv cT))])
 .ret) .skip)))
 (.reg [(mQ 107 9),(cQ 108 .add 107 1),(mQ 9 108)]))))))
 (.seq (.reg [(oQ 10 (.mv (.c (.p (.sl 0 [] true))))),(oQ 11 (.mv (.c (.p (.sl 0 [] true)))))])
 (.seq (.reg [(oQ 12 (.mv (.c (.p (.sl 0 [] true))))),(oQ 13 (.mv (.c (.p (.sl 0 [] true)))))])
 (.seq (.seq (.reg [(oQ 14 (.mv (iQ 0)))])
 (.block 4 (.loop [.v 14 tQ,.o 12 19 tQ,.o 13 17 tQ,.o 11 15 pQ,.o 10 13 pQ] [19,17,15,13] [19,17,15,13] (.seq (.seq (.reg [(mQ 115 14),(mQ 116 7),(bQ 117 .lss 115 116)])
 (.cond (.t 117) .skip (.exit 4)))
 (.seq (.block 5 (.seq (.reg [(fQ 120 0 3),(lQ 121 120),(mQ 122 14),(jQ 123 1 121 122),(lQ 124 123),(mQ 15 124)])
 (.seq (.seq (.reg [(mQ 125 15),(kQ 126 9 5 [(.t 125),(iQ (-1000)),(iQ 1000)]),(oQ 127 (.unot (.t 126))),(mQ 128 127),(gQ 129 128 false (.fa 1 (.t 3))),(gQ 130 128 false (.ld1 (.t 129))),(vQ 131 128 false 14),(gQ 132 128 false (.ia 1 (.t 130) (.t 131))),(gQ 133 128 false (.ld1 (.t 132))),⟨some 134,some (some 128,false),(.call 10 5 [(.t 133),(iQ 0),(iQ 100)])⟩,(gQ 135 128 false (.unot (.t 134))),(oQ 136 (.pick (.t 128) cT (.t 135))),(mQ 137 136),(gQ 138 137 false (.fa 2 (.t 3))),(gQ 139 137 false (.ld1 (.t 138))),(vQ 140 137 false 14),(gQ 141 137 false (.ia 1 (.t 139) (.t 140))),(gQ 142 137 false (.ld1 (.t 141))),⟨some 143,some (some 137,false),(.call 11 5 [(.t 142),(iQ 0),(iQ 100)])⟩,(gQ 144 137 false (.unot (.t 143))),(oQ 145 (.pick (.t 137) cT (.t 144)))])
 (.cond (.t 145) (.seq (.reg [(oQ 6 (.mv cT))])
 .ret) .skip))
 (.seq (.regd [(mQ 146 10),(mQ 147 15),(fQ 148 1 3),(lQ 149 148),(mQ 150 14),(jQ 151 1 149 150),(lQ 152 151),(bQ 153 .sub 147 152),(mQ 154 15),(fQ 155 2 3),(lQ 156 155),(mQ 157 14),(jQ 158 1 156 157),(lQ 159 158),(bQ 160 .add 154 159),(oQ 161 (.build [zQ,zQ] [(0,1,(.t 153)),(1,1,(.t 160))])),(oQ 162 (.bsl false 12 2 1 [zQ,zQ] [(0,2,(.t 161))])),(oQ 163 (.app 13 2 16 (.t 146) (.t 162))),(mQ 10 163)] [(3,10),(6,10),(3,13),(6,13)] [])
 (.seq (.reg [(mQ 164 11),(mQ 165 15),(mQ 166 15),(oQ 167 (.build [zQ,zQ] [(0,1,(.t 165)),(1,1,(.t 166))])),(oQ 168 (.bsl false 14 2 1 [zQ,zQ] [(0,2,(.t 167))])),(oQ 169 (.app 15 2 16 (.t 164) (.t 168))),(mQ 11 169)])
 (.seq (.reg [(fQ 170 4 3),(lQ 171 170),(mQ 172 14),(fQ 173 5 3),(lQ 174 173),(bQ 175 .mul 172 174),(bQ 176 .add 171 175),(mQ 16 176)])
 (.seq (.reg [(mQ 177 16),(mQ 17 177)])
 (.seq (.seq (.reg [(mQ 178 14),(cQ 179 .gtr 178 0),(mQ 180 179),(vQ 181 180 true 14),(vQ 182 180 true 7),(gQ 183 180 true (.bin .sub (.t 182) (iQ 1))),(gQ 184 180 true (.bin .lss (.t 181) (.t 183))),(oQ 185 (.pick (.t 180) (.t 184) cF))])
 (.cond (.t 185) (.seq (.regd [(mQ 186 16),(fQ 187 3 3),(lQ 188 187),(fQ 189 0 3),(lQ 190 189),(mQ 191 14),(cQ 192 .add 191 1),(jQ 193 1 190 192),(lQ 194 193),(mQ 195 15),(oQ 196 (.bin .mul (iQ 2) (.t 195))),(bQ 197 .sub 194 196),(fQ 198 0 3),(lQ 199 198),(mQ 200 14),(cQ 201 .sub 200 1),(jQ 202 1 199 201),(lQ 203 202),(bQ 204 .add 197 203),(bQ 205 .mul 188 204),(bQ 206 .add 186 205),(mQ 17 206)] [(2,4),(2,8),(2,13),(4,13),(8,13),(2,17),(4,17),(8,17)] [])
 (.reg [(mQ 207 13),(mQ 208 16),(oQ 209 (.bsl false 16 1 1 [zQ] [(0,1,(.t 208))])),(oQ 210 (.app 17 1 8 (.t 207) (.t 209))),(mQ 13 210)])) .skip))
 (.reg [(mQ 211 12),(mQ 212 17),(oQ 213 (.bsl false 18 1 1 [zQ] [(0,1,(.t 212))])),(oQ 214 (.app 19 1 8 (.t 211) (.t 213))),(mQ 12 214)])))))))))
 (.reg [(mQ 118 14),(cQ 119 .add 118 1),(mQ 14 119)]))))))
 (.seq (.regd [(mQ 216 12),(kQ 217 20 8 [(.t 216)]),(mQ 218 10),(fQ 219 3 3),(lQ 220 219),(kQ 221 21 7 [(.t 217),(.t 218),(.t 220)]),(mQ 215 221),(oQ 222 (.ext 0 (.t 215))),(oQ 223 (.ext 1 (.t 215))),(mQ 18 222),(mQ 19 223)] [(1,4)] [])
 (.seq (.regd [(mQ 225 12),(kQ 226 22 8 [(.t 225)]),(mQ 227 11),(fQ 228 3 3),(lQ 229 228),(kQ 230 23 7 [(.t 226),(.t 227),(.t 229)]),(mQ 224 230),(oQ 231 (.ext 0 (.t 224))),(oQ 232 (.ext 1 (.t 224))),(mQ 20 231),(mQ 21 232)] [(1,4)] [])
 (.seq (.seq (.reg [(mQ 233 19),(cQ 234 .neq 233 0),(mQ 235 234),(vQ 236 235 false 21),(gQ 237 235 false (.bin .neq (.t 236) (iQ 0))),(oQ 238 (.pick (.t 235) cT (.t 237))),(mQ 239 238),(vQ 240 239 false 18),(vQ 241 239 false 13),⟨some 242,some (some 239,false),(.call 24 9 [(.t 240),(.t 241),(iQ 0)])⟩,(gQ 243 239 false (.unot (.t 242))),(oQ 244 (.pick (.t 239) cT (.t 243))),(mQ 245 244),(vQ 246 245 false 20),(vQ 247 245 false 13),⟨some 248,some (some 245,false),(.call 25 9 [(.t 246),(.t 247),(iQ 0)])⟩,(gQ 249 245 false (.unot (.t 248))),(oQ 250 (.pick (.t 245) cT (.t 249))),(mQ 251 250),(vQ 252 251 false 18),⟨some 253,some (some 251,false),(.call 26 10 [(.t 252)])⟩,(gQ 254 251 false (.bin .neq (.t 253) (iQ 0))),(oQ 255 (.pick (.t 251) cT (.t 254)))])
 (.cond (.t 255) (.seq (.reg [(oQ 6 (.mv cF))])
 .ret) .skip))
 (.seq (.seq (.reg [(oQ 22 (.mv (iQ 0)))])
 (.block 6 (.loop [.v 22 tQ] [29] [29] (.seq (.seq (.reg [(mQ 256 22),(mQ 257 20),(hQ 258 257),(bQ 259 .lss 256 258)])
 (.cond (.t 259) .skip (.exit 6)))
 (.seq (.block 7 (.seq (.seq (.regd [(mQ 262 20),(mQ 263 22),(jQ 264 2 262 263),(fQ 265 0 264),(lQ 266 265),(mQ 267 20),(mQ 268 22),(jQ 269 2 267 268),(fQ 270 1 269),(lQ 271 270),(bQ 272 .neq 266 271)] [(4,9)] [])
 (.cond (.t 272) (.seq (.reg [(oQ 6 (.mv cF))])
 .ret) .skip))
 (.seq (.regd [(mQ 274 20),(mQ 275 22),(jQ 276 2 274 275),(nQ 277 2 276),(mQ 278 13),(mQ 279 22),(jQ 280 1 278 279),(lQ 281 280),(oQ 282 (.uneg (.t 281))),(mQ 283 13),(mQ 284 22),(jQ 285 1 283 284),(lQ 286 285),(oQ 287 (.uneg (.t 286))),(oQ 288 (.build [zQ,zQ] [(0,1,(.t 282)),(1,1,(.t 287))])),(oQ 289 (.bsl false 27 2 2 [zQ,zQ,zQ,zQ] [(0,2,(.t 277)),(2,2,(.t 288))])),(kQ 290 28 11 [(.t 289)]),(mQ 273 290),(oQ 291 (.ext 0 (.t 273))),(oQ 292 (.ext 1 (.t 273))),(oQ 293 (.ext 2 (.t 273))),(oQ 23 (.newz 29 [zQ,zQ])),(sQ 2 23 291),(mQ 24 292),(mQ 25 293)] [(3,7),(3,12),(7,12),(3,21),(7,21),(12,21),(16,21)] [])
 (.seq (.reg [(mQ 294 25),(cQ 295 .neq 294 0),(mQ 296 295),(vQ 297 296 false 24),(gQ 298 296 false (.bin .neq (.t 297) (iQ 2))),(oQ 299 (.pick (.t 296) cT (.t 298))),(mQ 300 299),(gQ 301 300 false (.ldn 2 (.t 23))),(gQ 302 300 false (.build [zQ,zQ] [])),(gQ 303 300 false (.eqa true 2 [(true,0),(true,1)] (.t 301) (.t 302))),(oQ 304 (.pick (.t 300) cT (.t 303)))])
 (.cond (.t 304) (.seq (.reg [(oQ 6 (.mv cF))])
 .ret) .skip)))))
 (.reg [(mQ 260 22),(cQ 261 .add 260 1),(mQ 22 261)]))))))
 (.seq (.reg [(nQ 306 1 4),(kQ 307 30 13 [(.t 306)]),(mQ 308 18),(kQ 309 31 14 [(.t 308)]),(kQ 310 32 12 [(.t 307),(.t 309)]),(mQ 305 310),(oQ 311 (.ext 0 (.t 305))),(oQ 312 (.ext 1 (.t 305))),(mQ 26 311),(mQ 27 312)])
 (.seq (.seq (.reg [(mQ 313 27),(cQ 314 .neq 313 0),(mQ 315 314),(vQ 316 315 false 26),(gQ 317 315 false (.len false (.t 316))),(vQ 318 315 false 13),(gQ 319 315 false (.len false (.t 318))),(gQ 320 315 false (.fa 0 (.t 4))),(gQ 321 315 false (.ld1 (.t 320))),(gQ 322 315 false (.len false (.t 321))),(gQ 323 315 false (.bin .sub (.t 322) (iQ 1))),(gQ 324 315 false (.bin .mul (iQ 2) (.t 323))),(gQ 325 315 false (.bin .sub (.t 319) (.t 324))),(gQ 326 315 false (.mm true (iQ 0) (.t 325))),(gQ 327 315 false (.bin .neq (.t 317) (.t 326))),(oQ 328 (.pick (.t 315) cT (.t 327))),(mQ 329 328),(vQ 330 329 false 26),(gQ 331 329 false (.len false (.t 330))),(gQ 332 329 false (.bin .gtr (.t 331) (iQ 0))),(vQ 333 329 false 332),(vQ 334 333 true 26),(vQ 335 333 true 13),(gQ 336 333 true (.fa 0 (.t 4))),(gQ 337 333 true (.ld1 (.t 336))),(gQ 338 333 true (.len false (.t 337))),(gQ 339 333 true (.bin .sub (.t 338) (iQ 1))),⟨some 340,some (some 333,true),(.call 33 9 [(.t 334),(.t 335),(.t 339)])⟩,(gQ 341 333 true (.unot (.t 340))),(gQ 342 329 false (.pick (.t 333) (.t 341) cF)),(oQ 343 (.pick (.t 329) cT (.t 342))),(mQ 344 343),(vQ 345 344 false 26),⟨some 346,some (some 344,false),(.call 34 10 [(.t 345)])⟩,(gQ 347 344 false (.bin .neq (.t 346) (iQ 0))),(oQ 348 (.pick (.t 344) cT (.t 347)))])
 (.cond (.t 348) (.seq (.reg [(oQ 6 (.mv cF))])
 .ret) .skip))
 (.seq (.reg [(nQ 350 1 5),(kQ 351 35 13 [(.t 350)]),(mQ 352 26),(kQ 353 36 14 [(.t 352)]),(kQ 354 37 12 [(.t 351),(.t 353)]),(mQ 349 354),(oQ 355 (.ext 0 (.t 349))),(oQ 356 (.ext 1 (.t 349))),(mQ 28 355),(mQ 29 356)])
 (.seq (.reg [(fQ 357 0 4),(lQ 358 357),(hQ 359 358),(fQ 360 0 5),(lQ 361 360),(hQ 362 361),(bQ 363 .add 359 362),(cQ 364 .sub 363 2),(mQ 30 364)])
 (.seq (.seq (.reg [(mQ 365 29),(cQ 366 .neq 365 0),(mQ 367 366),(vQ 368 367 false 28),(gQ 369 367 false (.len false (.t 368))),(vQ 370 367 false 26),(gQ 371 367 false (.len false (.t 370))),(gQ 372 367 false (.fa 0 (.t 5))),(gQ 373 367 false (.ld1 (.t 372))),(gQ 374 367 false (.len false (.t 373))),(gQ 375 367 false (.bin .sub (.t 374) (iQ 1))),(gQ 376 367 false (.bin .mul (iQ 2) (.t 375))),(gQ 377 367 false (.bin .sub (.t 371) (.t 376))),(gQ 378 367 false (.mm true (iQ 0) (.t 377))),(gQ 379 367 false (.bin .neq (.t 369) (.t 378))),(oQ 380 (.pick (.t 367) cT (.t 379))),(mQ 381 380),(vQ 382 381 false 28),(gQ 383 381 false (.len false (.t 382))),(gQ 384 381 false (.bin .gtr (.t 383) (iQ 0))),(vQ 385 381 false 384),(vQ 386 385 true 28),(vQ 387 385 true 13),(vQ 388 385 true 30),⟨some 389,some (some 385,true),(.call 38 9 [(.t 386),(.t 387),(.t 388)])⟩,(gQ 390 385 true (.unot (.t 389))),(gQ 391 381 false (.pick (.t 385) (.t 390) cF)),(oQ 392 (.pick (.t 381) cT (.t 391)))])
 (.cond (.t 392) (.seq (.reg [(oQ 6 (.mv cF))])
 .ret) .skip))
 (.seq (.regd [(nQ 394 1 4),(kQ 395 39 13 [(.t 394)]),(nQ 396 1 5),(kQ 397 40 13 [(.t 396)]),(kQ 398 41 15 [(.t 395),(.t 397)]),(mQ 393 398),(oQ 399 (.ext 0 (.t 393))),(oQ 400 (.ext 1 (.t 393))),(oQ 31 (.newz 42 [(.p (.sl 0 [] true))])),(sQ 1 31 399),(mQ 32 400)] [(0,2),(1,2),(0,8),(1,8),(2,8),(3,8),(4,8)] [])
 (.seq (.seq (.reg [(mQ 401 32),(cQ 402 .neq 401 0)])
 (.cond (.t 402) (.seq (.reg [(mQ 403 32),(cQ 404 .eql 403 8),(mQ 6 404)])
 .ret) .skip))
 (.seq (.reg [(nQ 406 1 31),(mQ 407 18),(kQ 408 43 12 [(.t 406),(.t 407)]),(mQ 405 408),(oQ 409 (.ext 0 (.t 405))),(oQ 410 (.ext 1 (.t 405))),(mQ 33 409),(mQ 34 410)])
 (.seq (.seq (.reg [(mQ 411 34),(cQ 412 .neq 411 0),(mQ 413 412),(vQ 414 413 false 33),(gQ 415 413 false (.len false (.t 414))),(vQ 416 413 false 28),(gQ 417 413 false (.len false (.t 416))),(gQ 418 413 false (.bin .neq (.t 415) (.t 417))),(oQ 419 (.pick (.t 413) cT (.t 418))),(mQ 420 419),(vQ 421 420 false 33),(gQ 422 420 false (.len false (.t 421))),(gQ 423 420 false (.bin .gtr (.t 422) (iQ 0))),(vQ 424 420 false 423),(vQ 425 424 true 33),(vQ 426 424 true 13),(vQ 427 424 true 30),⟨some 428,some (some 424,true),(.call 44 9 [(.t 425),(.t 426),(.t 427)])⟩,(gQ 429 424 true (.unot (.t 428))),(gQ 430 420 false (.pick (.t 424) (.t 429) cF)),(oQ 431 (.pick (.t 420) cT (.t 430)))])
 (.cond (.t 431) (.seq (.reg [(oQ 6 (.mv cF))])
 .ret) .skip))
 (.seq (.seq (.reg [(oQ 35 (.mv (iQ 0)))])
 (.block 8 (.loop [.v 35 tQ] [] [] (.seq (.seq (.reg [(mQ 432 35),(mQ 433 33),(hQ 434 433),(bQ 435 .lss 432 434)])
 (.cond (.t 435) .skip (.exit 8)))
 (.seq (.block 9 (.seq (.regd [(mQ 438 33),(mQ 439 35),(jQ 440 2 438 439),(fQ 441 0 440),(lQ 442 441),(mQ 443 28),(mQ 444 35),(jQ 445 2 443 444),(fQ 446 0 445),(lQ 447 446),(bQ 448 .lss 442 447),(mQ 449 448),(vQ 450 449 false 33),(vQ 451 449 false 35),(gQ 452 449 false (.ia 2 (.t 450) (.t 451))),(gQ 453 449 false (.fa 1 (.t 452))),(gQ 454 449 false (.ld1 (.t 453))),(vQ 455 449 false 28),(vQ 456 449 false 35),(gQ 457 449 false (.ia 2 (.t 455) (.t 456))),(gQ 458 449 false (.fa 1 (.t 457))),(gQ 459 449 false (.ld1 (.t 458))),(gQ 460 449 false (.bin .gtr (.t 454) (.t 459))),(oQ 461 (.pick (.t 449) cT (.t 460)))] [(4,9),(16,21)] [])
 (.cond (.t 461) (.seq (.reg [(oQ 6 (.mv cF))])
 .ret) .skip)))
 (.reg [(mQ 436 35),(cQ 437 .add 436 1),(mQ 35 437)]))))))
 (.seq (.reg [(oQ 6 (.mv cT))])
 .ret))))))))))))))))))))))))⟩
def A_Z0:Nat→Ty := tyAt [.un,.un,.un,.un,.un,.un,.un,.un,.un,.un,.un,.un,pQ,pQ,pQ,pQ,tQ,tQ,tQ,tQ,.un,.un,.un,.un,.un,.un,.un,pQ,.un,.un,.un,.un,.un,.un,.un,.un,.un,.un,.un,.un,.un,.un,.un,.un,.un]
abbrev P_Z0:List PSh := [.agg (.pr (.sl tQ) (.pr (.sl tQ) (.pr (.sl tQ) (.pr tQ pQ)))),.agg (.sl tQ),.agg (.sl tQ)]
abbrev R_Z0:List PSh := [.one .bool]
theorem e_Z0:cFn Tryd.prog 3 = some F_Z0.erase := by kernel_rfl
theorem k_Z0:callable Tryd.prog 3 = true := by kernel_rfl
def F_Z10:TFn := ⟨30,2,[.tmp 4,.tmp 5],(.seq (.reg [(oQ 4 (.mv (.c (.p (.int .u64 0))))),(oQ 5 (.mv (.c (.p (.int .u64 0)))))])
 (.seq (.cond cF (.seq (.reg [(mQ 11 0),(oQ 12 (.conv .u32 (.t 11))),(mQ 13 1),(oQ 14 (.conv .u32 (.t 13))),(kQ 15 0 56 [(.t 12),(.t 14)]),(mQ 10 15),(oQ 16 (.ext 0 (.t 10))),(oQ 17 (.ext 1 (.t 10))),(mQ 6 16),(mQ 7 17)])
 (.seq (.reg [(mQ 18 6),(oQ 19 (.conv .u64 (.t 18))),(mQ 20 7),(oQ 21 (.conv .u64 (.t 20))),(mQ 4 19),(mQ 5 21)])
 .ret)) .skip)
 (.seq (.reg [(mQ 23 0),(mQ 24 1),(kQ 25 1 57 [(.t 23),(.t 24)]),(mQ 22 25),(oQ 26 (.ext 0 (.t 22))),(oQ 27 (.ext 1 (.t 22))),(mQ 8 26),(mQ 9 27)])
 (.seq (.reg [(mQ 28 8),(mQ 29 9),(mQ 4 28),(mQ 5 29)])
 .ret))))⟩
def A_Z10:Nat→Ty := tyAt [.un,.un]
abbrev P_Z10:List PSh := [.one (.int .u64),.one (.int .u64)]
abbrev R_Z10:List PSh := [.one (.int .u64),.one (.int .u64)]
theorem e_Z10:cFn Tryd.prog 46 = some F_Z10.erase := by kernel_rfl
theorem k_Z10:callable Tryd.prog 46 = true := by kernel_rfl
def F_Z18:TFn := ⟨51,0,[.tmp 4,.tmp 5],(.seq (.reg [(oQ 4 (.mv (.c (.p (.int .u64 0))))),(oQ 5 (.mv (.c (.p (.int .u64 0)))))])
 (.seq (.reg [(mQ 14 0),(oQ 15 (.bin .and (.t 14) (.c (.p (.int .u64 4294967295))))),(mQ 6 15)])
 (.seq (.reg [(mQ 16 0),(oQ 17 (.sh false (.t 16) (.c (.p (.int .u64 32))))),(mQ 7 17)])
 (.seq (.reg [(mQ 18 1),(oQ 19 (.bin .and (.t 18) (.c (.p (.int .u64 4294967295))))),(mQ 8 19)])
 (.seq (.reg [(mQ 20 1),(oQ 21 (.sh false (.t 20) (.c (.p (.int .u64 32))))),(mQ 9 21)])
 (.seq (.reg [(mQ 22 6),(mQ 23 8),(bQ 24 .mul 22 23),(mQ 10 24)])
 (.seq (.reg [(mQ 25 7),(mQ 26 8),(bQ 27 .mul 25 26),(mQ 28 10),(oQ 29 (.sh false (.t 28) (.c (.p (.int .u64 32))))),(bQ 30 .add 27 29),(mQ 11 30)])
 (.seq (.reg [(mQ 31 11),(oQ 32 (.bin .and (.t 31) (.c (.p (.int .u64 4294967295))))),(mQ 12 32)])
 (.seq (.reg [(mQ 33 11),(oQ 34 (.sh false (.t 33) (.c (.p (.int .u64 32))))),(mQ 13 34)])
 (.seq (.reg [(mQ 35 12),(mQ 36 6),(mQ 37 9),(bQ 38 .mul 36 37),(bQ 39 .add 35 38),(mQ 12 39)])
 (.seq (.reg [(mQ 40 7),(mQ 41 9),(bQ 42 .mul 40 41),(mQ 43 13),(bQ 44 .add 42 43),(mQ 45 12),(oQ 46 (.sh false (.t 45) (.c (.p (.int .u64 32))))),(bQ 47 .add 44 46),(mQ 4 47)])
 (.seq (.reg [(mQ 48 0),(mQ 49 1),(bQ 50 .mul 48 49),(mQ 5 50)])
 .ret))))))))))))⟩
def A_Z18:Nat→Ty := tyAt []
abbrev P_Z18:List PSh := [.one (.int .u64),.one (.int .u64)]
abbrev R_Z18:List PSh := [.one (.int .u64),.one (.int .u64)]
theorem e_Z18:cFn Tryd.prog 57 = some F_Z18.erase := by kernel_rfl
theorem k_Z18:callable Tryd.prog 57 = true := by kernel_rfl
def F_Z1d:TFn := ⟨33,9,[.tmp 0],(.seq (.reg [(oQ 0 (.mv cF))])
 (.seq (.reg [(oQ 6 (.bsl false 0 1 3 [zQ,zQ,zQ] [(0,1,(iQ 10)),(1,1,(iQ 20)),(2,1,(iQ 30))])),(kQ 7 1 16 []),(kQ 8 2 7 [(.t 6),(.t 7),(iQ 3)]),(mQ 5 8),(oQ 9 (.ext 0 (.t 5))),(oQ 10 (.ext 1 (.t 5))),(mQ 1 9),(mQ 2 10)])
 (.seq (.reg [(kQ 12 3 18 []),(kQ 13 4 17 [(.t 12)]),(mQ 11 13),(oQ 14 (.ext 0 (.t 11))),(oQ 15 (.ext 1 (.t 11))),(mQ 3 14),(mQ 4 15)])
 (.seq (.reg [(mQ 16 2),(cQ 17 .eql 16 0),(mQ 18 17),(vQ 19 18 true 1),(gQ 20 18 true (.build [zQ,zQ] [(0,1,(iQ 2)),(1,1,(iQ 14))])),(gQ 21 18 true (.bsl false 5 2 1 [zQ,zQ] [(0,2,(.t 20))])),⟨some 22,some (some 18,true),(.call 6 19 [(.t 19),(.t 21)])⟩,(oQ 23 (.pick (.t 18) (.t 22) cF)),(mQ 24 23),(vQ 25 24 true 4),(gQ 26 24 true (.bin .eql (.t 25) (iQ 0))),(oQ 27 (.pick (.t 24) (.t 26) cF)),(mQ 28 27),(vQ 29 28 true 3),(gQ 30 28 true (.bsl false 7 1 3 [zQ,zQ,zQ] [(0,1,(iQ (-7))),(1,1,(iQ (-2))),(2,1,(iQ 0))])),⟨some 31,some (some 28,true),(.call 8 20 [(.t 29),(.t 30)])⟩,(oQ 32 (.pick (.t 28) (.t 31) cF)),(mQ 0 32)])
 .ret))))⟩
abbrev P_Z1d:List PSh := []
abbrev R_Z1d:List PSh := [.one .bool]
theorem e_Z1d:cFn Tryd.prog 4 = some F_Z1d.erase := by kernel_rfl
theorem k_Z1d:callable Tryd.prog 4 = true := by kernel_rfl
def F_Z6:TFn := ⟨15,0,[.tmp 6],(.seq (.reg [(oQ 6 (.mv cF))])
 (.seq (.reg [(mQ 7 1),(mQ 8 0),(bQ 9 .leq 7 8),(mQ 10 9),(vQ 11 10 true 0),(vQ 12 10 true 2),(gQ 13 10 true (.bin .leq (.t 11) (.t 12))),(oQ 14 (.pick (.t 10) (.t 13) cF)),(mQ 6 14)])
 .ret))⟩
def A_Z6:Nat→Ty := tyAt []
abbrev P_Z6:List PSh := [.one tQ,.one tQ,.one tQ]
abbrev R_Z6:List PSh := [.one .bool]
theorem e_Z6:cFn Tryd.prog 5 = some F_Z6.erase := by kernel_rfl
theorem k_Z6:callable Tryd.prog 5 = true := by kernel_rfl
def F_Zk:TFn := ⟨29,3,[.tmp 2],(.seq (.reg [(oQ 1 (.box 0 (.t 0))),(oQ 2 (.mv (iQ 0)))])
 (.seq (.seq (.reg [(fQ 4 0 1),(lQ 5 4),(hQ 6 5),(cQ 7 .eql 6 0)])
 (.cond (.t 7) (.seq (.reg [(oQ 2 (.mv (iQ 10)))])
 .ret) .skip))
 (.seq (.seq (.reg [(fQ 8 0 1),(lQ 9 8),(hQ 10 9),(cQ 11 .gtr 10 9)])
 (.cond (.t 11) (.seq (.reg [(oQ 2 (.mv (iQ 8)))])
 .ret) .skip))
 (.seq (.seq (.reg [(oQ 3 (.mv (iQ 0)))])
 (.block 0 (.loop [.v 3 tQ] [] [] (.seq (.seq (.reg [(mQ 12 3),(fQ 13 0 1),(lQ 14 13),(hQ 15 14),(bQ 16 .lss 12 15)])
 (.cond (.t 16) .skip (.exit 0)))
 (.seq (.block 1 (.seq (.reg [(fQ 19 0 1),(lQ 20 19),(mQ 21 3),(jQ 22 1 20 21),(lQ 23 22),(kQ 24 1 5 [(.t 23),(iQ (-100000)),(iQ 100000)]),(oQ 25 (.unot (.t 24)))])
 (.cond (.t 25) (.seq (.reg [(oQ 2 (.mv (iQ 2)))])
 .ret) .skip)))
 (.reg [(mQ 17 3),(cQ 18 .add 17 1),(mQ 3 18)]))))))
 (.seq (.seq (.reg [(nQ 26 1 1),(kQ 27 2 21 [(.t 26)]),(cQ 28 .lss 27 1)])
 (.cond (.t 28) (.seq (.reg [(oQ 2 (.mv (iQ 11)))])
 .ret) .skip))
 (.seq (.reg [(oQ 2 (.mv (iQ 0)))])
 .ret))))))⟩
def A_Zk:Nat→Ty := tyAt [.un,.un,.un]
abbrev P_Zk:List PSh := [.agg (.sl tQ)]
abbrev R_Zk:List PSh := [.one tQ]
theorem e_Zk:cFn Tryd.prog 6 = some F_Zk.erase := by kernel_rfl
theorem k_Zk:callable Tryd.prog 6 = true := by kernel_rfl
def F_Z11:TFn := ⟨6,2,[.tmp 2],(.seq (.reg [(oQ 2 (.mv (.c (.p (.sl 0 [] true)))))])
 (.seq (.reg [(oQ 3 (.bsl true 0 1 0 [] [])),(mQ 4 0),(oQ 5 (.app 1 1 8 (.t 3) (.t 4))),(mQ 2 5)])
 .ret))⟩
def A_Z11:Nat→Ty := tyAt [tQ,tQ]
abbrev P_Z11:List PSh := [.one (.sl tQ)]
abbrev E_Z11:Ty := tQ
theorem e_Z11:cFn Tryd.prog 8 = some F_Z11.erase := by kernel_rfl
theorem k_Z11:callable Tryd.prog 8 = true := by kernel_rfl
def F_Z2:TFn := ⟨66,15,[.tmp 6,.tmp 7],(.seq (.reg [(oQ 3 (.box 0 (.t 0))),(oQ 5 (.box 1 (.t 2))),(oQ 6 (.mv (.c (.p (.sl 0 [] true))))),(oQ 7 (.mv (iQ 0)))])
 (.seq (.regd [(lQ 14 3),(kQ 15 2 23 [(.t 14)]),(mQ 16 1),(kQ 17 3 24 [(.t 16)]),(lQ 18 5),(kQ 19 4 26 [(.t 18),(iQ 0),(iQ 1000)]),(kQ 20 5 25 [(.t 19),(iQ 2)]),(lQ 21 3),(hQ 22 21),(mQ 23 1),(hQ 24 23),(bQ 25 .eql 22 24),(mQ 26 25),(gQ 27 26 true (.ld1 (.t 3))),(gQ 28 26 true (.len false (.t 27))),(gQ 29 26 true (.bin .geq (.t 28) (iQ 3))),(oQ 30 (.pick (.t 26) (.t 29) cF)),(kQ 31 6 25 [(.t 30),(iQ 10)]),(oQ 32 (.bsl false 7 1 4 [zQ,zQ,zQ,zQ] [(0,1,(.t 15)),(1,1,(.t 17)),(2,1,(.t 20)),(3,1,(.t 31))])),(kQ 33 8 22 [(.t 32)]),(mQ 8 33)] [(0,4),(1,4),(3,4),(0,7),(1,7),(3,7),(4,7),(5,7),(6,7)] [])
 (.seq (.seq (.reg [(mQ 34 8),(cQ 35 .neq 34 0)])
 (.cond (.t 35) (.seq (.reg [(mQ 36 8),(oQ 6 (.mv (.c (.p (.sl 0 [] true))))),(mQ 7 36)])
 .ret) .skip))
 (.seq (.reg [(oQ 9 (.newz 9 [(.p (.sl 0 [] true))]))])
 (.seq (.seq (.reg [(mQ 37 1),(kQ 38 10 27 [(.t 37),(iQ 3)])])
 (.block 0 (.rng (.t 38) [39,40] [39,40,10,11,41,42,43,12,44,45,46,47,48,13,49,50,51,52,53,54,55,56,57,58,59,60,61,62,63,64] [.q 9 14 pQ] [9,12,14] [12,14] (.seq (.reg [(mQ 10 39)])
 (.reg [(mQ 11 40)]))
 (.block 1 (.seq (.reg [(oQ 41 (.sla 1 3 (.c (.ipt [(.int .i64 1),(.int .i64 (-2)),(.int .i64 1)])) none none)),(mQ 42 11),(kQ 43 11 28 [(.t 41),(.t 42)]),(oQ 12 (.newz 12 [zQ,zQ])),(sQ 2 12 43)])
 (.seq (.reg [(lQ 44 3),(mQ 45 10),(cQ 46 .add 45 1),(jQ 47 1 44 46),(lQ 48 47),(mQ 13 48)])
 (.reg [(lQ 49 9),(mQ 50 13),(lQ 51 5),(fQ 52 1 12),(lQ 53 52),(bQ 54 .mul 51 53),(bQ 55 .sub 50 54),(mQ 56 13),(lQ 57 5),(fQ 58 0 12),(lQ 59 58),(bQ 60 .mul 57 59),(bQ 61 .sub 56 60),(oQ 62 (.build [zQ,zQ] [(0,1,(.t 55)),(1,1,(.t 61))])),(oQ 63 (.bsl false 13 2 1 [zQ,zQ] [(0,2,(.t 62))])),(oQ 64 (.app 14 2 16 (.t 49) (.t 63))),(sQ 1 9 64)])))))))
 (.seq (.reg [(lQ 65 9),(mQ 6 65),(oQ 7 (.mv (iQ 0)))])
 .ret))))))⟩
def A_Z2:Nat→Ty := tyAt [.un,.un,.un,.un,.un,.un,.un,tQ,.un,.un,.un,.un,.un,pQ,pQ]
abbrev P_Z2:List PSh := [.one (.sl tQ),.one (.sl pQ),.one tQ]
abbrev R_Z2:List PSh := [.one (.sl pQ),.one tQ]
theorem e_Z2:cFn Tryd.prog 7 = some F_Z2.erase := by kernel_rfl
theorem k_Z2:callable Tryd.prog 7 = true := by kernel_rfl
def F_Zh:TFn := ⟨40,1,[.tmp 6],(.seq (.reg [(oQ 6 (.mv cF))])
 (.seq (.seq (.reg [(mQ 8 0),(hQ 9 8),(mQ 10 1),(hQ 11 10),(mQ 12 2),(oQ 13 (.bin .mul (iQ 2) (.t 12))),(bQ 14 .sub 11 13),(bQ 15 .neq 9 14)])
 (.cond (.t 15) (.seq (.reg [(oQ 6 (.mv cF))])
 .ret) .skip))
 (.seq (.seq (.reg [(oQ 7 (.mv (iQ 0)))])
 (.block 0 (.loop [.v 7 tQ] [] [] (.seq (.seq (.reg [(mQ 16 7),(mQ 17 0),(hQ 18 17),(bQ 19 .lss 16 18)])
 (.cond (.t 19) .skip (.exit 0)))
 (.seq (.block 1 (.seq (.regd [(mQ 22 1),(mQ 23 7),(mQ 24 2),(bQ 25 .add 23 24),(jQ 26 1 22 25),(lQ 27 26),(mQ 28 0),(mQ 29 7),(jQ 30 2 28 29),(fQ 31 0 30),(lQ 32 31),(mQ 33 0),(mQ 34 7),(jQ 35 2 33 34),(fQ 36 1 35),(lQ 37 36),(kQ 38 0 5 [(.t 27),(.t 32),(.t 37)]),(oQ 39 (.unot (.t 38)))] [(5,10),(5,15),(10,15)] [])
 (.cond (.t 39) (.seq (.reg [(oQ 6 (.mv cF))])
 .ret) .skip)))
 (.reg [(mQ 20 7),(cQ 21 .add 20 1),(mQ 7 21)]))))))
 (.seq (.reg [(oQ 6 (.mv cT))])
 .ret))))⟩
def A_Zh:Nat→Ty := tyAt [.un]
abbrev P_Zh:List PSh := [.one (.sl pQ),.one (.sl tQ),.one tQ]
abbrev R_Zh:List PSh := [.one .bool]
theorem e_Zh:cFn Tryd.prog 9 = some F_Zh.erase := by kernel_rfl
theorem k_Zh:callable Tryd.prog 9 = true := by kernel_rfl
def F_Ze:TFn := ⟨11,1,[.tmp 2],(.seq (.reg [(oQ 2 (.mv (iQ 0)))])
 (.seq (.reg [(mQ 6 0),(kQ 7 0 29 [(.t 6)]),(mQ 5 7),(oQ 8 (.ext 0 (.t 5))),(oQ 9 (.ext 1 (.t 5))),(mQ 3 8),(mQ 4 9)])
 (.seq (.reg [(mQ 10 4),(mQ 2 10)])
 .ret)))⟩
def A_Ze:Nat→Ty := tyAt [.un]
abbrev P_Ze:List PSh := [.one (.sl pQ)]
abbrev R_Ze:List PSh := [.one tQ]
theorem e_Ze:cFn Tryd.prog 10 = some F_Ze.erase := by kernel_rfl
theorem k_Ze:callable Tryd.prog 10 = true := by kernel_rfl
def F_Z5:TFn := ⟨39,10,[.celln 2 2,.tmp 3,.tmp 4],(.seq (.reg [(oQ 2 (.newz 0 [zQ,zQ])),(oQ 3 (.mv (iQ 0))),(oQ 4 (.mv (iQ 0)))])
 (.seq (.seq (.reg [(mQ 7 0),(kQ 8 1 24 [(.t 7)]),(mQ 9 0),(hQ 10 9),(cQ 11 .gtr 10 0),(kQ 12 2 25 [(.t 11),(iQ 10)]),(oQ 13 (.bsl false 3 1 2 [zQ,zQ] [(0,1,(.t 8)),(1,1,(.t 12))])),(kQ 14 4 22 [(.t 13)]),(mQ 5 14)])
 (.seq (.reg [(mQ 15 5),(cQ 16 .neq 15 0)])
 (.cond (.t 16) (.seq (.reg [(oQ 17 (.build [zQ,zQ] [])),(mQ 18 5),(sQ 2 2 17),(oQ 3 (.mv (iQ 0))),(mQ 4 18)])
 .ret) .skip)))
 (.seq (.reg [(oQ 19 (.bsl false 5 1 1 [zQ] [(0,1,(iQ 1))])),(mQ 20 0),(hQ 21 20),(kQ 22 6 30 [(.t 19),(.t 21)]),(mQ 23 0),(kQ 24 7 28 [(.t 22),(.t 23)]),(oQ 6 (.newz 8 [zQ,zQ])),(sQ 2 6 24)])
 (.seq (.block 0 (.seq (.reg [(nQ 26 2 6),(oQ 27 (.build [zQ,zQ] [])),(oQ 28 (.eqa false 2 [(true,0),(true,1)] (.t 26) (.t 27))),(mQ 25 28)])
 (.cond (.t 25) (.seq (.reg [(nQ 29 2 6),(sQ 2 2 29),(oQ 3 (.mv (iQ 2))),(oQ 4 (.mv (iQ 0)))])
 .ret) (.seq (.reg [(fQ 31 0 6),(lQ 32 31),(fQ 33 1 6),(lQ 34 33),(kQ 35 9 26 [(iQ 0),(.t 32),(.t 34)]),(oQ 36 (.unot (.t 35))),(mQ 30 36)])
 (.cond (.t 30) (.seq (.reg [(nQ 37 2 6),(sQ 2 2 37),(oQ 3 (.mv (iQ 0))),(oQ 4 (.mv (iQ 0)))])
 .ret) .skip)))))
 (.seq (.reg [(nQ 38 2 6),(sQ 2 2 38),(oQ 3 (.mv (iQ 1))),(oQ 4 (.mv (iQ 0)))])
 .ret)))))⟩
def A_Z5:Nat→Ty := tyAt [.un,.un,.un,tQ,.un,tQ,.un,.un,.un,.un]
abbrev P_Z5:List PSh := [.one (.sl pQ)]
abbrev R_Z5:List PSh := [.agg pQ,.one tQ,.one tQ]
theorem e_Z5:cFn Tryd.prog 11 = some F_Z5.erase := by kernel_rfl
theorem k_Z5:callable Tryd.prog 11 = true := by kernel_rfl
def F_Z1:TFn := ⟨7,3,[.celln 2 1],(.seq (.reg [(oQ 1 (.box 0 (.t 0))),(oQ 2 (.newz 1 [(.p (.sl 0 [] true))]))])
 (.seq (.reg [(fQ 3 0 1),(lQ 4 3),(kQ 5 2 8 [(.t 4)]),(oQ 6 (.build [(.p (.sl 0 [] true))] [(0,1,(.t 5))])),(sQ 1 2 6)])
 .ret))⟩
def A_Z1:Nat→Ty := tyAt [.un,.un,.un]
abbrev P_Z1:List PSh := [.agg (.sl tQ)]
abbrev R_Z1:List PSh := [.agg (.sl tQ)]
theorem e_Z1:cFn Tryd.prog 13 = some F_Z1.erase := by kernel_rfl
theorem k_Z1:callable Tryd.prog 13 = true := by kernel_rfl
def F_Z15:TFn := ⟨6,2,[.tmp 2],(.seq (.reg [(oQ 2 (.mv (.c (.p (.sl 0 [] true)))))])
 (.seq (.reg [(oQ 3 (.bsl true 0 2 0 [] [])),(mQ 4 0),(oQ 5 (.app 1 2 16 (.t 3) (.t 4))),(mQ 2 5)])
 .ret))⟩
def A_Z15:Nat→Ty := tyAt [pQ,pQ]
abbrev P_Z15:List PSh := [.one (.sl pQ)]
abbrev R_Z15:List PSh := [.one (.sl pQ)]
theorem e_Z15:cFn Tryd.prog 14 = some F_Z15.erase := by kernel_rfl
theorem k_Z15:callable Tryd.prog 14 = true := by kernel_rfl
def F_Z3:TFn := ⟨48,17,[.tmp 4,.tmp 5],(.seq (.reg [(oQ 2 (.box 0 (.t 0))),(oQ 4 (.mv (.c (.p (.sl 0 [] true))))),(oQ 5 (.mv (iQ 0)))])
 (.seq (.seq (.reg [(nQ 13 1 2),(kQ 14 1 31 [(.t 13)]),(mQ 15 1),(kQ 16 2 24 [(.t 15)]),(oQ 17 (.bsl false 3 1 2 [zQ,zQ] [(0,1,(.t 14)),(1,1,(.t 16))])),(kQ 18 4 22 [(.t 17)]),(mQ 6 18)])
 (.seq (.reg [(mQ 19 6),(cQ 20 .neq 19 0)])
 (.cond (.t 20) (.seq (.reg [(mQ 21 6),(oQ 4 (.mv (.c (.p (.sl 0 [] true))))),(mQ 5 21)])
 .ret) .skip)))
 (.seq (.regd [(nQ 22 1 2),(kQ 23 5 32 [(.t 22)]),(nQ 24 1 2),(kQ 25 6 33 [(.t 24)]),(oQ 7 (.newz 7 [(.p (.sl 0 [] true))])),(oQ 8 (.newz 8 [zQ])),(sQ 1 7 23),(sQ 1 8 25)] [(0,2),(1,2),(0,4),(1,4),(2,4),(3,4),(0,5),(1,5),(2,5),(3,5),(4,5)] [])
 (.seq (.reg [(oQ 9 (.newz 9 [(.p (.sl 0 [] true))]))])
 (.seq (.seq (.reg [(mQ 26 1),(lQ 27 7),(hQ 28 27),(kQ 29 10 27 [(.t 26),(.t 28)])])
 (.block 0 (.rng (.t 29) [30,31] [30,31,11,32,33,34,12,35,36,37,38,39,40,41,42,43,44,45,46] [.q 9 16 pQ] [9,12,16] [12,16] (.reg [(mQ 11 31)])
 (.block 1 (.seq (.reg [(lQ 32 7),(mQ 33 11),(kQ 34 11 28 [(.t 32),(.t 33)]),(oQ 12 (.newz 12 [zQ,zQ])),(sQ 2 12 34)])
 (.regd [(lQ 35 9),(fQ 36 0 12),(lQ 37 36),(lQ 38 8),(kQ 39 13 34 [(.t 37),(.t 38)]),(fQ 40 1 12),(lQ 41 40),(lQ 42 8),(kQ 43 14 35 [(.t 41),(.t 42)]),(oQ 44 (.build [zQ,zQ] [(0,1,(.t 39)),(1,1,(.t 43))])),(oQ 45 (.bsl false 15 2 1 [zQ,zQ] [(0,2,(.t 44))])),(oQ 46 (.app 16 2 16 (.t 35) (.t 45))),(sQ 1 9 46)] [(0,2),(0,3),(2,3),(0,4),(0,6),(2,6),(3,6),(4,6),(0,7),(2,7),(3,7),(4,7),(6,7),(0,8)] []))))))
 (.seq (.reg [(lQ 47 9),(mQ 4 47),(oQ 5 (.mv (iQ 0)))])
 .ret))))))⟩
def A_Z3:Nat→Ty := tyAt [.un,.un,.un,tQ,.un,.un,.un,.un,.un,.un,.un,.un,.un,.un,.un,pQ,pQ]
abbrev P_Z3:List PSh := [.agg (.sl tQ),.one (.sl pQ)]
abbrev R_Z3:List PSh := [.one (.sl pQ),.one tQ]
theorem e_Z3:cFn Tryd.prog 12 = some F_Z3.erase := by kernel_rfl
theorem k_Z3:callable Tryd.prog 12 = true := by kernel_rfl
def F_Z4:TFn := ⟨84,13,[.celln 4 1,.tmp 5],(.seq (.reg [(oQ 2 (.box 0 (.t 0))),(oQ 3 (.box 1 (.t 1))),(oQ 4 (.newz 2 [(.p (.sl 0 [] true))])),(oQ 5 (.mv (iQ 0)))])
 (.seq (.seq (.regd [(nQ 15 1 2),(kQ 16 3 31 [(.t 15)]),(nQ 17 1 3),(kQ 18 4 31 [(.t 17)]),(fQ 19 0 2),(lQ 20 19),(hQ 21 20),(fQ 22 0 3),(lQ 23 22),(hQ 24 23),(bQ 25 .add 21 24),(cQ 26 .sub 25 1),(cQ 27 .leq 26 9),(kQ 28 5 25 [(.t 27),(iQ 8)]),(oQ 29 (.bsl false 6 1 3 [zQ,zQ,zQ] [(0,1,(.t 16)),(1,1,(.t 18)),(2,1,(.t 28))])),(kQ 30 7 22 [(.t 29)]),(mQ 6 30)] [(0,2),(1,2),(0,5),(1,5),(2,5),(3,5),(0,8),(1,8),(2,8),(3,8),(5,8)] [])
 (.seq (.reg [(mQ 31 6),(cQ 32 .neq 31 0)])
 (.cond (.t 32) (.seq (.reg [(oQ 33 (.build [(.p (.sl 0 [] true))] [])),(mQ 34 6),(sQ 1 4 33),(mQ 5 34)])
 .ret) .skip)))
 (.seq (.regd [(nQ 35 1 2),(kQ 36 8 32 [(.t 35)]),(nQ 37 1 3),(kQ 38 9 32 [(.t 37)]),(mQ 7 36),(mQ 8 38)] [(0,2),(1,2)] [])
 (.seq (.reg [(mQ 39 7),(hQ 40 39),(mQ 41 8),(hQ 42 41),(bQ 43 .add 40 42),(cQ 44 .sub 43 1),(oQ 45 (.mk 10 1 8 [zQ] (.t 44))),(mQ 9 45)])
 (.seq (.seq (.reg [(mQ 46 7),(hQ 47 46),(oQ 48 (.mv (iQ 0)))])
 (.block 0 (.loop [.v 48 tQ,.d 10 tQ] [10] [] (.seq (.reg [(bQ 49 .lss 48 47)])
 (.seq (.cond (.t 49) .skip (.exit 0))
 (.seq (.block 1 (.seq (.reg [(mQ 50 48),(jQ 51 1 46 48),(lQ 52 51),(mQ 10 50),(mQ 11 52)])
 (.seq (.reg [(mQ 53 8),(hQ 54 53),(oQ 55 (.mv (iQ 0)))])
 (.block 2 (.loop [.v 55 tQ,.d 10 tQ] [10] [] (.seq (.reg [(bQ 56 .lss 55 54)])
 (.seq (.cond (.t 56) .skip (.exit 2))
 (.seq (.block 3 (.seq (.reg [(mQ 57 55),(jQ 58 1 53 55),(lQ 59 58),(mQ 12 57),(mQ 13 59)])
 (.reg [(mQ 60 9),(mQ 61 10),(mQ 62 12),(bQ 63 .add 61 62),(jQ 64 1 60 63),(lQ 65 64),(mQ 66 11),(mQ 67 13),(bQ 68 .mul 66 67),(bQ 69 .add 65 68),(jQ 70 1 60 63),(sQ 1 70 69)])))
 (.reg [(cQ 71 .add 55 1),(mQ 55 71)])))))))))
 (.reg [(cQ 72 .add 48 1),(mQ 48 72)])))))))
 (.seq (.reg [(mQ 73 9),(mQ 74 9),(hQ 75 74),(cQ 76 .quo 75 2),(oQ 77 (.sl 1 (.t 73) (some (.t 76)) none)),(oQ 78 (.build [(.p (.sl 0 [] true))] [(0,1,(.t 77))])),(oQ 14 (.newz 11 [(.p (.sl 0 [] true))])),(sQ 1 14 78)])
 (.seq (.seq (.reg [(fQ 79 0 14),(lQ 80 79),(kQ 81 12 36 [(.t 80),(.c (.clo 37 []))])])
 (.cond (.t 81) (.seq (.reg [(oQ 82 (.build [(.p (.sl 0 [] true))] [])),(sQ 1 4 82),(oQ 5 (.mv (iQ 8)))])
 .ret) .skip))
 (.seq (.reg [(nQ 83 1 14),(sQ 1 4 83),(oQ 5 (.mv (iQ 0)))])
 .ret))))))))⟩
def A_Z4:Nat→Ty := tyAt [.un,.un,.un,.un,.un,.un,tQ,.un,.un,.un,tQ,.un,.un]
abbrev P_Z4:List PSh := [.agg (.sl tQ),.agg (.sl tQ)]
abbrev R_Z4:List PSh := [.agg (.sl tQ),.one tQ]
theorem e_Z4:cFn Tryd.prog 15 = some F_Z4.erase := by kernel_rfl
theorem k_Z4:callable Tryd.prog 15 = true := by kernel_rfl
def F_Z1b:TFn := ⟨17,0,[.tmp 4,.tmp 5],(.seq (.reg [(oQ 4 (.mv (.c (.p (.int .u32 0))))),(oQ 5 (.mv (.c (.p (.int .u32 0)))))])
 (.seq (.reg [(mQ 7 0),(oQ 8 (.conv .u64 (.t 7))),(mQ 9 1),(oQ 10 (.conv .u64 (.t 9))),(bQ 11 .mul 8 10),(mQ 6 11)])
 (.seq (.reg [(mQ 12 6),(oQ 13 (.sh false (.t 12) (.c (.p (.int .u64 32))))),(oQ 14 (.conv .u32 (.t 13))),(mQ 15 6),(oQ 16 (.conv .u32 (.t 15))),(mQ 4 14),(mQ 5 16)])
 .ret)))⟩
def A_Z1b:Nat→Ty := tyAt []
abbrev P_Z1b:List PSh := [.one (.int .u32),.one (.int .u32)]
abbrev R_Z1b:List PSh := [.one (.int .u32),.one (.int .u32)]
theorem e_Z1b:cFn Tryd.prog 56 = some F_Z1b.erase := by kernel_rfl
theorem k_Z1b:callable Tryd.prog 56 = true := by kernel_rfl
def F_Z1g:TFn := ⟨5,1,[.tmp 0],(.seq (.reg [(oQ 0 (.mv (.c (.p (.sl 0 [] true)))))])
 (.seq (.reg [(oQ 1 (.build [zQ,zQ] [(1,1,(iQ 2))])),(oQ 2 (.build [zQ,zQ] [(0,1,(iQ 1)),(1,1,(iQ 1))])),(oQ 3 (.build [zQ,zQ] [(0,1,(iQ 4)),(1,1,(iQ 6))])),(oQ 4 (.bsl false 0 2 3 [zQ,zQ,zQ,zQ,zQ,zQ] [(0,2,(.t 1)),(2,2,(.t 2)),(4,2,(.t 3))])),(mQ 0 4)])
 .ret))⟩
theorem e_Z1g:cFn Tryd.prog 16 = some F_Z1g.erase := by kernel_rfl
def F_Z1h:TFn := ⟨9,2,[.celln 0 2],(.seq (.reg [(oQ 0 (.newz 0 [zQ,(.p (.sl 0 [] true))]))])
 (.seq (.reg [(oQ 1 (.build [zQ,zQ] [(0,1,(iQ 5)),(1,1,(iQ 6))])),(oQ 2 (.build [zQ,zQ,zQ,zQ] [(1,1,(iQ 1)),(2,2,(.t 1))])),(oQ 3 (.build [zQ,zQ] [(0,1,(iQ 2)),(1,1,(iQ 3))])),(oQ 4 (.build [zQ,zQ,zQ,zQ] [(0,1,(iQ 1)),(1,1,(iQ 2)),(2,2,(.t 3))])),(oQ 5 (.build [zQ,zQ] [(0,1,(iQ 7)),(1,1,(iQ 8))])),(oQ 6 (.build [zQ,zQ,zQ,zQ] [(1,1,(iQ 2)),(2,2,(.t 5))])),(oQ 7 (.bsl false 1 4 3 [zQ,zQ,zQ,zQ,zQ,zQ,zQ,zQ,zQ,zQ,zQ,zQ] [(0,4,(.t 2)),(4,4,(.t 4)),(8,4,(.t 6))])),(oQ 8 (.build [zQ,(.p (.sl 0 [] true))] [(0,1,(iQ 3)),(1,1,(.t 7))])),(sQ 2 0 8)])
 .ret))⟩
theorem e_Z1h:cFn Tryd.prog 18 = some F_Z1h.erase := by kernel_rfl
def F_Z1i:TFn := ⟨27,3,[.tmp 2,.tmp 3],(.seq (.reg [(oQ 1 (.box 0 (.t 0))),(oQ 2 (.mv (.c (.p (.sl 0 [] true))))),(oQ 3 (.mv (iQ 0)))])
 (.seq (.seq (.reg [(nQ 9 2 1),(kQ 10 1 39 [(.t 9)]),(mQ 8 10),(oQ 11 (.ext 0 (.t 8))),(oQ 12 (.ext 1 (.t 8))),(mQ 4 11),(mQ 5 12)])
 (.seq (.reg [(mQ 13 5),(cQ 14 .neq 13 0)])
 (.cond (.t 14) (.seq (.reg [(mQ 15 5),(oQ 2 (.mv (.c (.p (.sl 0 [] true))))),(mQ 3 15)])
 .ret) .skip)))
 (.seq (.reg [(fQ 17 0 1),(lQ 18 17),(fQ 19 1 1),(lQ 20 19),(kQ 21 2 40 [(.t 18),(.t 20)]),(mQ 16 21),(oQ 22 (.ext 0 (.t 16))),(oQ 23 (.ext 1 (.t 16))),(mQ 6 22),(mQ 7 23)])
 (.seq (.seq (.reg [(mQ 24 7),(oQ 25 (.unot (.t 24)))])
 (.cond (.t 25) (.seq (.reg [(oQ 2 (.mv (.c (.p (.sl 0 [] true))))),(oQ 3 (.mv (iQ 13)))])
 .ret) .skip))
 (.seq (.reg [(mQ 26 6),(mQ 2 26),(oQ 3 (.mv (iQ 0)))])
 .ret)))))⟩
theorem e_Z1i:cFn Tryd.prog 17 = some F_Z1i.erase := by kernel_rfl
def F_Z1j:TFn := ⟨26,0,[.tmp 4],(.seq (.reg [(oQ 4 (.mv cF))])
 (.seq (.seq (.reg [(mQ 6 0),(hQ 7 6),(mQ 8 1),(hQ 9 8),(bQ 10 .neq 7 9)])
 (.cond (.t 10) (.seq (.reg [(oQ 4 (.mv cF))])
 .ret) .skip))
 (.seq (.seq (.reg [(oQ 5 (.mv (iQ 0)))])
 (.block 0 (.loop [.v 5 tQ] [] [] (.seq (.seq (.reg [(mQ 11 5),(mQ 12 0),(hQ 13 12),(bQ 14 .lss 11 13)])
 (.cond (.t 14) .skip (.exit 0)))
 (.seq (.block 1 (.seq (.regd [(mQ 17 0),(mQ 18 5),(jQ 19 2 17 18),(nQ 20 2 19),(mQ 21 1),(mQ 22 5),(jQ 23 2 21 22),(nQ 24 2 23),(oQ 25 (.eqa true 2 [(true,0),(true,1)] (.t 20) (.t 24)))] [(3,7)] [])
 (.cond (.t 25) (.seq (.reg [(oQ 4 (.mv cF))])
 .ret) .skip)))
 (.reg [(mQ 15 5),(cQ 16 .add 15 1),(mQ 5 16)]))))))
 (.seq (.reg [(oQ 4 (.mv cT))])
 .ret))))⟩
theorem e_Z1j:cFn Tryd.prog 19 = some F_Z1j.erase := by kernel_rfl
def F_Z1k:TFn := ⟨26,0,[.tmp 4],(.seq (.reg [(oQ 4 (.mv cF))])
 (.seq (.seq (.reg [(mQ 6 0),(hQ 7 6),(mQ 8 1),(hQ 9 8),(bQ 10 .neq 7 9)])
 (.cond (.t 10) (.seq (.reg [(oQ 4 (.mv cF))])
 .ret) .skip))
 (.seq (.seq (.reg [(oQ 5 (.mv (iQ 0)))])
 (.block 0 (.loop [.v 5 tQ] [] [] (.seq (.seq (.reg [(mQ 11 5),(mQ 12 0),(hQ 13 12),(bQ 14 .lss 11 13)])
 (.cond (.t 14) .skip (.exit 0)))
 (.seq (.block 1 (.seq (.regd [(mQ 17 0),(mQ 18 5),(jQ 19 1 17 18),(lQ 20 19),(mQ 21 1),(mQ 22 5),(jQ 23 1 21 22),(lQ 24 23),(bQ 25 .neq 20 24)] [(3,7)] [])
 (.cond (.t 25) (.seq (.reg [(oQ 4 (.mv cF))])
 .ret) .skip)))
 (.reg [(mQ 15 5),(cQ 16 .add 15 1),(mQ 5 16)]))))))
 (.seq (.reg [(oQ 4 (.mv cT))])
 .ret))))⟩
theorem e_Z1k:cFn Tryd.prog 20 = some F_Z1k.erase := by kernel_rfl
def F_Z16:TFn := ⟨5,2,[.tmp 2],(.seq (.reg [(oQ 1 (.box 0 (.t 0))),(oQ 2 (.mv (iQ 0)))])
 (.seq (.reg [(nQ 3 1 1),(kQ 4 1 41 [(.t 3),(iQ 0)]),(mQ 2 4)])
 .ret))⟩
def A_Z16:Nat→Ty := tyAt [.un,.un]
abbrev P_Z16:List PSh := [.agg (.sl tQ)]
abbrev R_Z16:List PSh := [.one tQ]
theorem e_Z16:cFn Tryd.prog 21 = some F_Z16.erase := by kernel_rfl
theorem k_Z16:callable Tryd.prog 21 = true := by kernel_rfl
def F_Z19:TFn := ⟨15,5,[.tmp 2],(.seq (.reg [(oQ 2 (.mv (iQ 0)))])
 (.seq (.reg [(mQ 4 0),(kQ 5 0 36 [(.t 4),(.c (.clo 42 []))]),(mQ 3 5)])
 (.seq (.reg [(mQ 6 0),(hQ 7 6),(cQ 8 .leq 7 64),(kQ 9 1 25 [(.t 8),(iQ 8)]),(mQ 10 3),(oQ 11 (.unot (.t 10))),(kQ 12 2 25 [(.t 11),(iQ 2)]),(oQ 13 (.bsl false 3 1 2 [zQ,zQ] [(0,1,(.t 9)),(1,1,(.t 12))])),(kQ 14 4 22 [(.t 13)]),(mQ 2 14)])
 .ret)))⟩
def A_Z19:Nat→Ty := tyAt [.un,.un,.un,tQ,.un]
abbrev P_Z19:List PSh := [.one (.sl tQ)]
abbrev R_Z19:List PSh := [.one tQ]
theorem e_Z19:cFn Tryd.prog 23 = some F_Z19.erase := by kernel_rfl
theorem k_Z19:callable Tryd.prog 23 = true := by kernel_rfl
def F_Za:TFn := ⟨11,1,[.tmp 2],(.seq (.reg [(oQ 2 (.mv (iQ 0)))])
 (.seq (.reg [(mQ 6 0),(kQ 7 0 43 [(.t 6)]),(mQ 5 7),(oQ 8 (.ext 0 (.t 5))),(oQ 9 (.ext 1 (.t 5))),(mQ 3 8),(mQ 4 9)])
 (.seq (.reg [(mQ 10 4),(mQ 2 10)])
 .ret)))⟩
def A_Za:Nat→Ty := tyAt [.un]
abbrev P_Za:List PSh := [.one (.sl pQ)]
abbrev R_Za:List PSh := [.one tQ]
theorem e_Za:cFn Tryd.prog 24 = some F_Za.erase := by kernel_rfl
theorem k_Za:callable Tryd.prog 24 = true := by kernel_rfl
def F_Zl:TFn := ⟨15,0,[.tmp 6],(.seq (.reg [(oQ 6 (.mv cF))])
 (.seq (.reg [(mQ 7 1),(mQ 8 0),(bQ 9 .leq 7 8),(mQ 10 9),(vQ 11 10 true 0),(vQ 12 10 true 2),(gQ 13 10 true (.bin .leq (.t 11) (.t 12))),(oQ 14 (.pick (.t 10) (.t 13) cF)),(mQ 6 14)])
 .ret))⟩
def A_Zl:Nat→Ty := tyAt []
abbrev P_Zl:List PSh := [.one tQ,.one tQ,.one tQ]
abbrev R_Zl:List PSh := [.one .bool]
theorem e_Zl:cFn Tryd.prog 26 = some F_Zl.erase := by kernel_rfl
theorem k_Zl:callable Tryd.prog 26 = true := by kernel_rfl
def F_Z7:TFn := ⟨7,0,[.tmp 4],(.seq (.reg [(oQ 4 (.mv (iQ 0)))])
 (.seq (.seq (.reg [(mQ 5 0)])
 (.cond (.t 5) (.seq (.reg [(oQ 4 (.mv (iQ 0)))])
 .ret) .skip))
 (.seq (.reg [(mQ 6 1),(mQ 4 6)])
 .ret)))⟩
def A_Z7:Nat→Ty := tyAt []
abbrev P_Z7:List PSh := [.one .bool,.one tQ]
abbrev R_Z7:List PSh := [.one tQ]
theorem e_Z7:cFn Tryd.prog 25 = some F_Z7.erase := by kernel_rfl
theorem k_Z7:callable Tryd.prog 25 = true := by kernel_rfl
def F_Z8:TFn := ⟨15,0,[.tmp 2],(.seq (.reg [(oQ 2 (.mv (iQ 0)))])
 (.seq (.seq (.reg [(mQ 5 0),(hQ 6 5),(oQ 7 (.mv (iQ 0)))])
 (.block 0 (.loop [.v 7 tQ] [] [] (.seq (.reg [(bQ 8 .lss 7 6)])
 (.seq (.cond (.t 8) .skip (.exit 0))
 (.seq (.block 1 (.seq (.reg [(jQ 9 1 5 7),(lQ 10 9),(mQ 4 10)])
 (.seq (.reg [(mQ 11 4),(cQ 12 .neq 11 0)])
 (.cond (.t 12) (.seq (.reg [(mQ 13 4),(mQ 2 13)])
 .ret) .skip))))
 (.reg [(cQ 14 .add 7 1),(mQ 7 14)])))))))
 (.seq (.reg [(oQ 2 (.mv (iQ 0)))])
 .ret)))⟩
def A_Z8:Nat→Ty := tyAt []
abbrev P_Z8:List PSh := [.one (.sl tQ)]
abbrev R_Z8:List PSh := [.one tQ]
theorem e_Z8:cFn Tryd.prog 22 = some F_Z8.erase := by kernel_rfl
theorem k_Z8:callable Tryd.prog 22 = true := by kernel_rfl
def F_Z1a:TFn := ⟨6,2,[.tmp 4],(.seq (.reg [(oQ 2 (.box 0 (.t 0))),(oQ 3 (.box 1 (.t 1))),(oQ 4 (.mv (.c .und)))])
 (.seq (.reg [(oQ 5 (.clo 44 [(.t 2),(.t 3)])),(mQ 4 5)])
 .ret))⟩
def A_Z1a:Nat→Ty := tyAt [.un,.un]
abbrev P_Z1a:List PSh := [.one (.sl pQ),.one tQ]
abbrev R_Z1a:List PSh := [.fn 44 [(.sl pQ),tQ]]
theorem e_Z1a:cFn Tryd.prog 27 = some F_Z1a.erase := by kernel_rfl
theorem k_Z1a:callable Tryd.prog 27 = true := by kernel_rfl
def F_Z1f:TFn := ⟨25,1,[],(.seq (.reg [(lQ 5 1),(hQ 6 5),(lQ 7 2),(bQ 8 .sub 6 7),(cQ 9 .add 8 1),(oQ 10 (.mm true (iQ 0) (.t 9))),(oQ 11 (.mv (iQ 0)))])
 (.block 0 (.loop [] [] [] (.seq (.reg [(bQ 12 .lss 11 10)])
 (.seq (.cond (.t 12) .skip (.exit 0))
 (.seq (.block 1 (.seq (.reg [(mQ 13 11),(mQ 4 13)])
 (.seq (.reg [(mQ 14 0),(mQ 15 4),(lQ 16 1),(mQ 17 4),(mQ 18 4),(lQ 19 2),(bQ 20 .add 18 19),(oQ 21 (.sl 2 (.t 16) (some (.t 17)) (some (.t 20)))),⟨some 22,none,(.callv 0 (.t 14) [(.t 15),(.t 21)])⟩,(oQ 23 (.unot (.t 22)))])
 (.cond (.t 23) .ret .skip))))
 (.reg [(cQ 24 .add 11 1),(mQ 11 24)])))))))⟩
theorem e_Z1f:cFn Tryd.prog 44 = some F_Z1f.erase := by kernel_rfl
theorem k_Z1f:callI Tryd.prog 44 = true := by kernel_rfl
def F_Zc:TFn := ⟨46,2,[.celln 4 2],(.seq (.reg [(oQ 4 (.newz 0 [zQ,zQ]))])
 (.seq (.reg [(oQ 5 (.newz 1 [zQ,zQ]))])
 (.seq (.seq (.reg [(mQ 10 0),(hQ 11 10),(oQ 12 (.mv (iQ 0)))])
 (.block 0 (.loop [.v 12 tQ,.c 1 pQ] [1] [] (.seq (.reg [(bQ 13 .lss 12 11)])
 (.seq (.cond (.t 13) .skip (.exit 0))
 (.seq (.block 1 (.seq (.reg [(mQ 14 12),(jQ 15 1 10 12),(lQ 16 15),(mQ 6 14),(mQ 7 16)])
 (.seq (.regd [(mQ 17 7),(mQ 18 1),(mQ 19 6),(jQ 20 2 18 19),(fQ 21 0 20),(lQ 22 21),(bQ 23 .mul 17 22),(mQ 24 7),(mQ 25 1),(mQ 26 6),(jQ 27 2 25 26),(fQ 28 1 27),(lQ 29 28),(bQ 30 .mul 24 29),(mQ 8 23),(mQ 9 30)] [(5,12)] [])
 (.reg [(fQ 31 0 5),(lQ 32 31),(mQ 33 8),(mQ 34 9),(oQ 35 (.mm false (.t 33) (.t 34))),(bQ 36 .add 32 35),(fQ 37 1 5),(lQ 38 37),(mQ 39 8),(mQ 40 9),(oQ 41 (.mm true (.t 39) (.t 40))),(bQ 42 .add 38 41),(oQ 43 (.build [zQ,zQ] [(0,1,(.t 36)),(1,1,(.t 42))])),(sQ 2 5 43)]))))
 (.reg [(cQ 44 .add 12 1),(mQ 12 44)])))))))
 (.seq (.reg [(nQ 45 2 5),(sQ 2 4 45)])
 .ret))))⟩
def A_Zc:Nat→Ty := tyAt [.un,.un]
abbrev P_Zc:List PSh := [.one (.sl tQ),.one (.sl pQ)]
abbrev R_Zc:List PSh := [.agg pQ]
theorem e_Zc:cFn Tryd.prog 28 = some F_Zc.erase := by kernel_rfl
theorem k_Zc:callable Tryd.prog 28 = true := by kernel_rfl
def F_Zm:TFn := ⟨24,1,[.tmp 2,.tmp 3],(.seq (.reg [(oQ 2 (.mv (iQ 0))),(oQ 3 (.mv (iQ 0)))])
 (.seq (.seq (.reg [(mQ 6 0),(hQ 7 6),(cQ 8 .gtr 7 64)])
 (.cond (.t 8) (.seq (.reg [(oQ 2 (.mv (iQ 0))),(oQ 3 (.mv (iQ 8)))])
 .ret) .skip))
 (.seq (.seq (.reg [(oQ 4 (.mv (iQ 0)))])
 (.block 0 (.loop [.v 4 tQ] [] [] (.seq (.seq (.reg [(mQ 9 4),(mQ 10 0),(hQ 11 10),(bQ 12 .lss 9 11)])
 (.cond (.t 12) .skip (.exit 0)))
 (.seq (.block 1 (.seq (.reg [(mQ 15 0),(mQ 16 4),(jQ 17 2 15 16),(nQ 18 2 17),(kQ 19 0 45 [(.t 18),(iQ 1000000)]),(mQ 5 19)])
 (.seq (.reg [(mQ 20 5),(cQ 21 .neq 20 0)])
 (.cond (.t 21) (.seq (.reg [(mQ 22 4),(mQ 23 5),(mQ 2 22),(mQ 3 23)])
 .ret) .skip))))
 (.reg [(mQ 13 4),(cQ 14 .add 13 1),(mQ 4 14)]))))))
 (.seq (.reg [(oQ 2 (.mv (iQ 0))),(oQ 3 (.mv (iQ 0)))])
 .ret))))⟩
def A_Zm:Nat→Ty := tyAt [.un]
abbrev P_Zm:List PSh := [.one (.sl pQ)]
abbrev R_Zm:List PSh := [.one tQ,.one tQ]
theorem e_Zm:cFn Tryd.prog 29 = some F_Zm.erase := by kernel_rfl
theorem k_Zm:callable Tryd.prog 29 = true := by kernel_rfl
abbrev P_Z1e:List PSh := [.one (.sl tQ),.one tQ]
abbrev E_Z1e:Ty := tQ

theorem k_Z1e:callable Tryd.prog 30 = true := by kernel_rfl
def F_Zt:TFn := ⟨30,9,[.tmp 2],(.seq (.reg [(oQ 1 (.box 0 (.t 0))),(oQ 2 (.mv (iQ 0)))])
 (.seq (.reg [(fQ 5 0 1),(lQ 6 5),(kQ 7 1 36 [(.t 6),(.c (.clo 47 []))]),(mQ 3 7)])
 (.seq (.regd [(fQ 8 0 1),(lQ 9 8),(hQ 10 9),(cQ 11 .gtr 10 0),(kQ 12 2 25 [(.t 11),(iQ 10)]),(fQ 13 0 1),(lQ 14 13),(hQ 15 14),(cQ 16 .leq 15 9),(kQ 17 3 25 [(.t 16),(iQ 8)]),(mQ 18 3),(oQ 19 (.unot (.t 18))),(kQ 20 4 25 [(.t 19),(iQ 2)]),(oQ 21 (.bsl false 5 1 3 [zQ,zQ,zQ] [(0,1,(.t 12)),(1,1,(.t 17)),(2,1,(.t 20))])),(kQ 22 6 22 [(.t 21)]),(mQ 4 22)] [(1,6),(4,6)] [])
 (.seq (.seq (.reg [(mQ 23 4),(cQ 24 .neq 23 0)])
 (.cond (.t 24) (.seq (.reg [(mQ 25 4),(mQ 2 25)])
 .ret) .skip))
 (.seq (.reg [(nQ 26 1 1),(kQ 27 7 33 [(.t 26)]),(cQ 28 .gtr 27 0),(kQ 29 8 25 [(.t 28),(iQ 11)]),(mQ 2 29)])
 .ret)))))⟩
def A_Zt:Nat→Ty := tyAt [.un,.un,.un,.un,.un,tQ,.un,.un,.un]
abbrev P_Zt:List PSh := [.agg (.sl tQ)]
abbrev R_Zt:List PSh := [.one tQ]
theorem e_Zt:cFn Tryd.prog 31 = some F_Zt.erase := by kernel_rfl
theorem k_Zt:callable Tryd.prog 31 = true := by kernel_rfl
def F_Z17:TFn := ⟨14,4,[.tmp 2],(.seq (.reg [(oQ 1 (.box 0 (.t 0))),(oQ 2 (.mv (.c (.p (.sl 0 [] true)))))])
 (.seq (.reg [(fQ 4 0 1),(lQ 5 4),(kQ 6 1 48 [(.t 5)]),(mQ 3 6)])
 (.seq (.reg [(mQ 7 3),(kQ 8 2 49 [(.t 7)])])
 (.seq (.reg [(mQ 9 3),(fQ 10 0 1),(lQ 11 10),(oQ 12 (.sl 1 (.t 11) (some (iQ 1)) none)),(oQ 13 (.app 3 1 8 (.t 9) (.t 12))),(mQ 2 13)])
 .ret))))⟩
def A_Z17:Nat→Ty := tyAt [.un,.un,.un,tQ]
abbrev P_Z17:List PSh := [.agg (.sl tQ)]
abbrev R_Z17:List PSh := [.one (.sl tQ)]
theorem e_Z17:cFn Tryd.prog 32 = some F_Z17.erase := by kernel_rfl
theorem k_Z17:callable Tryd.prog 32 = true := by kernel_rfl
def F_Zn:TFn := ⟨18,2,[.tmp 2],(.seq (.reg [(oQ 1 (.box 0 (.t 0))),(oQ 2 (.mv (iQ 0)))])
 (.seq (.reg [(oQ 3 (.mv (iQ 0)))])
 (.seq (.seq (.reg [(nQ 6 1 1),(kQ 7 1 32 [(.t 6)]),(hQ 8 7),(oQ 9 (.mv (iQ 0)))])
 (.block 0 (.loop [.v 9 tQ,.v 3 tQ] [] [] (.seq (.reg [(bQ 10 .lss 9 8)])
 (.seq (.cond (.t 10) .skip (.exit 0))
 (.seq (.block 1 (.seq (.reg [(jQ 11 1 7 9),(lQ 12 11),(mQ 5 12)])
 (.reg [(mQ 13 3),(mQ 14 5),(bQ 15 .add 13 14),(mQ 3 15)])))
 (.reg [(cQ 16 .add 9 1),(mQ 9 16)])))))))
 (.seq (.reg [(mQ 17 3),(mQ 2 17)])
 .ret))))⟩
def A_Zn:Nat→Ty := tyAt [.un,.un]
abbrev P_Zn:List PSh := [.agg (.sl tQ)]
abbrev R_Zn:List PSh := [.one tQ]
theorem e_Zn:cFn Tryd.prog 33 = some F_Zn.erase := by kernel_rfl
theorem k_Zn:callable Tryd.prog 33 = true := by kernel_rfl
def F_Zv:TFn := ⟨17,0,[.tmp 4],(.seq (.reg [(oQ 4 (.mv (iQ 0)))])
 (.seq (.reg [(mQ 6 0),(mQ 7 1),(bQ 8 .quo 6 7),(mQ 5 8)])
 (.seq (.seq (.reg [(mQ 9 5),(mQ 10 1),(bQ 11 .mul 9 10),(mQ 12 0),(bQ 13 .gtr 11 12)])
 (.cond (.t 13) (.reg [(mQ 14 5),(cQ 15 .sub 14 1),(mQ 5 15)]) .skip))
 (.seq (.reg [(mQ 16 5),(mQ 4 16)])
 .ret))))⟩
def A_Zv:Nat→Ty := tyAt []
abbrev P_Zv:List PSh := [.one tQ,.one tQ]
abbrev R_Zv:List PSh := [.one tQ]
theorem e_Zv:cFn Tryd.prog 34 = some F_Zv.erase := by kernel_rfl
theorem k_Zv:callable Tryd.prog 34 = true := by kernel_rfl
def F_Zw:TFn := ⟨10,1,[.tmp 4],(.seq (.reg [(oQ 4 (.mv (iQ 0)))])
 (.seq (.reg [(mQ 5 0),(oQ 6 (.uneg (.t 5))),(mQ 7 1),(kQ 8 0 34 [(.t 6),(.t 7)]),(oQ 9 (.uneg (.t 8))),(mQ 4 9)])
 .ret))⟩
def A_Zw:Nat→Ty := tyAt [.un]
abbrev P_Zw:List PSh := [.one tQ,.one tQ]
abbrev R_Zw:List PSh := [.one tQ]
theorem e_Zw:cFn Tryd.prog 35 = some F_Zw.erase := by kernel_rfl
theorem k_Zw:callable Tryd.prog 35 = true := by kernel_rfl
def F_Z12:TFn := ⟨14,4,[.tmp 2],(.seq (.reg [(oQ 1 (.box 0 (.t 0))),(oQ 2 (.mv (.c (.p (.sl 0 [] true)))))])
 (.seq (.reg [(fQ 4 0 1),(lQ 5 4),(kQ 6 1 48 [(.t 5)]),(mQ 3 6)])
 (.seq (.reg [(mQ 7 3),(kQ 8 2 49 [(.t 7)])])
 (.seq (.reg [(mQ 9 3),(fQ 10 0 1),(lQ 11 10),(oQ 12 (.sl 1 (.t 11) (some (iQ 1)) none)),(oQ 13 (.app 3 1 8 (.t 9) (.t 12))),(mQ 2 13)])
 .ret))))⟩
def A_Z12:Nat→Ty := tyAt [.un,.un,.un,tQ]
abbrev P_Z12:List PSh := [.agg (.sl tQ)]
abbrev E_Z12:Ty := tQ
theorem e_Z12:cFn Tryd.prog 32 = some F_Z12.erase := by kernel_rfl
theorem k_Z12:callable Tryd.prog 32 = true := by kernel_rfl
def F_Zq:TFn := ⟨9,1,[.tmp 4],(.seq (.reg [(oQ 4 (.mv cF))])
 (.seq (.reg [(mQ 5 0),(mQ 6 1),(kQ 7 0 50 [(.t 5),(.t 6)]),(cQ 8 .geq 7 0),(mQ 4 8)])
 .ret))⟩
def A_Zq:Nat→Ty := tyAt [.un]
abbrev P_Zq:List PSh := [.one (.sl tQ),.fn 37 []]
abbrev R_Zq:List PSh := [.one .bool]
theorem e_Zq:cFn Tryd.prog 36 = some F_Zq.erase := by kernel_rfl
theorem k_Zq:callable Tryd.prog 36 = true := by kernel_rfl
def F_Z1l:TFn := ⟨63,14,[.tmp 2,.tmp 3],(.seq (.reg [(oQ 1 (.box 0 (.t 0))),(oQ 2 (.mv (iQ 0))),(oQ 3 (.mv (iQ 0)))])
 (.seq (.seq (.regd [(fQ 9 0 1),(lQ 10 9),(kQ 11 1 26 [(.t 10),(iQ 1),(iQ 8)]),(kQ 12 2 25 [(.t 11),(iQ 2)]),(fQ 13 1 1),(lQ 14 13),(hQ 15 14),(cQ 16 .leq 15 12),(kQ 17 3 25 [(.t 16),(iQ 8)]),(oQ 18 (.bsl false 4 1 2 [zQ,zQ] [(0,1,(.t 12)),(1,1,(.t 17))])),(kQ 19 5 22 [(.t 18)]),(mQ 4 19)] [(1,5),(2,5),(3,5)] [])
 (.seq (.reg [(mQ 20 4),(cQ 21 .neq 20 0)])
 (.cond (.t 21) (.seq (.reg [(mQ 22 4),(oQ 2 (.mv (iQ 0))),(mQ 3 22)])
 .ret) .skip)))
 (.seq (.seq (.reg [(fQ 23 1 1),(lQ 24 23),(hQ 25 24),(oQ 26 (.mv (iQ 0)))])
 (.block 0 (.loop [.v 26 tQ] [6] [6] (.seq (.reg [(bQ 27 .lss 26 25)])
 (.seq (.cond (.t 27) .skip (.exit 0))
 (.seq (.block 1 (.seq (.reg [(mQ 28 26),(jQ 29 4 24 26),(nQ 30 4 29),(oQ 6 (.newz 6 [zQ,zQ,zQ,zQ])),(mQ 5 28),(sQ 4 6 30)])
 (.seq (.reg [(fQ 31 0 6),(lQ 32 31),(fQ 33 0 1),(lQ 34 33),(cQ 35 .sub 34 1),(kQ 36 7 26 [(.t 32),(iQ 0),(.t 35)]),(mQ 37 36),(gQ 38 37 true (.fa 1 (.t 6))),(gQ 39 37 true (.ld1 (.t 38))),(gQ 40 37 true (.fa 0 (.t 1))),(gQ 41 37 true (.ld1 (.t 40))),(gQ 42 37 true (.bin .sub (.t 41) (iQ 1))),⟨some 43,some (some 37,true),(.call 8 26 [(.t 39),(iQ 0),(.t 42)])⟩,(oQ 44 (.pick (.t 37) (.t 43) cF)),(mQ 7 44)])
 (.seq (.regd [(mQ 45 7),(kQ 46 9 25 [(.t 45),(iQ 6)]),(fQ 47 0 6),(lQ 48 47),(fQ 49 1 6),(lQ 50 49),(bQ 51 .neq 48 50),(kQ 52 10 25 [(.t 51),(iQ 13)]),(fQ 53 2 6),(nQ 54 2 53),(kQ 55 11 51 [(.t 54),(iQ 1000000)]),(oQ 56 (.bsl false 12 1 3 [zQ,zQ,zQ] [(0,1,(.t 46)),(1,1,(.t 52)),(2,1,(.t 55))])),(kQ 57 13 22 [(.t 56)]),(mQ 8 57)] [(1,3),(1,5),(3,5),(1,9),(3,9),(5,9),(7,9)] [])
 (.seq (.reg [(mQ 58 8),(cQ 59 .neq 58 0)])
 (.cond (.t 59) (.seq (.reg [(mQ 60 5),(mQ 61 8),(mQ 2 60),(mQ 3 61)])
 .ret) .skip))))))
 (.reg [(cQ 62 .add 26 1),(mQ 26 62)])))))))
 (.seq (.reg [(oQ 2 (.mv (iQ 0))),(oQ 3 (.mv (iQ 0)))])
 .ret))))⟩
theorem e_Z1l:cFn Tryd.prog 39 = some F_Z1l.erase := by kernel_rfl
def F_Z1m:TFn := ⟨18,4,[.tmp 4,.tmp 5],(.seq (.reg [(oQ 4 (.mv (.c (.p (.sl 0 [] true))))),(oQ 5 (.mv cF))])
 (.seq (.reg [(mQ 8 0),(oQ 9 (.mk 0 1 8 [zQ] (.t 8))),(mQ 6 9)])
 (.seq (.reg [(mQ 10 1),(mQ 11 6),(oQ 12 (.bsl false 1 1 1 [(.p (.bool false))] [(0,1,cT)])),(mQ 13 0),(kQ 14 2 53 [(.t 12),(.t 13)]),(kQ 15 3 52 [(.t 10),(.t 11),(.t 14)]),(mQ 7 15)])
 (.seq (.reg [(mQ 16 6),(mQ 17 7),(mQ 4 16),(mQ 5 17)])
 .ret))))⟩
theorem e_Z1m:cFn Tryd.prog 40 = some F_Z1m.erase := by kernel_rfl
def F_Zo:TFn := ⟨35,4,[.tmp 4],(.seq (.reg [(oQ 2 (.box 0 (.t 0))),(oQ 4 (.mv (iQ 0)))])
 (.seq (.reg [(oQ 5 (.mv (iQ 0)))])
 (.seq (.seq (.reg [(fQ 8 0 2),(lQ 9 8),(hQ 10 9),(oQ 11 (.uneg (.t 10))),(cQ 12 .add 11 1),(mQ 6 12)])
 (.block 0 (.loop [.v 6 tQ,.v 5 tQ] [] [] (.seq (.seq (.reg [(mQ 13 6),(fQ 14 0 2),(lQ 15 14),(hQ 16 15),(bQ 17 .lss 13 16)])
 (.cond (.t 17) .skip (.exit 0)))
 (.seq (.block 1 (.seq (.reg [(oQ 20 (.bsl false 1 1 4 [zQ,zQ,zQ,zQ] [(0,1,(iQ 1)),(1,1,(iQ 0)),(2,1,(iQ (-1))),(3,1,(iQ 0))])),(mQ 21 6),(mQ 22 1),(bQ 23 .mul 21 22),(kQ 24 2 54 [(.t 23),(iQ 4)]),(jQ 25 1 20 24),(lQ 26 25),(mQ 7 26)])
 (.reg [(mQ 27 5),(mQ 28 7),(nQ 29 1 2),(mQ 30 6),(kQ 31 3 55 [(.t 29),(.t 30)]),(bQ 32 .mul 28 31),(bQ 33 .add 27 32),(mQ 5 33)])))
 (.reg [(mQ 18 6),(cQ 19 .add 18 1),(mQ 6 19)]))))))
 (.seq (.reg [(mQ 34 5),(mQ 4 34)])
 .ret))))⟩
def A_Zo:Nat→Ty := tyAt [.un,tQ,.un,.un]
abbrev P_Zo:List PSh := [.agg (.sl tQ),.one tQ]
abbrev R_Zo:List PSh := [.one tQ]
theorem e_Zo:cFn Tryd.prog 41 = some F_Zo.erase := by kernel_rfl
theorem k_Zo:callable Tryd.prog 41 = true := by kernel_rfl
def F_Zr:TFn := ⟨9,1,[.tmp 4],(.seq (.reg [(oQ 4 (.mv cF))])
 (.seq (.reg [(mQ 5 0),(mQ 6 1),(kQ 7 0 50 [(.t 5),(.t 6)]),(cQ 8 .geq 7 0),(mQ 4 8)])
 .ret))⟩
def A_Zr:Nat→Ty := tyAt [.un]
abbrev P_Zr:List PSh := [.one (.sl tQ),.fn 42 []]
abbrev R_Zr:List PSh := [.one .bool]
theorem e_Zr:cFn Tryd.prog 36 = some F_Zr.erase := by kernel_rfl
theorem k_Zr:callable Tryd.prog 36 = true := by kernel_rfl
def F_Zf:TFn := ⟨24,2,[.tmp 2,.tmp 3],(.seq (.reg [(oQ 2 (.mv (iQ 0))),(oQ 3 (.mv (iQ 0)))])
 (.seq (.seq (.reg [(mQ 7 0),(hQ 8 7),(cQ 9 .gtr 8 64)])
 (.cond (.t 9) (.seq (.reg [(oQ 2 (.mv (iQ 0))),(oQ 3 (.mv (iQ 8)))])
 .ret) .skip))
 (.seq (.seq (.reg [(mQ 10 0),(hQ 11 10),(oQ 12 (.mv (iQ 0)))])
 (.block 0 (.loop [.v 12 tQ] [0] [0] (.seq (.reg [(bQ 13 .lss 12 11)])
 (.seq (.cond (.t 13) .skip (.exit 0))
 (.seq (.block 1 (.seq (.reg [(mQ 14 12),(jQ 15 2 10 12),(nQ 16 2 15),(oQ 5 (.newz 0 [zQ,zQ])),(mQ 4 14),(sQ 2 5 16)])
 (.seq (.reg [(nQ 17 2 5),(kQ 18 1 51 [(.t 17),(iQ 1000000)]),(mQ 6 18)])
 (.seq (.reg [(mQ 19 6),(cQ 20 .neq 19 0)])
 (.cond (.t 20) (.seq (.reg [(mQ 21 4),(mQ 22 6),(mQ 2 21),(mQ 3 22)])
 .ret) .skip)))))
 (.reg [(cQ 23 .add 12 1),(mQ 12 23)])))))))
 (.seq (.reg [(oQ 2 (.mv (iQ 0))),(oQ 3 (.mv (iQ 0)))])
 .ret))))⟩
def A_Zf:Nat→Ty := tyAt [.un,.un]
abbrev P_Zf:List PSh := [.one (.sl pQ)]
abbrev R_Zf:List PSh := [.one tQ,.one tQ]
theorem e_Zf:cFn Tryd.prog 43 = some F_Zf.erase := by kernel_rfl
theorem k_Zf:callable Tryd.prog 43 = true := by kernel_rfl
def F_Z13:TFn := ⟨26,3,[.tmp 4],(.seq (.reg [(oQ 2 (.box 0 (.t 0))),(oQ 4 (.mv (iQ 0)))])
 (.seq (.seq (.reg [(fQ 5 0 2),(lQ 6 5),(mQ 7 1),(oQ 8 (.uneg (.t 7))),(mQ 9 1),(kQ 10 1 5 [(.t 6),(.t 8),(.t 9)]),(oQ 11 (.unot (.t 10))),(mQ 12 11),(gQ 13 12 false (.fa 1 (.t 2))),(gQ 14 12 false (.ld1 (.t 13))),(vQ 15 12 false 1),(gQ 16 12 false (.uneg (.t 15))),(vQ 17 12 false 1),⟨some 18,some (some 12,false),(.call 2 5 [(.t 14),(.t 16),(.t 17)])⟩,(gQ 19 12 false (.unot (.t 18))),(oQ 20 (.pick (.t 12) cT (.t 19)))])
 (.cond (.t 20) (.seq (.reg [(oQ 4 (.mv (iQ 2)))])
 .ret) .skip))
 (.seq (.seq (.reg [(fQ 21 0 2),(lQ 22 21),(fQ 23 1 2),(lQ 24 23),(bQ 25 .gtr 22 24)])
 (.cond (.t 25) (.seq (.reg [(oQ 4 (.mv (iQ 9)))])
 .ret) .skip))
 (.seq (.reg [(oQ 4 (.mv (iQ 0)))])
 .ret))))⟩
def A_Z13:Nat→Ty := tyAt [.un,.un,.un]
abbrev P_Z13:List PSh := [.agg pQ,.one tQ]
abbrev R_Z13:List PSh := [.one tQ]
theorem e_Z13:cFn Tryd.prog 45 = some F_Z13.erase := by kernel_rfl
theorem k_Z13:callable Tryd.prog 45 = true := by kernel_rfl
def F_Zp:TFn := ⟨9,1,[.tmp 4],(.seq (.reg [(oQ 4 (.mv cF))])
 (.seq (.reg [(mQ 5 0),(mQ 6 1),(kQ 7 0 50 [(.t 5),(.t 6)]),(cQ 8 .geq 7 0),(mQ 4 8)])
 .ret))⟩
def A_Zp:Nat→Ty := tyAt [.un]
abbrev P_Zp:List PSh := [.one (.sl tQ),.fn 47 []]
abbrev R_Zp:List PSh := [.one .bool]
theorem e_Zp:cFn Tryd.prog 36 = some F_Zp.erase := by kernel_rfl
theorem k_Zp:callable Tryd.prog 36 = true := by kernel_rfl
def F_Z1c:TFn := ⟨8,2,[.tmp 2],(.seq (.reg [(oQ 2 (.mv (.c (.p (.sl 0 [] true)))))])
 (.seq (.seq (.reg [(mQ 3 0),(oQ 4 (.isn (.t 3)))])
 (.cond (.t 4) (.seq (.reg [(oQ 2 (.mv (.c (.p (.sl 0 [] true)))))])
 .ret) .skip))
 (.seq (.reg [(oQ 5 (.bsl true 0 1 0 [] [])),(mQ 6 0),(oQ 7 (.app 1 1 8 (.t 5) (.t 6))),(mQ 2 7)])
 .ret)))⟩
def A_Z1c:Nat→Ty := tyAt [tQ,tQ]
abbrev P_Z1c:List PSh := [.one (.sl tQ)]
abbrev E_Z1c:Ty := tQ
theorem e_Z1c:cFn Tryd.prog 48 = some F_Z1c.erase := by kernel_rfl
theorem k_Z1c:callable Tryd.prog 48 = true := by kernel_rfl
def F_Zb:TFn := ⟨28,0,[],(.seq (.reg [(mQ 4 0),(hQ 5 4),(cQ 6 .sub 5 1),(oQ 2 (.mv (iQ 0))),(mQ 3 6)])
 (.block 0 (.loop [.v 3 tQ,.v 2 tQ,.d 0 tQ] [0] [] (.seq (.seq (.reg [(mQ 7 2),(mQ 8 3),(bQ 9 .lss 7 8)])
 (.cond (.t 9) .skip (.exit 0)))
 (.seq (.block 1 (.regd [(mQ 14 0),(mQ 15 2),(mQ 16 0),(mQ 17 3),(mQ 18 0),(mQ 19 3),(jQ 20 1 18 19),(lQ 21 20),(mQ 22 0),(mQ 23 2),(jQ 24 1 22 23),(lQ 25 24),(jQ 26 1 14 15),(sQ 1 26 21),(jQ 27 1 16 17),(sQ 1 27 25)] [(7,11)] []))
 (.reg [(mQ 10 2),(cQ 11 .add 10 1),(mQ 12 3),(cQ 13 .sub 12 1),(mQ 2 11),(mQ 3 13)]))))))⟩
def A_Zb:Nat→Ty := tyAt [.un]
abbrev P_Zb:List PSh := [.one (.sl tQ)]
abbrev R_Zb:List PSh := [.one (.sl tQ)]
theorem e_Zb:cFnN Tryd.prog 1 49 = some F_Zb.erase := by kernel_rfl
theorem k_Zb:callable Tryd.prog 49 = true := by kernel_rfl
def F_Zi:TFn := ⟨19,1,[.tmp 4],(.seq (.reg [(oQ 4 (.mv (iQ 0)))])
 (.seq (.seq (.reg [(mQ 6 0),(hQ 7 6),(oQ 8 (.mv (iQ 0)))])
 (.block 0 (.loop [.v 8 tQ] [] [] (.seq (.reg [(bQ 9 .lss 8 7)])
 (.seq (.cond (.t 9) .skip (.exit 0))
 (.seq (.block 1 (.seq (.reg [(mQ 10 8),(mQ 5 10)])
 (.seq (.reg [(mQ 11 1),(mQ 12 0),(mQ 13 5),(jQ 14 1 12 13),(lQ 15 14),⟨some 16,none,(.callv 0 (.t 11) [(.t 15)])⟩])
 (.cond (.t 16) (.seq (.reg [(mQ 17 5),(mQ 4 17)])
 .ret) .skip))))
 (.reg [(cQ 18 .add 8 1),(mQ 8 18)])))))))
 (.seq (.reg [(oQ 4 (.mv (iQ (-1))))])
 .ret)))⟩
def A_Zi:Nat→Ty := tyAt [.un]
abbrev P_Zi:List PSh := [.one (.sl tQ),.fn 37 []]
abbrev R_Zi:List PSh := [.one tQ]
theorem e_Zi:cFn Tryd.prog 50 = some F_Zi.erase := by kernel_rfl
theorem k_Zi:callable Tryd.prog 50 = true := by kernel_rfl
def F_Zg:TFn := ⟨24,7,[.tmp 4],(.seq (.reg [(oQ 2 (.box 0 (.t 0))),(oQ 4 (.mv (iQ 0)))])
 (.seq (.regd [(fQ 5 0 2),(lQ 6 5),(mQ 7 1),(kQ 8 1 38 [(.t 6),(.t 7)]),(mQ 9 8),(gQ 10 9 true (.fa 1 (.t 2))),(gQ 11 9 true (.ld1 (.t 10))),(vQ 12 9 true 1),⟨some 13,some (some 9,true),(.call 2 38 [(.t 11),(.t 12)])⟩,(oQ 14 (.pick (.t 9) (.t 13) cF)),(kQ 15 3 25 [(.t 14),(iQ 2)]),(fQ 16 0 2),(lQ 17 16),(fQ 18 1 2),(lQ 19 18),(bQ 20 .leq 17 19),(kQ 21 4 25 [(.t 20),(iQ 9)]),(oQ 22 (.bsl false 5 1 2 [zQ,zQ] [(0,1,(.t 15)),(1,1,(.t 21))])),(kQ 23 6 22 [(.t 22)]),(mQ 4 23)] [(1,12),(3,12),(6,12),(8,12),(10,12),(1,14),(3,14),(6,14),(8,14),(10,14),(12,14)] [])
 .ret))⟩
def A_Zg:Nat→Ty := tyAt [.un,.un,.un,.un,.un,tQ,.un]
abbrev P_Zg:List PSh := [.agg pQ,.one tQ]
abbrev R_Zg:List PSh := [.one tQ]
theorem e_Zg:cFn Tryd.prog 51 = some F_Zg.erase := by kernel_rfl
theorem k_Zg:callable Tryd.prog 51 = true := by kernel_rfl
def F_Z1n:TFn := ⟨59,5,[.tmp 6],(.seq (.reg [(oQ 4 (.box 2 (.t 1))),(oQ 5 (.box 3 (.t 2))),(oQ 6 (.mv cF))])
 (.seq (.seq (.reg [(lQ 10 4),(hQ 11 10),(cQ 12 .add 11 1),(oQ 13 (.mv (iQ 0)))])
 (.block 0 (.loop [.v 13 tQ,.d 0 tQ,.d 1 .bool] [0,1,4,6] [4,6] (.seq (.reg [(bQ 14 .lss 13 12)])
 (.seq (.cond (.t 14) .skip (.exit 0))
 (.seq (.block 1 (.seq (.reg [(oQ 7 (.newz 4 [(.p (.bool false))])),(uQ (.st 1 (.t 7) cF))])
 (.seq (.seq (.reg [(mQ 15 0),(kQ 16 5 58 [(.t 15)])])
 (.block 2 (.rng (.t 16) [17] [17,8,18,19,20,21,22,23,24,25,26,27,28,29,30,31,9,32,33,34,35,36,37,38,39,40,41,42,43,44,45,46,47,48,49,50,51,52,53,54,55] [.d 0 tQ,.d 1 .bool,.c 4 .bool] [0,1,4,6] [6] (.reg [(oQ 8 (.newz 6 [zQ,zQ,zQ])),(sQ 3 8 17)])
 (.block 3 (.seq (.seq (.reg [(lQ 18 5),(fQ 19 1 8),(lQ 20 19),(jQ 21 1 18 20),(lQ 22 21),(oQ 23 (.unot (.t 22)))])
 (.cond (.t 23) (.exit 3) .skip))
 (.seq (.regd [(lQ 24 4),(fQ 25 1 8),(lQ 26 25),(jQ 27 1 24 26),(lQ 28 27),(fQ 29 2 8),(lQ 30 29),(bQ 31 .add 28 30),(mQ 9 31)] [(0,2),(0,6),(2,6),(4,6)] [])
 (.seq (.reg [(lQ 32 5),(fQ 33 0 8),(lQ 34 33),(jQ 35 1 32 34),(lQ 36 35),(oQ 37 (.unot (.t 36))),(mQ 38 37),(vQ 39 38 false 9),(gQ 40 38 false (.ld1 (.t 4))),(gQ 41 38 false (.fa 0 (.t 8))),(gQ 42 38 false (.ld1 (.t 41))),(gQ 43 38 false (.ia 1 (.t 40) (.t 42))),(gQ 44 38 false (.ld1 (.t 43))),(gQ 45 38 false (.bin .lss (.t 39) (.t 44))),(oQ 46 (.pick (.t 38) cT (.t 45)))])
 (.cond (.t 46) (.regd [(lQ 47 4),(fQ 48 0 8),(lQ 49 48),(lQ 50 5),(fQ 51 0 8),(lQ 52 51),(mQ 53 9),(jQ 54 1 47 49),(sQ 1 54 53),(jQ 55 1 50 52),(uQ (.st 1 (.t 55) cT)),(uQ (.st 1 (.t 7) cT))] [(0,2),(0,3),(2,3),(0,5),(2,5),(3,5),(3,8),(5,8)] []) .skip))))))))
 (.seq (.reg [(lQ 56 7),(oQ 57 (.unot (.t 56)))])
 (.cond (.t 57) (.seq (.reg [(oQ 6 (.mv cT))])
 .ret) .skip)))))
 (.reg [(cQ 58 .add 13 1),(mQ 13 58)])))))))
 (.seq (.reg [(oQ 6 (.mv cF))])
 .ret)))⟩
theorem e_Z1n:cFnN Tryd.prog 2 52 = some F_Z1n.erase := by kernel_rfl
def F_Zx:TFn := ⟨14,0,[.tmp 4],(.seq (.reg [(oQ 4 (.mv (iQ 0)))])
 (.seq (.reg [(mQ 5 0),(mQ 6 1),(bQ 7 .rem 5 6),(mQ 0 7)])
 (.seq (.seq (.reg [(mQ 8 0),(cQ 9 .lss 8 0)])
 (.cond (.t 9) (.reg [(mQ 10 0),(mQ 11 1),(bQ 12 .add 10 11),(mQ 0 12)]) .skip))
 (.seq (.reg [(mQ 13 0),(mQ 4 13)])
 .ret))))⟩
def A_Zx:Nat→Ty := tyAt []
abbrev P_Zx:List PSh := [.one tQ,.one tQ]
abbrev R_Zx:List PSh := [.one tQ]
theorem e_Zx:cFn Tryd.prog 54 = some F_Zx.erase := by kernel_rfl
theorem k_Zx:callable Tryd.prog 54 = true := by kernel_rfl
def F_Zy:TFn := ⟨17,2,[.tmp 4],(.seq (.reg [(oQ 2 (.box 0 (.t 0))),(oQ 4 (.mv (iQ 0)))])
 (.seq (.seq (.reg [(mQ 5 1),(kQ 6 1 59 [(.t 5)]),(mQ 1 6)])
 (.seq (.reg [(mQ 7 1),(fQ 8 0 2),(lQ 9 8),(hQ 10 9),(bQ 11 .lss 7 10)])
 (.cond (.t 11) (.seq (.reg [(fQ 12 0 2),(lQ 13 12),(mQ 14 1),(jQ 15 1 13 14),(lQ 16 15),(mQ 4 16)])
 .ret) .skip)))
 (.seq (.reg [(oQ 4 (.mv (iQ 0)))])
 .ret)))⟩
def A_Zy:Nat→Ty := tyAt [.un,.un]
abbrev P_Zy:List PSh := [.agg (.sl tQ),.one tQ]
abbrev R_Zy:List PSh := [.one tQ]
theorem e_Zy:cFn Tryd.prog 55 = some F_Zy.erase := by kernel_rfl
theorem k_Zy:callable Tryd.prog 55 = true := by kernel_rfl
def F_Zd:TFn := ⟨19,1,[.tmp 4],(.seq (.reg [(oQ 4 (.mv (iQ 0)))])
 (.seq (.seq (.reg [(mQ 6 0),(hQ 7 6),(oQ 8 (.mv (iQ 0)))])
 (.block 0 (.loop [.v 8 tQ] [] [] (.seq (.reg [(bQ 9 .lss 8 7)])
 (.seq (.cond (.t 9) .skip (.exit 0))
 (.seq (.block 1 (.seq (.reg [(mQ 10 8),(mQ 5 10)])
 (.seq (.reg [(mQ 11 1),(mQ 12 0),(mQ 13 5),(jQ 14 1 12 13),(lQ 15 14),⟨some 16,none,(.callv 0 (.t 11) [(.t 15)])⟩])
 (.cond (.t 16) (.seq (.reg [(mQ 17 5),(mQ 4 17)])
 .ret) .skip))))
 (.reg [(cQ 18 .add 8 1),(mQ 8 18)])))))))
 (.seq (.reg [(oQ 4 (.mv (iQ (-1))))])
 .ret)))⟩
def A_Zd:Nat→Ty := tyAt [.un]
abbrev P_Zd:List PSh := [.one (.sl tQ),.fn 42 []]
abbrev R_Zd:List PSh := [.one tQ]
theorem e_Zd:cFn Tryd.prog 50 = some F_Zd.erase := by kernel_rfl
theorem k_Zd:callable Tryd.prog 50 = true := by kernel_rfl
def F_Zj:TFn := ⟨19,1,[.tmp 4],(.seq (.reg [(oQ 4 (.mv (iQ 0)))])
 (.seq (.seq (.reg [(mQ 6 0),(hQ 7 6),(oQ 8 (.mv (iQ 0)))])
 (.block 0 (.loop [.v 8 tQ] [] [] (.seq (.reg [(bQ 9 .lss 8 7)])
 (.seq (.cond (.t 9) .skip (.exit 0))
 (.seq (.block 1 (.seq (.reg [(mQ 10 8),(mQ 5 10)])
 (.seq (.reg [(mQ 11 1),(mQ 12 0),(mQ 13 5),(jQ 14 1 12 13),(lQ 15 14),⟨some 16,none,(.callv 0 (.t 11) [(.t 15)])⟩])
 (.cond (.t 16) (.seq (.reg [(mQ 17 5),(mQ 4 17)])
 .ret) .skip))))
 (.reg [(cQ 18 .add 8 1),(mQ 8 18)])))))))
 (.seq (.reg [(oQ 4 (.mv (iQ (-1))))])
 .ret)))⟩
def A_Zj:Nat→Ty := tyAt [.un]
abbrev P_Zj:List PSh := [.one (.sl tQ),.fn 47 []]
abbrev R_Zj:List PSh := [.one tQ]
theorem e_Zj:cFn Tryd.prog 50 = some F_Zj.erase := by kernel_rfl
theorem k_Zj:callable Tryd.prog 50 = true := by kernel_rfl
def F_Zs:TFn := ⟨6,1,[.tmp 2],(.seq (.reg [(oQ 2 (.mv cF))])
 (.seq (.reg [(mQ 3 0),(kQ 4 0 38 [(.t 3),(iQ 100000)]),(oQ 5 (.unot (.t 4))),(mQ 2 5)])
 .ret))⟩
def A_Zs:Nat→Ty := tyAt [.un]
abbrev P_Zs:List PSh := [.one tQ]
abbrev R_Zs:List PSh := [.one .bool]
theorem e_Zs:cFn Tryd.prog 37 = some F_Zs.erase := by kernel_rfl
theorem k_Zs:callable Tryd.prog 37 = true := by kernel_rfl
def F_Z9:TFn := ⟨10,1,[.tmp 4],(.seq (.reg [(oQ 4 (.mv cF))])
 (.seq (.reg [(mQ 5 0),(mQ 6 1),(oQ 7 (.uneg (.t 6))),(mQ 8 1),(kQ 9 0 26 [(.t 5),(.t 7),(.t 8)]),(mQ 4 9)])
 .ret))⟩
def A_Z9:Nat→Ty := tyAt [.un]
abbrev P_Z9:List PSh := [.one tQ,.one tQ]
abbrev R_Z9:List PSh := [.one .bool]
theorem e_Z9:cFn Tryd.prog 38 = some F_Z9.erase := by kernel_rfl
theorem k_Z9:callable Tryd.prog 38 = true := by kernel_rfl
def F_Z1o:TFn := ⟨4,1,[.tmp 2],(.seq (.reg [(oQ 1 (.box 0 (.t 0))),(oQ 2 (.mv (.c .und)))])
 (.seq (.reg [(oQ 3 (.clo 60 [(.t 1)])),(mQ 2 3)])
 .ret))⟩
theorem e_Z1o:cFn Tryd.prog 58 = some F_Z1o.erase := by kernel_rfl
def F_Z1p:TFn := ⟨37,3,[],(.seq (.reg [(lQ 5 1),(hQ 6 5),(oQ 7 (.mv (iQ 0)))])
 (.block 0 (.loop [] [] [] (.seq (.reg [(bQ 8 .lss 7 6)])
 (.seq (.cond (.t 8) .skip (.exit 0))
 (.seq (.block 1 (.seq (.reg [(jQ 9 4 5 7),(nQ 10 4 9),(oQ 4 (.newz 0 [zQ,zQ,zQ,zQ])),(sQ 4 4 10)])
 (.seq (.reg [(mQ 11 0),(fQ 12 1 4),(lQ 13 12),(fQ 14 0 4),(lQ 15 14),(fQ 16 2 4),(fQ 17 1 16),(lQ 18 17),(oQ 19 (.build [zQ,zQ,zQ] [(0,1,(.t 13)),(1,1,(.t 15)),(2,1,(.t 18))])),⟨some 20,none,(.callv 1 (.t 11) [(.t 19)])⟩,(oQ 21 (.unot (.t 20))),(mQ 22 21),(vQ 23 22 false 0),(gQ 24 22 false (.fa 0 (.t 4))),(gQ 25 22 false (.ld1 (.t 24))),(gQ 26 22 false (.fa 1 (.t 4))),(gQ 27 22 false (.ld1 (.t 26))),(gQ 28 22 false (.fa 2 (.t 4))),(gQ 29 22 false (.fa 0 (.t 28))),(gQ 30 22 false (.ld1 (.t 29))),(gQ 31 22 false (.uneg (.t 30))),(gQ 32 22 false (.build [zQ,zQ,zQ] [(0,1,(.t 25)),(1,1,(.t 27)),(2,1,(.t 31))])),⟨some 33,some (some 22,false),(.callv 2 (.t 23) [(.t 32)])⟩,(gQ 34 22 false (.unot (.t 33))),(oQ 35 (.pick (.t 22) cT (.t 34)))])
 (.cond (.t 35) .ret .skip))))
 (.reg [(cQ 36 .add 7 1),(mQ 7 36)])))))))⟩
theorem e_Z1p:cFn Tryd.prog 60 = some F_Z1p.erase := by kernel_rfl
def F_Z14:TFn := ⟨7,0,[.tmp 2],(.seq (.reg [(oQ 2 (.mv (iQ 0)))])
 (.seq (.reg [(mQ 3 0),(mQ 4 0),(oQ 5 (.uneg (.t 4))),(oQ 6 (.mm true (.t 3) (.t 5))),(mQ 2 6)])
 .ret))⟩
def A_Z14:Nat→Ty := tyAt []
abbrev P_Z14:List PSh := [.one tQ]
abbrev R_Z14:List PSh := [.one tQ]
theorem e_Z14:cFn Tryd.prog 59 = some F_Z14.erase := by kernel_rfl
theorem k_Z14:callable Tryd.prog 59 = true := by kernel_rfl
def F_Zz:TFn := ⟨6,1,[.tmp 2],(.seq (.reg [(oQ 2 (.mv cF))])
 (.seq (.reg [(mQ 3 0),(kQ 4 0 38 [(.t 3),(iQ 1000000)]),(oQ 5 (.unot (.t 4))),(mQ 2 5)])
 .ret))⟩
def A_Zz:Nat→Ty := tyAt [.un]
abbrev P_Zz:List PSh := [.one tQ]
abbrev R_Zz:List PSh := [.one .bool]
theorem e_Zz:cFn Tryd.prog 42 = some F_Zz.erase := by kernel_rfl
theorem k_Zz:callable Tryd.prog 42 = true := by kernel_rfl
def F_Zu:TFn := ⟨6,1,[.tmp 2],(.seq (.reg [(oQ 2 (.mv cF))])
 (.seq (.reg [(mQ 3 0),(kQ 4 0 38 [(.t 3),(iQ 100000)]),(oQ 5 (.unot (.t 4))),(mQ 2 5)])
 .ret))⟩
def A_Zu:Nat→Ty := tyAt [.un]
abbrev P_Zu:List PSh := [.one tQ]
abbrev R_Zu:List PSh := [.one .bool]
theorem e_Zu:cFn Tryd.prog 47 = some F_Zu.erase := by kernel_rfl
theorem k_Zu:callable Tryd.prog 47 = true := by kernel_rfl
end Go.Proofs.YtfapfcjioianbaaDoor
