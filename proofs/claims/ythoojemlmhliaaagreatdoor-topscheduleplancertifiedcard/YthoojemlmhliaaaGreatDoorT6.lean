/- The codes of the functions, as compFn gives them. -/
import Derived.Test.YthoojemlmhliaaaGreatDoorT5
set_option linter.unusedSimpArgs false
set_option linter.unusedVariables false
set_option maxRecDepth 100000
namespace Go.Ax.Sx.Sc
open Go.Ax
abbrev o1 (d:Nat) (x:cm):bt:=⟨some d,none,x⟩
abbrev t1 (n:Nat):aJ:=.tmp n
abbrev m1 (d x:Nat):bt:=⟨some d,none,.move (.tmp x)⟩
abbrev lF (d n x:Nat):bt:=⟨some d,none,.load false n (.tmp x)⟩
abbrev lT (d n x:Nat):bt:=⟨some d,none,.load true n (.tmp x)⟩
abbrev fA (d n x:Nat):bt:=⟨some d,none,.fieldAddr n (.tmp x)⟩
abbrev gT (d g:Nat) (x:cm):bt:=⟨some d,some (g,true),x⟩
abbrev gF (d g:Nat) (x:cm):bt:=⟨some d,some (g,false),x⟩
abbrev i1 (n:Int):aJ:=.const (.v (.int .i64 n))
abbrev rF (l:List bt):au:=.region false l
abbrev rT (l:List bt):au:=.region true l
abbrev sq (a b:au):au:=.seq a b
abbrev cn (n:Nat) (a b:au):au:=.cond (.tmp n) a b
abbrev bT:aJ:=.const (.v (.bool true))
abbrev bF:aJ:=.const (.v (.bool false))
abbrev mX (x:Nat):cm:=.move (.tmp x)
abbrev mI (n:Int):cm:=.move (.const (.v (.int .i64 n)))
abbrev mB (b:Bool):cm:=.move (.const (.v (.bool b)))
abbrev lX (n x:Nat):cm:=.load false n (.tmp x)
abbrev lY (n x:Nat):cm:=.load true n (.tmp x)
abbrev fX (n x:Nat):cm:=.fieldAddr n (.tmp x)
abbrev iX (n x y:Nat):cm:=.indexAddr none n (.tmp x) (.tmp y)
abbrev aX (o:BinOp) (x y:Nat):cm:=.arith o (.tmp x) (.tmp y)
abbrev aK (o:BinOp) (x:Nat) (n:Int):cm:=.arith o (.tmp x) (.const (.v (.int .i64 n)))
abbrev nX (x:Nat):cm:=.len false (.tmp x)
abbrev eX (n x:Nat):cm:=.extract n (.tmp x)
abbrev uX (x:Nat):cm:=.un .not (.tmp x)
abbrev pA (x y:Nat):cm:=.pick (.tmp x) (.tmp y) bF
abbrev pB (x y:Nat):cm:=.pick (.tmp x) bT (.tmp y)
abbrev cF (f:Nat) (l:List aJ):cm:=.call false f l
abbrev sT (n x y:Nat):bt:=⟨none,none,.store n (.tmp x) (.tmp y)⟩

-- 3
def uZ:au:=(sq (rF [o1 4 (mB true)]) .ret)
def tJ:au:=(rF [m1 141 17,o1 142 (aK .add 141 1),m1 17 142])
def EE:au:=(rF [m1 267 25,o1 268 (aK .add 267 1),m1 25 268])
def EF:au:=(sq (rF [m1 317 20,m1 318 25,o1 319 (iX 1 317 318),lF 320 1 319,o1 321 (aK .neq 320 1),m1 322 321,gT 323 322 (mX 20),gT 324 322 (mX 25),gT 325
  322 (iX 1 323 324),gT 326 322 (lX 1 325),gT 327 322 (aK .neq 326 1000),o1 328 (pA 322 327)]) (cn 328 (sq (rF [o1 4 (mB false)]) .ret) .skip))
def A7:au:=(sq (sq (rF [m1 269 26,fA 270 1 2,lF 271 1 270,m1 272 17,o1 273 (iX 3 271 272),fA 274 2 273,lF 275 1 274,o1 276 (nX 275),o1 277 (aX .lss 269
  276),m1 278 277,gT 279 278 (mX 20),gT 280 278 (mX 25),gT 281 278 (iX 1 279 280),gT 282 278 (lX 1 281),gT 283 278 (aK .lss 282 1000),o1 284 (pA 278 283)]) (cn 284 .skip (.exit 12))) (sq
  (.block 13 (sq (rT [m1 287 25,fA 288 1 2,lF 289 1 288,m1 290 17,o1 291 (iX 3 289 290),fA 292 2 291,lF 293 1 292,m1 294 26,o1 295 (iX 2 293 294),fA 296 0 295,lF 297 1 296,fA 298 1 2,lF
  299 1 298,m1 300 17,o1 301 (iX 3 299 300),fA 302 2 301,lF 303 1 302,m1 304 26,o1 305 (iX 2 303 304),fA 306 1 305,lF 307 1 306,o1 308 (cF 21 [t1 287,t1 297,t1 307])]) (cn 308 (rF [m1 309
  20,m1 310 25,m1 311 20,m1 312 25,o1 313 (iX 1 311 312),lF 314 1 313,o1 315 (aK .add 314 1000),o1 316 (iX 1 309 310),sT 1 316 315]) .skip))) (rF [m1 285 26,o1 286 (aK .add 285 1),m1 26
  286])))
def A6:au:=(sq (sq (rF [m1 263 25,fA 264 0 2,lF 265 1 264,o1 266 (aX .lss 263 265)]) (cn 266 .skip (.exit 10))) (sq (.block 11 (sq (sq (rF [o1 26 (mI 0)])
  (.block 12 (.loop A7))) EF)) EE))
def EG:au:=(sq (rF [o1 25 (mI 0)]) (.block 10 (.loop A6)))
def Kl:au:=(rF [m1 218 23,o1 219 (aK .add 218 1),m1 23 219])
def EC:au:=(sq (sq (rT [m1 220 5,m1 221 23,o1 222 (iX 3 220 221),fA 223 2 222,lF 224 1 223,m1 225 17,o1 226 (cF 22 [t1 224,t1 225]),m1 227 226,gT 228 227
  (mX 24),gT 229 227 (fX 2 2),gT 230 227 (lX 1 229),gT 231 227 (mX 5),gT 232 227 (mX 23),gT 233 227 (iX 3 231 232),gT 234 227 (fX 0 233),gT 235 227 (lX 1 234),gT 236 227 (iX 7 230 235),gT 237
  227 (fX 3 236),gT 238 227 (lX 1 237),gT 239 227 (aX .lss 228 238),o1 240 (pA 227 239)]) (cn 240 .skip (.exit 8))) (sq (.block 9 (rT [m1 243 20,m1 244 5,m1 245 23,o1 246 (iX 3 244 245),fA 247
  1 246,lF 248 1 247,m1 249 24,o1 250 (aX .add 248 249),m1 251 20,m1 252 5,m1 253 23,o1 254 (iX 3 252 253),fA 255 1 254,lF 256 1 255,m1 257 24,o1 258 (aX .add 256 257),o1 259 (iX 1 251
  258),lF 260 1 259,o1 261 (aK .add 260 1),o1 262 (iX 1 243 250),sT 1 262 261])) (rF [m1 241 24,o1 242 (aK .add 241 1),m1 24 242])))
def A8:au:=(sq (sq (rF [m1 214 23,m1 215 5,o1 216 (nX 215),o1 217 (aX .lss 214 216)]) (cn 217 .skip (.exit 6))) (sq (.block 7 (sq (rF [o1 24 (mI 0)]) (.block 8
  (.loop EC)))) Kl))
def EH:au:=(sq (sq (rF [o1 23 (mI 0)]) (.block 6 (.loop A8))) EG)
def Pu:au:=(rF [m1 168 21,o1 169 (aK .add 168 1),m1 21 169])
def Kk:au:=(sq (sq (rF [m1 197 22,m1 198 18,m1 199 21,o1 200 (iX 2 198 199),fA 201 1 200,lF 202 1 201,o1 203 (aX .leq 197 202)]) (cn 203 .skip (.exit 4))) (sq
  (.block 5 (rF [m1 206 20,m1 207 22,m1 208 20,m1 209 22,o1 210 (iX 1 208 209),lF 211 1 210,o1 212 (aK .add 211 1),o1 213 (iX 1 206 207),sT 1 213 212])) (rF [m1 204 22,o1 205 (aK .add 204 1),
  m1 22 205])))
def ED:au:=(sq (sq (rF [m1 164 21,m1 165 18,o1 166 (nX 165),o1 167 (aX .lss 164 166)]) (cn 167 .skip (.exit 2))) (sq (.block 3 (sq (sq (rT [m1 170 18,m1 171 21,
  o1 172 (iX 2 170 171),fA 173 0 172,lF 174 1 173,m1 175 18,m1 176 21,o1 177 (iX 2 175 176),fA 178 1 177,lF 179 1 178,o1 180 (cF 21 [t1 174,i1 0,t1 179]),o1 181 (uX 180),m1 182 181,gF 183
  182 (mX 18),gF 184 182 (mX 21),gF 185 182 (iX 2 183 184),gF 186 182 (fX 1 185),gF 187 182 (lX 1 186),gF 188 182 (fX 0 2),gF 189 182 (lX 1 188),gF 190 182 (aX .geq 187 189),o1 191 (pB 182
  190)]) (cn 191 (sq (rF [o1 4 (mB false)]) .ret) .skip)) (sq (rF [m1 192 18,m1 193 21,o1 194 (iX 2 192 193),fA 195 0 194,lF 196 1 195,m1 22 196]) (.block 4 (.loop
  Kk))))) Pu))
def p7:au:=(sq (sq (rF [m1 136 17,fA 137 1 2,lF 138 1 137,o1 139 (nX 138),o1 140 (aX .lss 136 139)]) (cn 140 .skip (.exit 0))) (sq (.block 1 (sq (rF [lT 144 3
  2,o1 145 (cF 9 [t1 144]),m1 146 5,o1 147 (cF 18 [t1 146]),m1 148 17,o1 149 (cF 20 [t1 145,t1 147,t1 148]),m1 143 149,o1 150 (eX 0 143),o1 151 (eX 1 143),m1 18 150,m1 19 151]) (sq (sq (rF
  [m1 152 19,o1 153 (aK .neq 152 0),m1 154 153,gF 155 154 (mX 18),gF 156 154 (nX 155),gF 157 154 (fX 0 2),gF 158 154 (lX 1 157),gF 159 154 (aX .gtr 156 158),o1 160 (pB 154 159)]) (cn 160 (sq
  (rF [o1 4 (mB false)]) .ret) .skip)) (sq (rF [fA 161 0 2,lF 162 1 161,o1 163 (.mkSlice 1 [.v (.int .i64 0)] (t1 162) (t1 162)),m1 20 163]) (sq (sq (rF [o1 21 (mI 0)]) (.block 2 (.loop
  ED))) EH))))) tJ))
def EB:au:=(sq (rF [o1 2 (.box 3 (t1 0)),o1 4 (mB false)]) (sq (sq (rF [o1 27 (cF 4 []),o1 28 (uX 27)]) (cn 28 (sq (rF [o1 4 (mB false)]) .ret) .skip)) (sq (sq (rF
  [lT 29 3 2,o1 30 (cF 5 [t1 29]),o1 31 (uX 30),m1 32 31,gF 33 32 (lY 3 2),gF 34 32 (cF 6 [t1 33]),gF 35 32 (aK .neq 34 0),o1 36 (pB 32 35),m1 37 36,gF 38 37 (lY 3 2),gF 39 37 (mX 1),gF 40
  37 (cF 7 [t1 38,t1 39]),gF 41 37 (aK .neq 40 0),o1 42 (pB 37 41)]) (cn 42 (sq (rF [o1 4 (mB true)]) .ret) .skip)) (sq (rF [lT 44 3 2,o1 45 (cF 9 [t1 44]),o1 46 (cF 8 [t1 45]),m1 43 46,o1 47
  (eX 0 43),o1 48 (eX 1 43),o1 49 (eX 2 43),m1 5 47,m1 6 48,m1 7 49]) (sq (rF [lT 51 3 2,o1 52 (cF 9 [t1 51]),o1 53 (cF 10 [t1 52]),m1 50 53,o1 54 (eX 0 50),o1 55 (eX 1 50),m1 8 54,m1 9
  55]) (sq (rF [lT 57 3 2,o1 58 (cF 9 [t1 57]),m1 59 1,o1 60 (cF 12 [t1 59]),o1 61 (cF 11 [t1 58,t1 60]),m1 56 61,o1 62 (eX 0 56),o1 63 (eX 1 56),m1 10 62,m1 11 63]) (sq (rF [lT 65 3 2,o1
  66 (cF 9 [t1 65]),o1 67 (cF 13 [t1 66]),m1 64 67,o1 68 (eX 0 64),o1 69 (eX 1 64),o1 70 (eX 2 64),m1 12 68,m1 13 69,m1 14 70]) (sq (sq (rF [m1 71 7,o1 72 (aK .neq 71 0),m1 73 72,gF 74 73
  (mX 9),gF 75 73 (aK .neq 74 0),o1 76 (pB 73 75),m1 77 76,gF 78 77 (mX 11),gF 79 77 (aK .neq 78 0),o1 80 (pB 77 79),m1 81 80,gF 82 81 (mX 14),gF 83 81 (aK .neq 82 0),o1 84 (pB 81 83),m1 85
  84,gF 86 85 (mX 6),gF 87 85 (mX 10),gF 88 85 (aX .gtr 86 87),o1 89 (pB 85 88),m1 90 89,gF 91 90 (mX 6),gF 92 90 (mX 13),gF 93 90 (aX .gtr 91 92),o1 94 (pB 90 93),m1 95 94,gF 96 95 (lY 3
  2),gF 97 95 (mX 5),gF 98 95 (cF 14 [t1 96,t1 97]),gF 99 95 (aK .neq 98 0),o1 100 (pB 95 99),m1 101 100,gF 102 101 (lY 3 2),gF 103 101 (mX 8),gF 104 101 (cF 14 [t1 102,t1 103]),gF 105 101
  (aK .neq 104 0),o1 106 (pB 101 105),m1 107 106,gF 108 107 (lY 3 2),gF 109 107 (mX 8),gF 110 107 (cF 15 [t1 108,t1 109]),gF 111 107 (mX 6),gF 112 107 (aX .gtr 110 111),o1 113 (pB 107 112),
  m1 114 113,gF 115 114 (lY 3 2),gF 116 114 (mX 5),gF 117 114 (cF 15 [t1 115,t1 116]),gF 118 114 (mX 6),gF 119 114 (aX .neq 117 118),o1 120 (pB 114 119)]) (cn 120 (sq (rF [o1 4 (mB false)])
  .ret) .skip)) (sq (sq (rF [m1 122 5,o1 123 (cF 18 [t1 122]),o1 124 (cF 17 [t1 123]),o1 125 (cF 16 [t1 124]),m1 121 125,o1 126 (eX 0 121),o1 127 (eX 1 121),m1 15 126,m1 16 127]) (sq (rF [m1
  128 16,o1 129 (aK .neq 128 0),m1 130 129,gF 131 130 (mX 15),gF 132 130 (mX 5),gF 133 130 (cF 19 [t1 131,t1 132]),gF 134 130 (uX 133),o1 135 (pB 130 134)]) (cn 135 (sq (rF [o1 4 (mB false)])
  .ret) .skip))) (sq (sq (rF [o1 17 (mI 0)]) (.block 0 (.loop p7))) uZ))))))))))
abbrev arz:List K:=[.blk 12,.c EF,.blk 11,.c EE,.lp A6,.blk 10,.blk 1,.c
  tJ,.lp p7,.blk 0,.c uZ]
abbrev aaM:List K:=[.blk 10,.blk 1,.c tJ,.lp p7,.blk 0,.c uZ]
abbrev arB:List K:=[.blk 8,.blk 7,.c Kl,.lp A8,.blk 6,.c EG,.blk 1,.c
  tJ,.lp p7,.blk 0,.c uZ]
abbrev arA:List K:=[.blk 6,.c EG,.blk 1,.c tJ,.lp p7,.blk 0,.c
  uZ]
abbrev arD:List K:=[.blk 4,.blk 3,.c Pu,.lp ED,.blk 2,.c EH,.blk 1,.c
  tJ,.lp p7,.blk 0,.c uZ]
abbrev arC:List K:=[.blk 2,.c EH,.blk 1,.c tJ,.lp p7,.blk 0,.c
  uZ]
abbrev MI:List K:=[.blk 0,.c uZ]
abbrev sf:=aR [(.tmp 4)] false
def xi:aE:=.code 2 329 EB [(.tmp 4)] false
-- 4
def Wn:au:=(sq (rF [o1 0 (mB false)]) (sq (rF [o1 5 (cF 23 []),o1 6 (cF 8 [t1 5]),m1 4 6,o1 7 (eX 0 4),o1 8 (eX 1 4),o1 9 (eX 2 4),m1 1 7,m1 2 8,m1 3 9]) (sq (rF [m1 10
  3,o1 11 (aK .eql 10 0),m1 12 11,gT 13 12 (mX 2),gT 14 12 (aK .eql 13 23),o1 15 (pA 12 14),m1 16 15,gT 17 16 (mX 1),gT 18 16 (cF 17 [t1 17]),gT 19 16 (.arith .eql (t1 18) (.const (.v
  (.string ⟨#[48, 64, 48, 43, 48, 32, 49, 64, 48, 43, 49, 32, 50, 64, 53, 43, 48, 43, 49]⟩)))), o1 20 (pA 16 19), m1 0 20]) .ret)))
abbrev aAo:=aR [(.tmp 0)] false
def F2:aE:=.code 0 21 Wn [(.tmp 0)] false
-- 5
def JD:au:=(sq (rF [o1 1 (.box 3 (t1 0)),o1 2 (mB false)]) (sq (rF [lT 3 3 1,o1 4 (cF 24 [t1 3]),m1 5 4,gT 6 5 (lY 3 1),gT 7 5 (cF 6 [t1 6]),gT 8 5 (aK .neq 7 0),gT 9 5 (mX 8),gF
  10 9 (lY 3 1),gF 11 9 (cF 25 [t1 10,i1 2000]),gF 12 9 (aK .leq 11 2000),gT 13 5 (pB 9 12),o1 14 (pA 5 13),m1 2 14]) .ret))
abbrev azT:=aR [(.tmp 2)] false
def yR:aE:=.code 1 15 JD [(.tmp 2)] false
-- 6
def OR:au:=(sq (rF [o1 2 (mI 0)]) .ret)
def Ef:au:=(sq (sq (rF [m1 15 4,fA 16 2 1,lF 17 1 16,o1 18 (nX 17),o1 19 (aX .lss 15 18)]) (cn 19 .skip (.exit 0))) (sq (.block 1 (sq (rF [fA 22 2 1,lF 23 1 22,m1 24 4,o1 25
  (iX 7 23 24), lT 26 7 25, o1 5 (.alloc [.v (.string ⟨#[]⟩), .v (.int .i64 0), .v (.int .i64 0), .v (.int .i64 0), .v (.int .i64 0), .slice .aA 0 [], .v (.int .i64 0)]), sT 7 5 26]) (sq (rF [fA 27
  1 5,fA 28 1 27,lF 29 1 28,fA 30 1 5,fA 31 0 30,lF 32 1 31,o1 33 (aX .sub 29 32),o1 34 (aK .add 33 1),fA 35 3 5,lF 36 1 35,o1 37 (aX .sub 34 36),o1 38 (aK .add 37 1),o1 39 (aK .gtr 38
  8)]) (cn 39 (sq (rF [o1 2 (mI 8)]) .ret) .skip)))) (rF [m1 20 4,o1 21 (aK .add 20 1),m1 4 21])))
def JK:au:=(sq (rF [o1 1 (.box 3 (t1 0)),o1 2 (mI 0)]) (sq (sq (rF [lT 6 3 1,o1 7 (cF 26 [t1 6]),m1 3 7]) (sq (rF [m1 8 3,o1 9 (aK .neq 8 0)]) (cn 9 (sq (rF [m1 10 3,m1 2 10])
  .ret) .skip))) (sq (sq (rF [fA 11 2 1,lF 12 1 11,o1 13 (nX 12),o1 14 (aK .gtr 13 6)]) (cn 14 (sq (rF [o1 2 (mI 8)]) .ret) .skip)) (sq (sq (rF [o1 4 (mI 0)]) (.block 0 (.loop Ef)))
  OR))))
abbrev aqY:List K:=[.blk 0,.c OR]
abbrev ai6:=aR [(.tmp 2)] false
def Bi:aE:=.code 1 40 JK [(.tmp 2)] false
-- 7
def JJ:au:=(sq (rF [o1 4 (mI 0)]) .ret)
def ON:au:=(rF [m1 32 6,o1 33 (aK .add 32 1),m1 6 33])
def Ec:au:=(sq (sq (rF [m1 34 7,m1 35 1,m1 36 6,o1 37 (iX 1 35 36),lF 38 1 37,o1 39 (nX 38),o1 40 (aX .lss 34 39)]) (cn 40 .skip (.exit 4))) (sq (.block 5 (sq (rF [m1 43 1,
  m1 44 6,o1 45 (iX 1 43 44),lF 46 1 45,m1 47 7,o1 48 (iX 1 46 47),lF 49 1 48,o1 50 (cF 21 [t1 49,i1 0,i1 100000]),o1 51 (uX 50)]) (cn 51 (sq (rF [o1 4 (mI 2)]) .ret) .skip))) (rF [m1 41 7,
  o1 42 (aK .add 41 1),m1 7 42])))
def AY:au:=(sq (sq (rF [m1 28 6,m1 29 1,o1 30 (nX 29),o1 31 (aX .lss 28 30)]) (cn 31 .skip (.exit 2))) (sq (.block 3 (sq (rF [o1 7 (mI 0)]) (.block 4 (.loop
  Ec)))) ON))
def OO:au:=(sq (sq (rF [o1 6 (mI 0)]) (.block 2 (.loop AY))) JJ)
def Ed:au:=(sq (sq (rF [m1 14 5,m1 15 1,o1 16 (nX 15),o1 17 (aX .lss 14 16)]) (cn 17 .skip (.exit 0))) (sq (.block 1 (sq (rT [m1 20 1,m1 21 5,o1 22 (iX 1 20 21),lF 23 1 22,
  o1 24 (nX 23),fA 25 0 2,lF 26 1 25,o1 27 (aX .neq 24 26)]) (cn 27 (sq (rF [o1 4 (mI 10)]) .ret) .skip))) (rF [m1 18 5,o1 19 (aK .add 18 1),m1 5 19])))
def OM:au:=(sq (rF [o1 2 (.box 3 (t1 0)),o1 4 (mI 0)]) (sq (sq (rF [m1 8 1,o1 9 (nX 8),fA 10 1 2,lF 11 1 10,o1 12 (nX 11),o1 13 (aX .neq 9 12)]) (cn 13 (sq (rF [o1 4 (mI 10)])
  .ret) .skip)) (sq (sq (rF [o1 5 (mI 0)]) (.block 0 (.loop Ed))) OO)))
abbrev aqV:List K:=[.blk 4,.blk 3,.c ON,.lp AY,.blk 2,.c JJ]
abbrev aaD:List K:=[.blk 2,.c JJ]
abbrev aqW:List K:=[.blk 0,.c OO]
abbrev K8:=aR [(.tmp 4)] false
def Bg:aE:=.code 2 52 OM [(.tmp 4)] false
-- 8
def O3:au:=(sq (rF [o1 1 (.box 3 (t1 0)),o1 2 (.move (.const (.slice .aA 0 []))),o1 3 (mI 0),o1 4 (mI 0)]) (sq (rF [lT 11 3 1,o1 12 (cF 27 [t1 11]),m1 10 12,o1 13 (eX 0 10),o1 14
  (eX 1 10),m1 5 13,m1 6 14]) (sq (sq (rF [m1 15 6,o1 16 (aK .neq 15 0)]) (cn 16 (sq (rF [m1 17 6,o1 2 (.move (.const (.slice .aA 0 []))),o1 3 (mI 0),m1 4 17]) .ret) .skip)) (sq (rF [m1 19 5,
  o1 20 (cF 28 [t1 19]),o1 21 (cF 29 [t1 20]),m1 18 21,o1 22 (eX 0 18),o1 23 (eX 1 18),o1 24 (eX 2 18),m1 7 22,m1 8 23,m1 9 24]) (sq (rF [m1 25 7,m1 26 8,m1 2 25,m1 3 26,o1 4 (mI 0)])
  .ret)))))
abbrev az4:=aR [(.tmp 2),(.tmp 3),(.tmp 4)] false
def FB:aE:=.code 1 27 O3 [(.tmp 2),(.tmp 3),(.tmp 4)] false
-- 9
def OH:au:=(sq (rF [lT 55 3 3,sT 3 2 55]) .ret)
def JF:au:=(sq (sq (rF [m1 33 6,fA 34 2 1,lF 35 1 34,o1 36 (nX 35),o1 37 (aX .lss 33 36)]) (cn 37 .skip (.exit 2))) (sq (.block 3 (sq (rF [fA 40 2 1,lF 41 1 40,m1 42 6,o1 43
  (iX 7 41 42), lT 44 7 43, o1 7 (.alloc [.v (.string ⟨#[]⟩), .v (.int .i64 0), .v (.int .i64 0), .v (.int .i64 0), .v (.int .i64 0), .slice .aA 0 [], .v (.int .i64 0)]), sT 7 7 44]) (sq (rF [fA 45
  5 7, lF 46 1 45, o1 47 (cF 31 [t1 46]), fA 48 5 7, sT 1 48 47]) (rF [fA 49 2 3, lF 50 1 49, lT 51 7 7, o1 52 (.buildSlice 7 [[.v (.string ⟨#[]⟩), .v (.int .i64 0), .v (.int .i64 0), .v (.int .i64
  0),.v (.int .i64 0),.slice .aA 0 [],.v (.int .i64 0)]] [(0,(t1 51))]),o1 53 (.append 7 (t1 50) (t1 52)),fA 54 2 3,sT 1 54 53])))) (rF [m1 38 6,o1 39 (aK .add 38 1),m1 6 39])))
def OI:au:=(sq (sq (rF [o1 6 (mI 0)]) (.block 2 (.loop JF))) OH)
def JG:au:=(sq (sq (rF [m1 11 4,fA 12 1 1,lF 13 1 12,o1 14 (nX 13),o1 15 (aX .lss 11 14)]) (cn 15 .skip (.exit 0))) (sq (.block 1 (sq (rF [fA 18 1 1,lF 19 1 18,m1 20 4,o1 21
  (iX 3 19 20), lT 22 3 21, o1 5 (.alloc [.v (.string ⟨#[]⟩), .v (.int .i64 0), .slice .aA 0 []]), sT 3 5 22]) (sq (rF [fA 23 2 5, lF 24 1 23, o1 25 (cF 30 [t1 24]), fA 26 2 5, sT 1 26 25]) (rF [fA
  27 1 3, lF 28 1 27, lT 29 3 5, o1 30 (.buildSlice 3 [[.v (.string ⟨#[]⟩), .v (.int .i64 0), .slice .aA 0 []]] [(0, (t1 29))]), o1 31 (.append 3 (t1 28) (t1 30)), fA 32 1 3, sT 1 32 31])))) (rF [m1
  16 4,o1 17 (aK .add 16 1),m1 4 17])))
def VQ:au:=(sq (rF [o1 1 (.box 3 (t1 0)),o1 2 (.alloc [.v (.int .i64 0),.slice .aA 0 [],.slice .aA 0 []])]) (sq (rF [fA 8 0 1,lF 9 1 8,o1 10 (.build [.v (.int .i64 0),.slice
  .aA 0 [],.slice .aA 0 []] [(0,(1,(t1 9)))]),o1 3 (.alloc [.v (.int .i64 0),.slice .aA 0 [],.slice .aA 0 []]),sT 3 3 10]) (sq (sq (rF [o1 4 (mI 0)]) (.block 0 (.loop JG)))
  OI)))
abbrev aqQ:List K:=[.blk 2,.c OH]
abbrev aqR:List K:=[.blk 0,.c OI]
abbrev X0:=aR [(.cell true 3 2)] false
def Fm:aE:=.code 1 56 VQ [(.cell true 3 2)] false
-- 10
def Es:au:=(sq (rF [m1 54 8,o1 55 (cF 36 [t1 54,.const (.fn 37 [] [])])]) (sq (rF [m1 56 8,m1 2 56,o1 3 (mI 0)]) .ret))
def A3:au:=(sq (rF [o1 37 (aX .lss 36 35)]) (sq (cn 37 .skip (.exit 2)) (sq (.block 3 (sq (rF [o1 38 (iX 1 34 36),lF 39 1 38,m1 10 39]) (sq (rF [m1 40 4,m1 41 8,m1 42 10,o1 43
  (cF 35 [t1 40,t1 41,t1 42]),m1 11 43]) (sq (rF [m1 44 11,o1 45 (nX 44),o1 46 (aK .gtr 45 0)]) (cn 46 (rF [m1 47 8,m1 48 11,o1 49 (.indexAddr none 3 (t1 48) (i1 0)),lT 50 3 49,o1 51
  (.buildSlice 3 [[.v (.int .i64 0),.v (.int .i64 0),.slice .aA 0 []]] [(0,(t1 50))]),o1 52 (.qT 3 (t1 47) (t1 51)),m1 8 52]) .skip))))) (rF [o1 53 (aK .add 36 1),m1 36 53]))))
def J5:au:=(sq (rF [m1 31 6,o1 32 (.mC 34 [] [t1 1]),o1 33 (cF 33 [t1 31,t1 32])]) (sq (rF [o1 8 (.move (.const (.slice .aA 0 [])))]) (sq (sq (rF [m1 34 6,o1 35 (nX 34),o1
  36 (mI 0)]) (.block 2 (.loop A3))) Es)))
def Er:au:=(sq (rF [o1 24 (aX .lss 23 22)]) (sq (cn 24 .skip (.exit 0)) (sq (.block 1 (sq (rF [m1 25 23,m1 7 25]) (rF [m1 26 6,m1 27 7,o1 28 (.buildSlice 1 [[.v (.int .i64 0)]]
  [(0,(t1 27))]),o1 29 (.qT 1 (t1 26) (t1 28)),m1 6 29]))) (rF [o1 30 (aK .add 23 1),m1 23 30]))))
def Pa:au:=(sq (rF [o1 1 (.box 3 (t1 0)),o1 2 (.move (.const (.slice .aA 0 []))),o1 3 (mI 0)]) (sq (rF [lT 13 3 1,o1 14 (cF 32 [t1 13]),m1 12 14,o1 15 (eX 0 12),o1 16 (eX 1 12),
  m1 4 15,m1 5 16]) (sq (sq (rF [m1 17 5,o1 18 (aK .neq 17 0)]) (cn 18 (sq (rF [m1 19 5,o1 2 (.move (.const (.slice .aA 0 []))),m1 3 19]) .ret) .skip)) (sq (rF [o1 6 (.move (.const (.slice .aA
  0 [])))]) (sq (sq (rF [fA 20 2 1,lF 21 1 20,o1 22 (nX 21),o1 23 (mI 0)]) (.block 0 (.loop Er))) J5)))))
abbrev arh:List K:=[.blk 2,.c Es]
abbrev ari:List K:=[.blk 0,.c J5]
abbrev Qv:=aR [(.tmp 2),(.tmp 3)] false
def Bm:aE:=.code 1 57 Pa [(.tmp 2),(.tmp 3)] false
-- 11
def JU:au:=(sq (rF [m1 124 9,m1 4 124,o1 5 (mI 0)]) .ret)
def JV:au:=(rF [o1 123 (aK .add 76 1),m1 76 123])
def JW:au:=(rF [m1 120 9,lF 121 1 15,o1 122 (aX .add 120 121),m1 9 122])
def JX:au:=(rT [lF 110 1 15,fA 111 2 2,lF 112 1 111,lF 113 1 14,o1 114 (iX 7 112 113),fA 115 4 114,lF 116 1 115,m1 117 17,o1 118 (aX .sub 116 117),o1 119 (.zQ true [t1
  110,t1 118]),sT 1 15 119])
def O4:au:=(rF [o1 109 (aK .add 86 1),m1 86 109])
def JT:au:=(sq (rF [o1 102 (aX .lss 101 100)]) (sq (cn 102 .skip (.exit 10)) (sq (.block 11 (sq (rF [o1 103 (iX 1 99 101),lF 104 1 103,m1 21 104]) (rF [m1 105 17,m1 106 21,o1
  107 (aX .add 105 106),m1 17 107]))) (rF [o1 108 (aK .add 101 1),m1 101 108]))))
def A0:au:=(sq (rF [o1 87 (aX .lss 86 85)]) (sq (cn 87 .skip (.exit 8)) (sq (.block 9 (sq (rF [o1 88 (iX 1 84 86),lF 89 1 88,m1 19 89]) (sq (rT [lF 90 1 3,m1 91 19,o1 92 (iX 1
  90 91),lF 93 1 92,fA 94 1 16,lF 95 1 94,lF 96 1 6,lT 97 3 16,o1 98 (.call true 42 [t1 96,t1 97]),o1 99 (.slice (.sl 1) (t1 93) (some (t1 95)) (some (t1 98)) none),o1 100 (nX 99),o1 101 (mI
  0)]) (.block 10 (.loop JT))))) O4)))
def JZ:au:=(.block 7 (sq (rF [o1 17 (mI 0)]) (sq (sq (rF [fA 83 2 16,lF 84 1 83,o1 85 (nX 84),o1 86 (mI 0)]) (.block 8 (.loop A0))) JX)))
def JS:au:=(rF [o1 16 (.alloc [.v (.int .i64 0),.v (.int .i64 0),.slice .aA 0 []]),sT 3 16 82])
def AZ:au:=(sq (rF [o1 77 (aX .lss 76 75)]) (sq (cn 77 .skip (.exit 4)) (sq (.block 5 (sq (rF [m1 78 76,o1 14 (.alloc [.v (.int .i64 0)]),sT 1 14 78]) (sq (rF [o1 15 (.alloc [.v
  (.int .i64 0)]),⟨none,none,(.store 1 (t1 15) (i1 0))⟩]) (sq (sq (rF [lF 79 1 6,lF 80 1 14,o1 81 (cF 41 [t1 79,t1 80])]) (.block 6 (.rangeFunc (t1 81) [82] JS JZ)))
  JW)))) JV)))
def JY:au:=(sq (sq (rF [fA 73 2 2,lF 74 1 73,o1 75 (nX 74),o1 76 (mI 0)]) (.block 4 (.loop AZ))) JU)
def O5:au:=(rF [o1 72 (aK .add 44 1),m1 44 72])
def A2:au:=(sq (rF [o1 52 (aX .lss 51 50)]) (sq (cn 52 .skip (.exit 2)) (sq (.block 3 (sq (rF [m1 53 51,o1 54 (iX 1 49 51),lF 55 1 54,m1 12 53,m1 13 55]) (sq (sq (rF [m1 56 13,
  o1 57 (cF 40 [t1 56,i1 0,i1 100000]),o1 58 (uX 57)]) (cn 58 (sq (rF [o1 4 (mI 0),o1 5 (mI 2)]) .ret) .skip)) (sq (rF [lF 59 1 6,m1 60 10,m1 61 12,o1 62 (.nilCheck (t1 59)),fA 63 3 62,o1 64
  (.indexAddr (some 4) 200 (t1 63) (t1 60)),o1 65 (.indexAddr (some 200) 1 (t1 64) (t1 61)),lF 66 1 65,o1 67 (uX 66)]) (cn 67 (rF [m1 68 9,m1 69 13,o1 70 (aX .add 68 69),m1 9 70]) .skip))))) (rF
  [o1 71 (aK .add 51 1),m1 51 71]))))
def A1:au:=(sq (rF [o1 45 (aX .lss 44 43)]) (sq (cn 45 .skip (.exit 0)) (sq (.block 1 (sq (rF [m1 46 44,o1 47 (iX 1 42 44),lF 48 1 47,m1 10 46,m1 11 48]) (sq (rF [m1 49 11,o1
  50 (nX 49),o1 51 (mI 0)]) (.block 2 (.loop A2))))) O5)))
def Eo:au:=(sq (rF [o1 2 (.box 3 (t1 0)),o1 3 (.box 1 (t1 1)),o1 4 (mI 0),o1 5 (mI 0)]) (sq (rF [lT 23 3 2,o1 24 (cF 32 [t1 23]),m1 22 24,o1 25 (eX 0 22),o1 26 (eX 1 22),o1 6
  (.alloc [.v (.pointer none)]),sT 1 6 25,m1 7 26]) (sq (sq (rF [m1 27 7,o1 28 (aK .neq 27 0)]) (cn 28 (sq (rF [m1 29 7,o1 4 (mI 0),m1 5 29]) .ret) .skip)) (sq (rF [o1 30 (.mC 38 [] [t1 2]),m1
  8 30]) (sq (sq (rF [lF 31 1 3,o1 32 (nX 31),fA 33 1 2,lF 34 1 33,o1 35 (nX 34),o1 36 (aX .neq 32 35),m1 37 36,gF 38 37 (lX 1 3),gF 39 37 (mX 8),gF 40 37 (cF 39 [t1 38,t1 39]),o1 41 (pB 37
  40)]) (cn 41 (sq (rF [o1 4 (mI 0),o1 5 (mI 10)]) .ret) .skip)) (sq (rF [o1 9 (mI 0)]) (sq (sq (rF [lF 42 1 3,o1 43 (nX 42),o1 44 (mI 0)]) (.block 0 (.loop A1))) JY)))))))
abbrev ara:List K:=[.blk 10,.blk 9,.c O4,.lp A0,.blk 8,.c JX,.blk 7]
abbrev aaG:List K:=[.blk 8,.c JX,.blk 7]
abbrev aBD:List K:=[.blk 6,.c JW,.blk 5,.c JV,.lp AZ,.blk 4,.c JU]
abbrev aaF:List K:=[.blk 4,.c JU]
abbrev arb:List K:=[.blk 2,.blk 1,.c O5,.lp A1,.blk 0,.c JY]
abbrev aaH:List K:=[.blk 0,.c JY]
abbrev GP:=aR [(.tmp 4),(.tmp 5)] false
def xg:aE:=.code 2 125 Eo [(.tmp 4),(.tmp 5)] false
-- 12
def Ot:au:=(sq (rF [m1 19 3,m1 2 19]) .ret)
def Js:au:=(sq (sq (rF [m1 5 4,m1 6 0,o1 7 (nX 6),o1 8 (aX .lss 5 7)]) (cn 8 .skip (.exit 0))) (sq (.block 1 (rF [m1 11 3,m1 12 0,m1 13 4,o1 14 (iX 1 12 13),lF 15 1 14,o1
  16 (cF 31 [t1 15]),o1 17 (.buildSlice 1 [[.slice .aA 0 []]] [(0,(t1 16))]),o1 18 (.append 1 (t1 11) (t1 17)),m1 3 18])) (rF [m1 9 4,o1 10 (aK .add 9 1),m1 4 10])))
def Vz:au:=(sq (rF [o1 2 (.move (.const (.slice .aA 0 [])))]) (sq (rF [o1 3 (.move (.const (.slice .aA 0 [])))]) (sq (sq (rF [o1 4 (mI 0)]) (.block 0 (.loop Js)))
  Ot)))
abbrev aqz:List K:=[.blk 0,.c Ot]
abbrev aiY:=aR [(.tmp 2)] false
def E1:aE:=.code 1 20 Vz [(.tmp 2)] false
-- 13
def Pd:au:=(sq (rF [m1 84 17,m1 85 14,m1 2 84,m1 3 85,o1 4 (mI 0)]) .ret)
def Ka:au:=(sq (rF [o1 74 (aX .lss 73 72)]) (sq (cn 74 .skip (.exit 8)) (sq (.block 9 (rF [m1 75 17,m1 76 13,o1 77 (.buildSlice 1 [[.v (.int .i64 0)]] [(0,(t1 76))]),fA 78
  0 1,lF 79 1 78,o1 80 (cF 45 [t1 77,t1 79]),o1 81 (.buildSlice 1 [[.slice .aA 0 []]] [(0,(t1 80))]),o1 82 (.append 1 (t1 75) (t1 81)),m1 17 82])) (rF [o1 83 (aK .add 73 1),m1 73 83]))))
def Pe:au:=(sq (rF [o1 17 (.move (.const (.slice .aA 0 [])))]) (sq (sq (rF [fA 70 1 1,lF 71 1 70,o1 72 (nX 71),o1 73 (mI 0)]) (.block 8 (.loop Ka)))
  Pd))
def Eu:au:=(sq (rF [o1 59 (aK .lss 58 100001)]) (sq (cn 59 .skip (.exit 6)) (sq (.block 7 (sq (rF [m1 60 58,m1 15 60]) (sq (rF [m1 61 12,m1 62 15,o1 63 (.gW false (t1
  61) [t1 62]),m1 16 63]) (sq (rF [m1 64 16,m1 65 14,o1 66 (aX .lss 64 65)]) (cn 66 (rF [m1 67 15,m1 68 16,m1 13 67,m1 14 68]) .skip))))) (rF [o1 69 (aK .add 58 1),m1 58 69]))))
def Kc:au:=(sq (rF [o1 55 (.mC 44 [] [t1 7,t1 9]),m1 12 55]) (sq (rF [m1 56 12,o1 57 (.gW false (t1 56) [i1 0]),o1 13 (mI 0),m1 14 57]) (sq (sq (rF [o1 58 (mI 0)])
  (.block 6 (.loop Eu))) Pe)))
def Ev:au:=(rF [o1 54 (aK .add 41 1),m1 41 54])
def yG : au := (.block 5 (sq (rF [lF 50 1 9, lT 51 7 11, o1 52 (.buildSlice 7 [[.v (.string ⟨#[]⟩), .v (.int .i64 0), .v (.int .i64 0), .v (.int .i64 0), .v (.int .i64 0), .slice
  .aA 0 [],.v (.int .i64 0)]] [(0,(t1 51))]),o1 53 (.append 7 (t1 50) (t1 52)),sT 1 9 53]) (.exit 4)))
def yE:au:=.skip
def yF : au := (sq (rF [o1 42 (aX .lss 41 40)]) (sq (cn 42 .skip (.exit 2)) (sq (.block 3 (sq (rF [m1 43 41, o1 44 (iX 7 39 41), lT 45 7 44, o1 11 (.alloc [.v (.string ⟨#[]⟩), .v
  (.int .i64 0),.v (.int .i64 0),.v (.int .i64 0),.v (.int .i64 0),.slice .aA 0 [],.v (.int .i64 0)]),m1 10 43,sT 7 11 45]) (sq (rF [m1 46 5,m1 47 10,o1 48 (cF 41 [t1 46,t1 47])]) (.block
  4 (.rangeFunc (t1 48) [49] yE yG))))) Ev)))
def Pf:au:=(sq (rF [o1 9 (.alloc [.slice .aA 0 []])]) (sq (sq (rF [fA 38 2 1,lF 39 1 38,o1 40 (nX 39),o1 41 (mI 0)]) (.block 2 (.loop yF)))
  Kc))
def Kb:au:=(sq (rF [o1 30 (aX .lss 29 28)]) (sq (cn 30 .skip (.exit 0)) (sq (.block 1 (sq (rF [m1 31 29,m1 8 31]) (rT [lF 32 1 7,m1 33 5,m1 34 8,o1 35 (.call true 43 [t1
  33,t1 34]),o1 36 (aX .add 32 35),sT 1 7 36]))) (rF [o1 37 (aK .add 29 1),m1 29 37]))))
def Pb:au:=(sq (rF [o1 1 (.box 3 (t1 0)),o1 2 (.move (.const (.slice .aA 0 []))),o1 3 (mI 0),o1 4 (mI 0)]) (sq (rF [lT 19 3 1,o1 20 (cF 32 [t1 19]),m1 18 20,o1 21 (eX 0
  18),o1 22 (eX 1 18),m1 5 21,m1 6 22]) (sq (sq (rF [m1 23 6,o1 24 (aK .neq 23 0)]) (cn 24 (sq (rF [m1 25 6,o1 2 (.move (.const (.slice .aA 0 []))),o1 3 (mI 0),m1 4 25]) .ret) .skip)) (sq (rF
  [o1 7 (.alloc [.v (.int .i64 0)]),⟨none,none,(.store 1 (t1 7) (i1 0))⟩]) (sq (sq (rF [fA 26 1 1,lF 27 1 26,o1 28 (nX 27),o1 29 (mI 0)]) (.block 0 (.loop Kb)))
  Pf)))))
abbrev ark:List K:=[.blk 8,.c Pd]
abbrev arl:List K:=[.blk 6,.c Pe]
abbrev aBE:List K:=[.blk 4,.blk 3,.c Ev,.lp yF,.blk 2,.c Kc]
abbrev SA:List K:=[.blk 2,.c Kc]
abbrev aro:List K:=[.blk 0,.c Pf]
abbrev BS:=aR [(.tmp 2),(.tmp 3),(.tmp 4)] false
def Bn:aE:=.code 1 86 Pb [(.tmp 2),(.tmp 3),(.tmp 4)] false
-- 14
def OJ:au:=(sq (rF [o1 2 (.box 3 (t1 0)),o1 4 (mI 0)]) (sq (sq (rF [lT 8 3 2,o1 9 (cF 26 [t1 8]),m1 5 9]) (sq (rF [m1 10 5,o1 11 (aK .neq 10 0)]) (cn 11 (sq (rF [m1 12 5,m1 4 12])
  .ret) .skip))) (sq (rF [lT 14 3 2,m1 15 1,o1 16 (cF 46 [t1 14,t1 15]),m1 13 16,o1 17 (eX 0 13),o1 18 (eX 1 13),m1 6 17,m1 7 18]) (sq (rF [m1 19 7,m1 4 19]) .ret))))
abbrev az0:=aR [(.tmp 4)] false
def Fo:aE:=.code 2 20 OJ [(.tmp 4)] false
-- 15
def OS:au:=(sq (rF [m1 25 5,m1 4 25]) .ret)
def JL:au:=(sq (sq (rF [m1 7 6,m1 8 1,o1 9 (nX 8),o1 10 (aX .lss 7 9)]) (cn 10 .skip (.exit 0))) (sq (.block 1 (rT [m1 13 5,fA 14 2 2,lF 15 1 14,m1 16 1,m1 17 6,o1 18 (iX 3
  16 17),fA 19 0 18,lF 20 1 19,o1 21 (iX 7 15 20),fA 22 4 21,lF 23 1 22,o1 24 (aX .add 13 23),m1 5 24])) (rF [m1 11 6,o1 12 (aK .add 11 1),m1 6 12])))
def VS:au:=(sq (rF [o1 2 (.box 3 (t1 0)),o1 4 (mI 0)]) (sq (rF [o1 5 (mI 0)]) (sq (sq (rF [o1 6 (mI 0)]) (.block 0 (.loop JL))) OS)))
abbrev aqZ:List K:=[.blk 0,.c OS]
abbrev ai7:=aR [(.tmp 4)] false
def Fq:aE:=.code 2 26 VS [(.tmp 4)] false
-- 16
def J7:au:=(sq (sq (rF [lF 80 1 4,o1 81 (nX 80),o1 82 (aK .gtr 81 12)]) (cn 82 (sq (rF [⟨none,none,(.store 1 (t1 2) (.const (.slice .aA 0 [])))⟩,⟨none,none,(.store 1 (t1
  3) (i1 8))⟩]) .ret) .skip)) (sq (rF [lF 83 1 4,sT 1 2 83,⟨none,none,(.store 1 (t1 3) (i1 0))⟩]) .ret))
def J8:au:=(sq (sq (rF [m1 74 11,o1 75 (cF 51 [t1 74,bF])]) (cn 75 (sq (rF [⟨none,none,(.store 1 (t1 2) (.const (.slice .aA 0 [])))⟩,⟨none,none,(.store 1 (t1 3) (i1
  7))⟩]) .ret) .skip)) (rF [lF 76 1 4,lT 77 3 10,o1 78 (.buildSlice 3 [[.v (.int .i64 0),.v (.int .i64 0),.slice .aA 0 []]] [(0,(t1 77))]),o1 79 (.append 3 (t1 76) (t1 78)),sT 1 4 79]))
def Et:au:=(sq (rF [o1 55 (aX .lss 54 53)]) (sq (cn 55 .skip (.exit 2)) (sq (.block 3 (sq (rF [o1 56 (iX 1 52 54),lF 57 1 56,m1 13 57]) (sq (rF [m1 59 13,o1 60 (cF 50 [t1 59]),
  m1 58 60,o1 61 (eX 0 58),o1 62 (eX 1 58),m1 14 61,m1 15 62]) (rF [fA 63 2 10,lF 64 1 63,m1 65 14,o1 66 (.buildSlice 1 [[.v (.int .i64 0)]] [(0,(t1 65))]),o1 67 (.append 1 (t1 64) (t1 66)),
  m1 68 11,m1 69 15,o1 70 (.buildSlice 1 [[.v (.bool false)]] [(0,(t1 69))]),o1 71 (.qT 1 (t1 68) (t1 70)),fA 72 2 10,sT 1 72 67,m1 11 71])))) (rF [o1 73 (aK .add 54 1),m1 54 73]))))
def uY : au := (.block 1 (sq (rF [m1 25 5, o1 26 (cF 48 [t1 25, .const (.v (.string ⟨#[64]⟩))]), m1 24 26, o1 27 (eX 0 24), o1 28 (eX 1 24), o1 29 (eX 2 24), m1 6 27, m1 7 28, m1 8
  29]) (sq (rF [m1 30 7, o1 31 (cF 49 [t1 30, .const (.v (.string ⟨#[43]⟩))]), m1 9 31]) (sq (rF [o1 10 (.alloc [.v (.int .i64 0), .v (.int .i64 0), .slice .aA 0 []])]) (sq (rF [o1 32 (.zR 1
  [.v (.bool false)] (i1 2) (i1 2)),m1 11 32]) (sq (rF [m1 34 11,m1 35 6,o1 36 (cF 50 [t1 35]),m1 33 36,o1 37 (eX 0 33),o1 38 (eX 1 33),fA 39 0 10,sT 1 39 37,o1 40 (.indexAddr none 1 (t1 34)
  (i1 0)),sT 1 40 38]) (sq (rF [m1 42 11,m1 43 9,o1 44 (.indexAddr none 1 (t1 43) (i1 0)),lF 45 1 44,o1 46 (cF 50 [t1 45]),m1 41 46,o1 47 (eX 0 41),o1 48 (eX 1 41),fA 49 1 10,sT 1 49 47,o1
  50 (.indexAddr none 1 (t1 42) (i1 1)),sT 1 50 48]) (sq (sq (rF [m1 51 9,o1 52 (.slice (.sl 1) (t1 51) (some (i1 1)) none none),o1 53 (nX 52),o1 54 (mI 0)]) (.block 2 (.loop Et)))
  J8))))))))
def uW:au:=(rF [m1 5 23])
def J6:au:=(sq (rF [o1 2 (.alloc [.slice .aA 0 []]),o1 3 (.alloc [.v (.int .i64 0)])]) (sq (sq (rF [m1 16 0,o1 17 (.len true (t1 16)),o1 18 (aK .gtr 17 60000)]) (cn 18 (sq (rF
  [⟨none,none,(.store 1 (t1 2) (.const (.slice .aA 0 [])))⟩,⟨none,none,(.store 1 (t1 3) (i1 8))⟩]) .ret) .skip)) (sq (sq (rF [m1 19 0,o1 20 (.arith .eql (t1 19) (.const (.v (.string
  ⟨#[]⟩))))]) (cn 20 (sq (rF [⟨none, none, (.store 1 (t1 2) (.const (.slice .aA 0 [])))⟩, ⟨none, none, (.store 1 (t1 3) (i1 0))⟩]) .ret) .skip)) (sq (rF [o1 4 (.alloc [.slice .aA 0 []])]) (sq (sq
  (rF [m1 21 0, o1 22 (.ve 47 [t1 21, .const (.v (.string ⟨#[32]⟩))])]) (.block 0 (.rangeFunc (t1 22) [23] uW uY))) J7)))))
abbrev MH:List K:=[.blk 2,.c J8,.blk 1]
abbrev arj:List K:=[.blk 0,.c J7]
abbrev ajb:=aR [(.cell false 1 2),(.cell false 1 3)] false
def yS:aE:=.code 1 84 J6 [(.cell false 1 2),(.cell false 1 3)] false
-- 17
def Ep : au := (sq (rF [m1 41 3, o1 42 (cF 53 [t1 41, .const (.v (.string ⟨#[32]⟩))]), m1 2 42]) .ret)
def J2:au:=(rF [o1 40 (aK .add 11 1),m1 11 40])
def J3 : au := (rF [m1 36 3, m1 37 6, o1 38 (.buildSlice 1 [[.v (.string ⟨#[]⟩)]] [(0, (t1 37))]), o1 39 (.append 1 (t1 36) (t1 38)), m1 3 39])
def yD:au:=(sq (rF [o1 27 (aX .lss 26 25)]) (sq (cn 27 .skip (.exit 2)) (sq (.block 3 (sq (rF [o1 28 (iX 1 24 26),lF 29 1 28,m1 8 29]) (rF [m1 30 6,m1 31 8,o1 32 (cF 52 [t1
  31]), o1 33 (.arith .add (.const (.v (.string ⟨#[43]⟩))) (t1 32)), o1 34 (aX .add 30 33), m1 6 34]))) (rF [o1 35 (aK .add 26 1), m1 26 35]))))
def w8:au:=(sq (rF [o1 12 (aX .lss 11 10)]) (sq (cn 12 .skip (.exit 0)) (sq (.block 1 (sq (rF [o1 13 (iX 3 9 11),lT 14 3 13,o1 5 (.alloc [.v (.int .i64 0),.v (.int .i64 0),
  .slice .aA 0 []]), sT 3 5 14]) (sq (rT [fA 15 0 5, lF 16 1 15, o1 17 (.call true 52 [t1 16]), o1 18 (.arith .add (t1 17) (.const (.v (.string ⟨#[64]⟩)))), fA 19 1 5, lF 20 1 19, o1 21 (cF 52 [t1
  20]),o1 22 (aX .add 18 21),m1 6 22]) (sq (sq (rF [fA 23 2 5,lF 24 1 23,o1 25 (nX 24),o1 26 (mI 0)]) (.block 2 (.loop yD))) J3)))) J2)))
def O8 : au := (sq (rF [o1 2 (.move (.const (.v (.string ⟨#[]⟩))))]) (sq (rF [o1 3 (.move (.const (.slice .aA 0 [])))]) (sq (sq (rF [m1 9 0, o1 10 (nX 9), o1 11 (mI 0)]) (.block 0
  (.loop w8))) Ep)))
abbrev aaJ:List K:=[.blk 2,.c J3,.blk 1,.c J2,.lp w8,.blk 0,.c Ep]
abbrev aaI:List K:=[.blk 0,.c Ep]
abbrev K9:=aR [(.tmp 2)] false
def Bk:aE:=.code 1 43 O8 [(.tmp 2)] false
-- 18
def JH:au:=(sq (rF [m1 31 3,m1 2 31]) .ret)
def D9:au:=(sq (sq (rF [m1 5 4,m1 6 0,o1 7 (nX 6),o1 8 (aX .lss 5 7)]) (cn 8 .skip (.exit 0))) (sq (.block 1 (rT [m1 11 3,m1 12 0,m1 13 4,o1 14 (iX 3 12 13),fA 15 0 14,lF 16 1
  15,m1 17 0,m1 18 4,o1 19 (iX 3 17 18),fA 20 1 19,lF 21 1 20,m1 22 0,m1 23 4,o1 24 (iX 3 22 23),fA 25 2 24,lF 26 1 25,o1 27 (.call true 31 [t1 26]),o1 28 (.build [.v (.int .i64 0),.v
  (.int .i64 0),.slice .aA 0 []] [(0,(1,(t1 16))),(1,(1,(t1 21))),(2,(1,(t1 27)))]),o1 29 (.buildSlice 3 [[.v (.int .i64 0),.v (.int .i64 0),.slice .aA 0 []]] [(0,(t1 28))]),o1 30
  (.append 3 (t1 11) (t1 29)),m1 3 30])) (rF [m1 9 4,o1 10 (aK .add 9 1),m1 4 10])))
def VO:au:=(sq (rF [o1 2 (.move (.const (.slice .aA 0 [])))]) (sq (rF [o1 3 (.move (.const (.slice .aA 0 [])))]) (sq (sq (rF [o1 4 (mI 0)]) (.block 0 (.loop D9)))
  JH)))
abbrev aqS:List K:=[.blk 0,.c JH]
abbrev ai4:=aR [(.tmp 2)] true
def Fl:aE:=.code 1 32 VO [(.tmp 2)] true
-- 19
def OQ:au:=(sq (rF [o1 4 (mB true)]) .ret)
def Ee:au:=(sq (sq (rF [m1 11 5,m1 12 0,o1 13 (nX 12),o1 14 (aX .lss 11 13)]) (cn 14 .skip (.exit 0))) (sq (.block 1 (sq (rT [m1 17 0,m1 18 5,o1 19 (iX 3 17 18),lT 20 3 19,m1 21
  1,m1 22 5,o1 23 (iX 3 21 22),lT 24 3 23,o1 25 (cF 54 [t1 20,t1 24]),o1 26 (aK .neq 25 0)]) (cn 26 (sq (rF [o1 4 (mB false)]) .ret) .skip))) (rF [m1 15 5,o1 16 (aK .add 15 1),m1 5 16])))
def OP:au:=(sq (rF [o1 4 (mB false)]) (sq (sq (rF [m1 6 0,o1 7 (nX 6),m1 8 1,o1 9 (nX 8),o1 10 (aX .neq 7 9)]) (cn 10 (sq (rF [o1 4 (mB false)]) .ret) .skip)) (sq (sq (rF [o1 5 (mI
  0)]) (.block 0 (.loop Ee))) OQ)))
abbrev aqX:List K:=[.blk 0,.c OQ]
abbrev ai5:=aR [(.tmp 4)] false
def Bh:aE:=.code 2 27 OP [(.tmp 4)] false
-- 20
def J4:au:=(sq (rF [m1 78 12,m1 6 78,o1 7 (mI 0)]) .ret)
def uV:au:=(sq (rF [o1 35 (aX .lss 34 33)]) (sq (cn 35 .skip (.exit 0)) (sq (.block 1 (sq (rF [m1 36 34,m1 13 36]) (sq (sq (rF [m1 37 13,o1 38 (.indexAddr (some 200) 1 (t1 11) (t1
  37)),lF 39 1 38,m1 40 39,gF 41 40 (mX 8),gF 42 40 (mX 2),gF 43 40 (mX 13),gF 44 40 (.nilCheck (t1 41)),gF 45 40 (fX 3 44),gF 46 40 (.indexAddr (some 4) 200 (t1 45) (t1 42)),gF 47 40
  (.indexAddr (some 200) 1 (t1 46) (t1 43)),gF 48 40 (lX 1 47),o1 49 (pB 40 48)]) (cn 49 (.exit 1) .skip)) (sq (sq (rF [m1 50 12,o1 51 (nX 50),m1 14 51]) (sq (rF [m1 52 14,o1 53 (aK .gtr 52 0),
  m1 54 53,gT 55 54 (mX 12),gT 56 54 (mX 14),gT 57 54 (aK .sub 56 1),gT 58 54 (iX 2 55 57),gT 59 54 (fX 1 58),gT 60 54 (lX 1 59),gT 61 54 (mX 13),gT 62 54 (aK .sub 61 1),gT 63 54 (aX .eql 60
  62),o1 64 (pA 54 63)]) (cn 64 (sq (rF [m1 65 12,m1 66 14,o1 67 (aK .sub 66 1),m1 68 13,o1 69 (iX 2 65 67),fA 70 1 69,sT 1 70 68]) (.exit 1)) .skip))) (rF [m1 71 12,m1 72 13,m1 73 13,o1 74
  (.build [.v (.int .i64 0),.v (.int .i64 0)] [(0,(1,(t1 72))),(1,(1,(t1 73)))]),o1 75 (.buildSlice 2 [[.v (.int .i64 0),.v (.int .i64 0)]] [(0,(t1 74))]),o1 76 (.qT 2 (t1 71) (t1 75)),
  m1 12 76]))))) (rF [o1 77 (aK .add 34 1),m1 34 77]))))
def O9:au:=(sq (rF [o1 3 (.box 3 (t1 0)),o1 6 (.move (.const (.slice .aA 0 []))),o1 7 (mI 0)]) (sq (rF [lT 16 3 3,m1 17 1,m1 18 2,o1 19 (cF 55 [t1 16,t1 17,t1 18]),m1 15 19,
  o1 20 (eX 0 15),o1 21 (eX 1 15),m1 8 20,m1 9 21]) (sq (sq (rF [m1 22 9,o1 23 (aK .neq 22 0)]) (cn 23 (sq (rF [m1 24 9,o1 6 (.move (.const (.slice .aA 0 []))),m1 7 24]) .ret) .skip)) (sq (rF
  [m1 26 8,m1 27 1,m1 28 2,o1 29 (cF 56 [t1 26,t1 27,t1 28]),m1 25 29,o1 30 (eX 0 25),o1 31 (eX 1 25),o1 11 (.alloc (td 200)),m1 10 30,sT 200 11 31]) (sq (rF [o1 12 (.move (.const
  (.slice .aA 0 [])))]) (sq (sq (rF [fA 32 0 3,lF 33 1 32,o1 34 (mI 0)]) (.block 0 (.loop uV))) J4))))))
abbrev arf:List K:=[.blk 0,.c J4]
abbrev aja:=aR [(.tmp 6),(.tmp 7)] false
def Bl:aE:=.code 3 79 O9 [(.tmp 6),(.tmp 7)] false
-- 21
def VC:au:=(sq (rF [o1 6 (mB false)]) (sq (rF [m1 7 1,m1 8 0,o1 9 (aX .leq 7 8),m1 10 9,gT 11 10 (mX 0),gT 12 10 (mX 2),gT 13 10 (aX .leq 11 12),o1 14 (pA 10 13),m1 6 14])
  .ret))
abbrev azQ:=aR [(.tmp 6)] false
def E5:aE:=.code 3 15 VC [(.tmp 6)] false
-- 22
def Ov:au:=(sq (rF [o1 4 (mB false)]) .ret)
def D1:au:=(sq (sq (rF [m1 6 5,m1 7 0,o1 8 (nX 7),o1 9 (aX .lss 6 8)]) (cn 9 .skip (.exit 0))) (sq (.block 1 (sq (rF [m1 12 0,m1 13 5,o1 14 (iX 1 12 13),lF 15 1 14,m1 16 1,o1 17
  (aX .eql 15 16)]) (cn 17 (sq (rF [o1 4 (mB true)]) .ret) .skip))) (rF [m1 10 5,o1 11 (aK .add 10 1),m1 5 11])))
def VA:au:=(sq (rF [o1 4 (mB false)]) (sq (sq (rF [o1 5 (mI 0)]) (.block 0 (.loop D1))) Ov))
abbrev aqA:List K:=[.blk 0,.c Ov]
abbrev aiZ:=aR [(.tmp 4)] false
def E3:aE:=.code 2 18 VA [(.tmp 4)] false
-- 23
def VH:au:=(sq (rF [o1 0 (.alloc [.v (.int .i64 0),.slice .aA 0 [],.slice .aA 0 []])]) (sq (rF [o1 1 (.build [.v (.int .i64 0),.v (.int .i64 0)] [(0,(1,(i1 4))),(1,(1,(i1
  4)))]), o1 2 (.buildSlice 2 [[.v (.int .i64 0), .v (.int .i64 0)]] [(0, (t1 1))]), o1 3 (.build [.v (.string ⟨#[]⟩), .v (.int .i64 0), .slice .aA 0 []] [(0, (1, (.const (.v (.string ⟨#[97]⟩))))),
  (1, (1, (i1 1))), (2, (1, (t1 2)))]), o1 4 (.build [.v (.string ⟨#[]⟩), .v (.int .i64 0), .slice .aA 0 []] [(0, (1, (.const (.v (.string ⟨#[98]⟩)))))]), o1 5 (.buildSlice 3 [[.v (.string ⟨#[]⟩),
  .v (.int .i64 0), .slice .aA 0 []], [.v (.string ⟨#[]⟩), .v (.int .i64 0), .slice .aA 0 []]] [(0, (t1 3)), (1, (t1 4))]), o1 6 (.build [.v (.int .i64 0), .v (.int .i64 0)] [(1, (1, (i1 5)))]),
  o1 7 (.buildSlice 1 [[.v (.int .i64 0)]] [(0, (i1 0))]), o1 8 (.build [.v (.string ⟨#[]⟩), .v (.int .i64 0), .v (.int .i64 0), .v (.int .i64 0), .v (.int .i64 0), .slice .aA 0 [], .v (.int .i64
  0)] [(0, (1, (.const (.v (.string ⟨#[109, 97, 114, 115]⟩))))), (1, (2, (t1 6))), (3, (1, (i1 3))), (4, (1, (i1 10))), (5, (1, (t1 7))), (6, (1, (i1 1)))]), o1 9 (.build [.v (.int .i64 0), .v (.int
  .i64 0)] [(1, (1, (i1 4)))]), o1 10 (.buildSlice 1 [[.v (.int .i64 0)], [.v (.int .i64 0)]] [(0, (i1 0)), (1, (i1 1))]), o1 11 (.build [.v (.string ⟨#[]⟩), .v (.int .i64 0), .v (.int .i64 0), .v
  (.int .i64 0), .v (.int .i64 0), .slice .aA 0 [], .v (.int .i64 0)] [(0, (1, (.const (.v (.string ⟨#[109, 111, 111, 110]⟩))))), (1, (2, (t1 9))), (3, (1, (i1 2))), (4, (1, (i1 7))), (5, (1, (t1
  10))),(6,(1,(i1 1)))]),o1 12 (.build [.v (.int .i64 0),.v (.int .i64 0)] [(1,(1,(i1 9)))]),o1 13 (.buildSlice 1 [[.v (.int .i64 0)],[.v (.int .i64 0)]] [(0,(i1 0)),(1,(i1 1))]),o1 14
  (.build [.v (.string ⟨#[]⟩), .v (.int .i64 0), .v (.int .i64 0), .v (.int .i64 0), .v (.int .i64 0), .slice .aA 0 [], .v (.int .i64 0)] [(0, (1, (.const (.v (.string ⟨#[109, 97, 114, 115]⟩))))),
  (1, (2, (t1 12))), (3, (1, (i1 4))), (4, (1, (i1 6))), (5, (1, (t1 13))), (6, (1, (i1 2)))]), o1 15 (.buildSlice 7 [[.v (.string ⟨#[]⟩), .v (.int .i64 0), .v (.int .i64 0), .v (.int .i64 0), .v
  (.int .i64 0), .slice .aA 0 [], .v (.int .i64 0)], [.v (.string ⟨#[]⟩), .v (.int .i64 0), .v (.int .i64 0), .v (.int .i64 0), .v (.int .i64 0), .slice .aA 0 [], .v (.int .i64 0)], [.v (.string
  ⟨#[]⟩), .v (.int .i64 0), .v (.int .i64 0), .v (.int .i64 0), .v (.int .i64 0), .slice .aA 0 [], .v (.int .i64 0)]] [(0, (t1 8)), (1, (t1 11)), (2, (t1 14))]), o1 16 (.build [.v (.int .i64 0),
  .slice .aA 0 [],.slice .aA 0 []] [(0,(1,(i1 10))),(1,(1,(t1 5))),(2,(1,(t1 15)))]),sT 3 0 16]) .ret))
abbrev azU:=aR [(.cell true 3 0)] false
def Fc:aE:=.code 0 17 VH [(.cell true 3 0)] false
-- 24
def OB:au:=(sq (rF [o1 2 (mB true)]) .ret)
def AW:au:=(sq (sq (rF [m1 40 4,fA 41 2 1,lF 42 1 41,o1 43 (nX 42),o1 44 (aX .lss 40 43)]) (cn 44 .skip (.exit 2))) (sq (.block 3 (sq (rF [fA 47 2 1,lF 48 1 47,m1 49 4,o1 50 (iX
  7 48 49),fA 51 0 50,lF 52 1 51,o1 53 (.len true (t1 52)),o1 54 (aK .gtr 53 20),m1 55 54,gF 56 55 (fX 2 1),gF 57 55 (lX 1 56),gF 58 55 (mX 4),gF 59 55 (iX 7 57 58),gF 60 55 (fX 5 59),gF 61
  55 (lX 1 60),gF 62 55 (nX 61),gF 63 55 (aK .gtr 62 6),o1 64 (pB 55 63)]) (cn 64 (sq (rF [o1 2 (mB false)]) .ret) .skip))) (rF [m1 45 4,o1 46 (aK .add 45 1),m1 4 46])))
def OC:au:=(sq (sq (rF [o1 4 (mI 0)]) (.block 2 (.loop AW))) OB)
def AX:au:=(sq (sq (rF [m1 15 3,fA 16 1 1,lF 17 1 16,o1 18 (nX 17),o1 19 (aX .lss 15 18)]) (cn 19 .skip (.exit 0))) (sq (.block 1 (sq (rF [fA 22 1 1,lF 23 1 22,m1 24 3,o1 25 (iX
  3 23 24),fA 26 0 25,lF 27 1 26,o1 28 (.len true (t1 27)),o1 29 (aK .gtr 28 20),m1 30 29,gF 31 30 (fX 1 1),gF 32 30 (lX 1 31),gF 33 30 (mX 3),gF 34 30 (iX 3 32 33),gF 35 30 (fX 2 34),gF 36
  30 (lX 1 35),gF 37 30 (nX 36),gF 38 30 (aK .gtr 37 8),o1 39 (pB 30 38)]) (cn 39 (sq (rF [o1 2 (mB false)]) .ret) .skip))) (rF [m1 20 3,o1 21 (aK .add 20 1),m1 3 21])))
def JC:au:=(sq (rF [o1 1 (.box 3 (t1 0)),o1 2 (mB false)]) (sq (sq (rF [fA 5 1 1,lF 6 1 5,o1 7 (nX 6),o1 8 (aK .gtr 7 6),m1 9 8,gF 10 9 (fX 2 1),gF 11 9 (lX 1 10),gF 12 9 (nX 11),
  gF 13 9 (aK .gtr 12 14),o1 14 (pB 9 13)]) (cn 14 (sq (rF [o1 2 (mB false)]) .ret) .skip)) (sq (sq (rF [o1 3 (mI 0)]) (.block 0 (.loop AX))) OC)))
abbrev aqK:List K:=[.blk 2,.c OB]
abbrev aqL:List K:=[.blk 0,.c OC]
abbrev XY:=aR [(.tmp 2)] false
def Fb:aE:=.code 1 65 JC [(.tmp 2)] false
-- 25
def JM:au:=(sq (rF [m1 26 5,m1 4 26]) .ret)
def Eg:au:=(sq (sq (rF [m1 7 6,fA 8 2 2,lF 9 1 8,o1 10 (nX 9),o1 11 (aX .lss 7 10),m1 12 11,gT 13 12 (mX 5),gT 14 12 (mX 1),gT 15 12 (aX .leq 13 14),o1 16 (pA 12 15)]) (cn 16
  .skip (.exit 0))) (sq (.block 1 (rF [m1 19 5,lT 20 3 2,m1 21 6,o1 22 (cF 57 [t1 20,t1 21]),o1 23 (nX 22),o1 24 (.arith .add (i1 1) (t1 23)),o1 25 (aX .mul 19 24),m1 5 25])) (rF [m1 17 6,o1
  18 (aK .add 17 1),m1 6 18])))
def VU:au:=(sq (rF [o1 2 (.box 3 (t1 0)),o1 4 (mI 0)]) (sq (rF [o1 5 (mI 1)]) (sq (sq (rF [o1 6 (mI 0)]) (.block 0 (.loop Eg))) JM)))
abbrev aq0:List K:=[.blk 0,.c JM]
abbrev ai8:=aR [(.tmp 4)] false
def Ft:aE:=.code 2 27 VU [(.tmp 4)] false
-- 26
def VT:au:=(sq (rF [o1 1 (.box 3 (t1 0)),o1 2 (mI 0)]) (sq (rF [lT 6 3 1,o1 7 (cF 58 [t1 6]),m1 5 7,o1 8 (eX 0 5),o1 9 (eX 1 5),o1 3 (.alloc [.v (.int .i64 0),.v (.int .i64
  0)]),sT 2 3 8,m1 4 9]) (sq (rF [m1 10 4,m1 2 10]) .ret)))
abbrev az1:=aR [(.tmp 2)] false
def Fs:aE:=.code 1 11 VT [(.tmp 2)] false
-- 27
def Pp:au:=(sq (rF [o1 1 (.box 3 (t1 0)),o1 2 (.move (.const (.v (.pointer none)))),o1 3 (mI 0)]) (sq (rF [lT 9 3 1,o1 10 (cF 32 [t1 9]),m1 8 10,o1 11 (eX 0 8),o1 12 (eX 1 8),
  m1 4 11,m1 5 12]) (sq (sq (rF [m1 13 5,o1 14 (aK .neq 13 0)]) (cn 14 (sq (rF [m1 15 5,o1 2 (.move (.const (.v (.pointer none)))),m1 3 15]) .ret) .skip)) (sq (rF [o1 6 (.move (.const (.fn 59 []
  [])))]) (sq (rF [fA 16 2 1,lF 17 1 16,o1 18 (nX 17),o1 19 (aK .leq 18 6),m1 20 19,gT 21 20 (fX 2 1),gT 22 20 (lX 1 21),gT 23 20 (mX 6),gT 24 20 (cF 60 [t1 22,t1 23]),gT 25 20 (uX 24),o1
  26 (pA 20 25),m1 7 26]) (sq (rF [m1 27 4,m1 28 7,o1 29 (cF 61 [t1 28,i1 8]),m1 2 27,m1 3 29]) .ret))))))
abbrev aAe:=aR [(.tmp 2),(.tmp 3)] false
def Bq:aE:=.code 1 30 Pp [(.tmp 2),(.tmp 3)] false
-- 28
def PB:au:=(sq (rF [lT 26 2 3,sT 2 2 26]) .ret)
def Kn:au:=(sq (rF [o1 14 (aX .lss 13 12)]) (sq (cn 14 .skip (.exit 0)) (sq (.block 1 (sq (rF [m1 15 13,m1 4 15]) (rT [fA 16 1 3,lF 17 1 16,m1 18 0,m1 19 4,o1 20 (.call true 35
  [t1 18,.const (.slice .aA 0 []),t1 19]),o1 21 (.build [.slice .aA 0 [],.v (.bool false)] [(0,(1,(t1 20))),(1,(1,bT))]),o1 22 (.buildSlice 2 [[.slice .aA 0 [],.v (.bool false)]] [(0,
  (t1 21))]),o1 23 (.append 2 (t1 17) (t1 22)),fA 24 1 3,sT 1 24 23]))) (rF [o1 25 (aK .add 13 1),m1 13 25]))))
def Wu:au:=(sq (rF [o1 2 (.alloc [.v (.pointer none),.slice .aA 0 []])]) (sq (rF [m1 5 0,o1 6 (.build [.v (.pointer none),.slice .aA 0 []] [(0,(1,(t1 5)))]),o1 3 (.alloc [.v
  (.pointer none),.slice .aA 0 []]),sT 2 3 6]) (sq (sq (rF [m1 7 0,o1 8 (.nilCheck (t1 7)),fA 9 0 8,fA 10 2 9,lF 11 1 10,o1 12 (nX 11),o1 13 (mI 0)]) (.block 0 (.loop Kn)))
  PB)))
abbrev arI:List K:=[.blk 0,.c PB]
abbrev aji:=aR [(.cell true 2 2)] false
def F9:aE:=.code 1 27 Wu [(.cell true 2 2)] false
-- 29
def D3:au:=(sq (sq (rF [m1 61 5,m1 62 10,o1 63 (cF 65 [t1 61,t1 62])]) (cn 63 (sq (rF [m1 64 9,m1 65 6,m1 2 64,m1 3 65,o1 4 (mB true)]) .ret) .skip)) (sq (rF [lT 67 2 1,m1 68
  9,m1 69 10,m1 70 5,o1 71 (cF 66 [t1 67,t1 68,t1 69,t1 70]),m1 66 71,o1 72 (eX 0 66),o1 73 (eX 1 66),o1 13 (.alloc [.v (.int .i64 0),.v (.int .i64 0),.slice .aA 0 []]),sT 3 13 72,m1
  14 73]) (sq (sq (rF [m1 74 14,o1 75 (uX 74)]) (cn 75 (sq (rF [m1 76 9,m1 77 6,m1 2 76,m1 3 77,o1 4 (mB true)]) .ret) .skip)) (rF [m1 78 9,lT 79 3 13,o1 80 (.buildSlice 3 [[.v (.int .i64 0),
  .v (.int .i64 0),.slice .aA 0 []]] [(0,(t1 79))]),o1 81 (.append 3 (t1 78) (t1 80)),m1 9 81]))))
def AQ:au:=(sq (rF [o1 52 (aX .lss 51 50)]) (sq (cn 52 .skip (.exit 4)) (sq (.block 5 (sq (rF [o1 53 (iX 3 49 51),lT 54 3 53,o1 12 (.alloc [.v (.int .i64 0),.v (.int .i64 0),.slice
  .aA 0 []]),sT 3 12 54]) (rF [m1 55 10,fA 56 0 12,lF 57 1 56,o1 58 (.arith .shl (i1 1) (t1 57)),o1 59 (aX .or 55 58),m1 10 59]))) (rF [o1 60 (aK .add 51 1),m1 51 60]))))
def Jt:au:=(.block 3 (sq (rF [o1 10 (mI 0)]) (sq (sq (rF [m1 49 9,o1 50 (nX 49),o1 51 (mI 0)]) (.block 4 (.loop AQ))) D3)))
def Ju:au:=(sq (sq (rF [m1 47 6,o1 48 (aK .lss 47 0)]) (cn 48 (sq (rF [o1 2 (.move (.const (.slice .aA 0 []))),o1 3 (mI 0),o1 4 (mB false)]) .ret) .skip)) (sq (rF [o1 9 (.move
  (.const (.slice .aA 0 [])))]) (.block 2 (.loop Jt))))
def uS:au:=(sq (rF [o1 20 (aX .lss 19 18)]) (sq (cn 20 .skip (.exit 0)) (sq (.block 1 (sq (rF [m1 21 19,m1 7 21]) (sq (rF [lT 22 2 1,m1 23 7,o1 24 (cF 62 [t1 22,t1 23]),m1 8 24])
  (sq (rF [m1 25 8,m1 26 6,o1 27 (aX .geq 25 26),m1 28 27,gT 29 28 (lY 2 1),gT 30 28 (mX 7),gT 31 28 (cF 63 [t1 29,t1 30]),o1 32 (pA 28 31),m1 33 32,gT 34 33 (lY 2 1),gT 35 33 (mX 7),gT 36
  33 (cF 64 [t1 34,.const (.slice .aA 0 []),t1 35]),o1 37 (pA 33 36)]) (cn 37 (sq (sq (rF [m1 38 8,m1 39 6,o1 40 (aX .gtr 38 39)]) (cn 40 (rF [m1 41 8,o1 5 (.move (.const (.slice .aA 0
  []))),m1 6 41]) .skip)) (rF [m1 42 5,m1 43 7,o1 44 (.buildSlice 1 [[.v (.int .i64 0)]] [(0,(t1 43))]),o1 45 (.append 1 (t1 42) (t1 44)),m1 5 45])) .skip))))) (rF [o1 46 (aK .add 19 1),m1 19
  46]))))
def VD:au:=(sq (rF [o1 1 (.box 2 (t1 0)),o1 2 (.move (.const (.slice .aA 0 []))),o1 3 (mI 0),o1 4 (mB false)]) (sq (rF [o1 5 (.move (.const (.slice .aA 0 [])))]) (sq (rF [o1 6 (mI
  (-1))]) (sq (sq (rF [fA 15 1 1,lF 16 1 15,o1 17 (nX 16),o1 18 (.arith .shl (i1 1) (t1 17)),o1 19 (mI 0)]) (.block 0 (.loop uS))) Ju))))
abbrev aqC:List K:=[.blk 4,.c D3,.blk 3,.lp Jt,.blk 2]
abbrev aqB:List K:=[.blk 2]
abbrev aqD:List K:=[.blk 0,.c Ju]
abbrev Qu:=aR [(.tmp 2),(.tmp 3),(.tmp 4)] false
def E6:aE:=.code 1 82 VD [(.tmp 2),(.tmp 3),(.tmp 4)] false
-- 30
def Ou:au:=(sq (rF [o1 2 (.move (.const (.slice .aA 0 [])))]) (sq (rF [o1 3 (.buildSlice 2 [] []),m1 4 0,o1 5 (.append 2 (t1 3) (t1 4)),m1 2 5]) .ret))
abbrev azP:=aR [(.tmp 2)] false
def E2:aE:=.code 1 6 Ou [(.tmp 2)] false
-- 31
def D0:au:=(sq (rF [o1 2 (.move (.const (.slice .aA 0 [])))]) (sq (rF [o1 3 (.buildSlice 1 [] []),m1 4 0,o1 5 (.append 1 (t1 3) (t1 4)),m1 2 5]) .ret))
abbrev azO:=aR [(.tmp 2)] true
def xf:aE:=.code 1 6 D0 [(.tmp 2)] true
-- 32
def EA:au:=(sq (rF [m1 55 6,m1 2 55,o1 3 (mI 0)]) .ret)
def Kh:au:=(rF [o1 54 (aK .add 26 1),m1 26 54])
def Pq:au:=(rF [o1 53 (aK .add 34 1),m1 34 53])
def Kg:au:=(sq (sq (rF [m1 40 11,fA 41 1 10,lF 42 1 41,o1 43 (aX .leq 40 42)]) (cn 43 .skip (.exit 4))) (sq (.block 5 (rF [m1 46 6,m1 47 7,m1 48 11,o1 49 (.nilCheck (t1 46)),fA
  50 3 49,o1 51 (.indexAddr (some 4) 200 (t1 50) (t1 47)),o1 52 (.indexAddr (some 200) 1 (t1 51) (t1 48)),⟨none,none,(.store 1 (t1 52) bT)⟩])) (rF [m1 44 11,o1 45 (aK .add 44 1),m1 11 45])))
def Ez:au:=(sq (rF [o1 35 (aX .lss 34 33)]) (sq (cn 35 .skip (.exit 2)) (sq (.block 3 (sq (rF [o1 36 (iX 2 32 34),lT 37 2 36,o1 10 (.alloc [.v (.int .i64 0),.v (.int .i64 0)]),sT 2
  10 37]) (sq (rF [fA 38 0 10,lF 39 1 38,m1 11 39]) (.block 4 (.loop Kg))))) Pq)))
def A5 : au := (sq (rF [o1 27 (aX .lss 26 25)]) (sq (cn 27 .skip (.exit 0)) (sq (.block 1 (sq (rF [m1 28 26, o1 29 (iX 3 24 26), lT 30 3 29, o1 8 (.alloc [.v (.string ⟨#[]⟩), .v (.int .i64
  0),.slice .aA 0 []]),m1 7 28,sT 3 8 30]) (sq (rF [fA 31 2 8,lF 32 1 31,o1 33 (nX 32),o1 34 (mI 0)]) (.block 2 (.loop Ez))))) Kh)))
def Pm:au:=(sq (rF [o1 1 (.box 3 (t1 0)),o1 2 (.move (.const (.v (.pointer none)))),o1 3 (mI 0)]) (sq (sq (rF [lT 13 3 1,o1 14 (cF 67 [t1 13]),m1 12 14,o1 15 (eX 0 12),o1 16 (eX 1
  12),o1 4 (.alloc [.v (.int .i64 0),.v (.int .i64 0)]),sT 2 4 15,m1 5 16]) (sq (rF [m1 17 5,o1 18 (aK .neq 17 0)]) (cn 18 (sq (rF [m1 19 5,o1 2 (.move (.const (.v (.pointer none)))),m1 3 19])
  .ret) .skip))) (sq (rF [lT 20 3 1,(o1 21 (.build ((.v (.int .i64 0))::(.slice .aA 0 [])::(.slice .aA 0 [])::td 800) [(0,(3,(t1 20)))])),o1 22 (.box 803 (t1 21)),m1 6 22]) (sq (sq
  (rF [fA 23 1 1,lF 24 1 23,o1 25 (nX 24),o1 26 (mI 0)]) (.block 0 (.loop A5))) EA))))
abbrev arx:List K:=[.blk 4,.blk 3,.c Pq,.lp Ez,.blk 2,.blk 1,.c Kh,.lp A5,.blk 0,.c EA]
abbrev arw:List K:=[.blk 2,.blk 1,.c Kh,.lp A5,.blk 0,.c EA]
abbrev arv:List K:=[.blk 0,.c EA]
abbrev Qw:=aR [(.tmp 2),(.tmp 3)] false
def Bo:aE:=.code 1 56 Pm [(.tmp 2),(.tmp 3)] false
-- 33
def PX:au:=(rF [m1 4 0,m1 5 0,o1 6 (nX 5),m1 7 1,o1 8 (cF 68 [t1 4,t1 6,t1 7])])
abbrev aAJ:=aR [] false
def BA:aE:=.code 2 9 PX [] false
-- 34
def V0:au:=(sq (rF [o1 5 (mI 0)]) (sq (rT [fA 6 2 2,lF 7 1 6,m1 8 1,o1 9 (iX 7 7 8),fA 10 4 9,lF 11 1 10,fA 12 2 2,lF 13 1 12,m1 14 0,o1 15 (iX 7 13 14),fA 16 4 15,lF 17 1
  16,o1 18 (aX .sub 11 17),m1 5 18]) .ret))
abbrev az6:=aR [(.tmp 5)] false
def FE:aE:=.code 3 19 V0 [(.tmp 5)] false
-- 35
def Ba:au:=(sq (rF [lF 22 1 7,m1 6 22]) .ret)
def nw:au:=(.block 1 (sq (rF [lF 13 1 3,lT 14 3 8,lF 15 1 4,o1 16 (cF 69 [t1 13,t1 14,t1 15]),o1 17 (uX 16)]) (cn 17 (rF [lF 18 1 7,lT 19 3 8,o1 20 (.buildSlice 3 [[.v
  (.int .i64 0),.v (.int .i64 0),.slice .aA 0 []]] [(0,(t1 19))]),o1 21 (.append 3 (t1 18) (t1 20)),sT 1 7 21]) .skip)))
def nu:au:=(rF [o1 8 (.alloc [.v (.int .i64 0),.v (.int .i64 0),.slice .aA 0 []]),sT 3 8 12])
def PE:au:=(sq (rF [o1 3 (.box 1 (t1 0)),o1 4 (.box 1 (t1 1)),o1 6 (.move (.const (.slice .aA 0 [])))]) (sq (rF [o1 7 (.alloc [.slice .aA 0 []])]) (sq (sq (rF [lF 9 1 3,m1 10
  2,o1 11 (cF 41 [t1 9,t1 10])]) (.block 0 (.rangeFunc (t1 11) [12] nu nw))) Ba)))
abbrev aBG:List K:=[.blk 0,.c Ba]
abbrev Yc:=aR [(.tmp 6)] false
def Bt:aE:=.code 3 23 PE [(.tmp 6)] false
-- 36
def PW:au:=(sq (rF [m1 5 0,o1 6 (nX 5),m1 4 6]) (rF [m1 7 0,m1 8 4,m1 9 4,o1 10 (.conv (.int .u64) (t1 9)),o1 11 (cF 71 [t1 10]),m1 12 1,o1 13 (cF 70 [t1 7,i1 0,
  t1 8,t1 11,t1 12])]))
abbrev aAI:=aR [] false
def Bz:aE:=.code 2 14 PW [] false
-- 37
def V4:au:=(sq (rF [o1 2 (.box 3 (t1 0)),o1 3 (.box 3 (t1 1)),o1 4 (mI 0)]) (sq (sq (rF [fA 5 0 2,lF 6 1 5,fA 7 0 3,lF 8 1 7,o1 9 (aX .neq 6 8)]) (cn 9 (sq (rF [fA 10 0 2,lF 11
  1 10,fA 12 0 3,lF 13 1 12,o1 14 (aX .sub 11 13),m1 4 14]) .ret) .skip)) (sq (sq (rF [fA 15 1 2,lF 16 1 15,fA 17 1 3,lF 18 1 17,o1 19 (aX .neq 16 18)]) (cn 19 (sq (rF [fA 20 1 2,lF 21 1 20,
  fA 22 1 3,lF 23 1 22,o1 24 (aX .sub 21 23),m1 4 24]) .ret) .skip)) (sq (rF [fA 25 2 2,lF 26 1 25,fA 27 2 3,lF 28 1 27,o1 29 (cF 72 [t1 26,t1 28]),m1 4 29]) .ret))))
abbrev az8:=aR [(.tmp 4)] false
def FI:aE:=.code 2 30 V4 [(.tmp 4)] false
-- 38
def VY:au:=(sq (rF [o1 3 (mB false)]) (sq (rF [m1 4 0,o1 5 (nX 4),fA 6 0 1,lF 7 1 6,o1 8 (aX .neq 5 7),m1 3 8]) .ret))
abbrev az5:=aR [(.tmp 3)] false
def FC:aE:=.code 2 9 VY [(.tmp 3)] false
-- 39
def WH:au:=(sq (rF [o1 4 (mB false)]) (sq (rF [m1 5 0,m1 6 1,o1 7 (cF 73 [t1 5,t1 6]),o1 8 (aK .geq 7 0),m1 4 8]) .ret))
abbrev aAF:=aR [(.tmp 4)] false
def Gn:aE:=.code 2 9 WH [(.tmp 4)] false
-- 40
def Wh:au:=(sq (rF [o1 6 (mB false)]) (sq (rF [m1 7 1,m1 8 0,o1 9 (aX .leq 7 8),m1 10 9,gT 11 10 (mX 0),gT 12 10 (mX 2),gT 13 10 (aX .leq 11 12),o1 14 (pA 10 13),m1 6 14])
  .ret))
abbrev aAl:=aR [(.tmp 6)] false
def FY:aE:=.code 3 15 Wh [(.tmp 6)] false
-- 41
def Wy:au:=(sq (rF [o1 2 (.box 1 (t1 0)),o1 3 (.box 1 (t1 1)),o1 4 (.move (.const (.v .nilFunc)))]) (sq (rF [o1 5 (.mC 74 [] [t1 2,t1 3]),m1 4 5]) .ret))
abbrev aAw:=aR [(.tmp 4)] false
def Ge:aE:=.code 2 6 Wy [(.tmp 4)] false
-- 42
def Wt:au:=(sq (rF [o1 3 (.box 3 (t1 1)),o1 4 (mI 0)]) (sq (rT [fA 5 1 3,lF 6 1 5,m1 7 0,o1 8 (.nilCheck (t1 7)),fA 9 0 8,fA 10 2 9,lF 11 1 10,fA 12 0 3,lF 13 1 12,o1 14 (iX 7 11
  13),fA 15 3 14,lF 16 1 15,o1 17 (aX .add 6 16),m1 4 17]) .ret))
abbrev aAu:=aR [(.tmp 4)] false
def F8:aE:=.code 2 18 Wt [(.tmp 4)] false
-- 43
def PC:au:=(sq (rF [m1 27 5,m1 4 27]) .ret)
def EM:au:=(sq (rF [o1 13 (aX .lss 12 11)]) (sq (cn 13 .skip (.exit 0)) (sq (.block 1 (sq (rF [m1 14 12,m1 6 14]) (sq (rF [m1 15 0,m1 16 1,m1 17 6,o1 18 (.nilCheck (t1 15)),
  fA 19 3 18,o1 20 (.indexAddr (some 4) 200 (t1 19) (t1 16)),o1 21 (.indexAddr (some 200) 1 (t1 20) (t1 17)),lF 22 1 21,o1 23 (uX 22)]) (cn 23 (rF [m1 24 5,o1 25 (aK .add 24 1),m1 5 25])
  .skip)))) (rF [o1 26 (aK .add 12 1),m1 12 26]))))
def Wx:au:=(sq (rF [o1 4 (mI 0)]) (sq (rF [o1 5 (mI 0)]) (sq (sq (rF [m1 7 0,o1 8 (.nilCheck (t1 7)),fA 9 0 8,fA 10 0 9,lF 11 1 10,o1 12 (mI 0)]) (.block 0 (.loop
  EM))) PC)))
abbrev arL:List K:=[.blk 0,.c PC]
abbrev ajj:=aR [(.tmp 4)] false
def Gc:aE:=.code 2 28 Wx [(.tmp 4)] false
-- 44
def Pc:au:=(sq (rF [m1 31 5,m1 4 31]) .ret)
def J9 : au := (sq (rF [o1 14 (aX .lss 13 12)]) (sq (cn 14 .skip (.exit 0)) (sq (.block 1 (sq (rF [o1 15 (iX 7 11 13), lT 16 7 15, o1 7 (.alloc [.v (.string ⟨#[]⟩), .v (.int
  .i64 0),.v (.int .i64 0),.v (.int .i64 0),.v (.int .i64 0),.slice .aA 0 [],.v (.int .i64 0)]),sT 7 7 16]) (rF [m1 17 5,fA 18 4 7,lF 19 1 18,m1 20 0,fA 21 3 7,lF 22 1 21,o1 23 (aX .mul
  20 22),fA 24 6 7,lF 25 1 24,o1 26 (aX .mul 23 25),o1 27 (aX .sub 19 26),o1 28 (.zQ true [i1 0,t1 27]),o1 29 (aX .add 17 28),m1 5 29]))) (rF [o1 30 (aK .add 13 1),m1 13 30]))))
def V1:au:=(sq (rF [o1 4 (mI 0)]) (sq (rF [m1 8 0,lF 9 1 1,o1 10 (aX .mul 8 9),m1 5 10]) (sq (sq (rF [lF 11 1 2,o1 12 (nX 11),o1 13 (mI 0)]) (.block 0 (.loop
  J9))) Pc)))
abbrev arn:List K:=[.blk 0,.c Pc]
abbrev ajc:=aR [(.tmp 4)] false
def FF:aE:=.code 3 32 V1 [(.tmp 4)] false
-- 45
def PV:au:=(sq (rF [m1 47 7,m1 4 47]) .ret)
def Ky:au:=(sq (sq (rF [m1 34 8,m1 35 7,o1 36 (nX 35),o1 37 (aX .lss 34 36)]) (cn 37 .skip (.exit 0))) (.block 1 (rT [m1 38 8,m1 39 7,m1 40 8,o1 41 (.slice (.sl 1) (t1 39)
  (some (t1 40)) none none),m1 42 7,m1 43 8,o1 44 (.slice (.sl 1) (t1 42) none (some (t1 43)) none),o1 45 (.copy (t1 41) (t1 44)),o1 46 (aX .add 38 45),m1 8 46])))
def WQ : au := (sq (rF [o1 4 (.move (.const (.slice .aA 0 [])))]) (sq (sq (rF [m1 9 1, o1 10 (aK .lss 9 0)]) (cn 10 (rF [o1 11 (.C0 9 (.const (.v (.string ⟨#[99, 97, 110, 110,
  111,116,32,98,101,32,110,101,103,97,116,105,118,101]⟩)))),⟨none,none,(.nilCheck (.const (.v (.tuple (.mk [])))))⟩]) .skip)) (sq (rF [m1 13 0,o1 14 (nX 13),o1 15 (.conv (.int .u64)
  (t1 14)),m1 16 1,o1 17 (.conv (.int .u64) (t1 16)),o1 18 (cF 77 [t1 15,t1 17]),m1 12 18,o1 19 (eX 0 12),o1 20 (eX 1 12),m1 5 19,m1 6 20]) (sq (sq (rF [m1 21 5,o1 22 (.arith .gtr (t1 21)
  (.const (.v (.int .u64 0)))),m1 23 22,gF 24 23 (mX 6),gF 25 23 (.arith .gtr (t1 24) (.const (.v (.int .u64 9223372036854775807)))),o1 26 (pB 23 25)]) (cn 26 (rF [o1 27 (.C0 9 (.const (.v
  (.string ⟨#[116, 104, 101, 32, 114, 101, 115, 117, 108, 116, 32, 111, 102, 32, 40, 108, 101, 110, 40, 120, 41, 32, 42, 32, 99, 111, 117, 110, 116, 41, 32, 111, 118, 101, 114, 102, 108, 111, 119,
  115]⟩)))),⟨none,none,(.nilCheck (.const (.v (.tuple (.mk [])))))⟩]) .skip)) (sq (rF [m1 28 6,o1 29 (.conv (.int .i64) (t1 28)),o1 30 (.mkSlice 1 [.v (.int .i64 0)] (t1 29) (t1 29)),m1 7 30])
  (sq (rF [m1 31 7,m1 32 0,o1 33 (.copy (t1 31) (t1 32)),m1 8 33]) (sq (.block 0 (.loop Ky)) PV)))))))
abbrev arU:List K:=[.blk 0,.c PV]
abbrev ajq:=aR [(.tmp 4)] false
def Gv:aE:=.code 2 48 WQ [(.tmp 4)] false
-- 46
def OD:au:=(sq (rF [o1 4 (mI 0),o1 5 (mI 0)]) .ret)
def D5:au:=(sq (sq (rF [m1 8 6,m1 9 1,o1 10 (nX 9),o1 11 (aX .lss 8 10)]) (cn 11 .skip (.exit 0))) (sq (.block 1 (sq (rF [lT 14 3 2,m1 15 1,m1 16 6,o1 17 (cF 78 [t1 14,t1
  15,t1 16]),m1 7 17]) (sq (rF [m1 18 7,o1 19 (aK .neq 18 0)]) (cn 19 (sq (rF [m1 20 6,m1 21 7,m1 4 20,m1 5 21]) .ret) .skip)))) (rF [m1 12 6,o1 13 (aK .add 12 1),m1 6 13])))
def VN:au:=(sq (rF [o1 2 (.box 3 (t1 0)),o1 4 (mI 0),o1 5 (mI 0)]) (sq (sq (rF [o1 6 (mI 0)]) (.block 0 (.loop D5))) OD))
abbrev aqM:List K:=[.blk 0,.c OD]
abbrev ai2:=aR [(.tmp 4),(.tmp 5)] false
def Fi:aE:=.code 2 22 VN [(.tmp 4),(.tmp 5)] false
-- 47
def Wi:au:=(sq (rF [o1 4 (.move (.const (.v .nilFunc)))]) (sq (rF [m1 5 0,m1 6 1,o1 7 (.ve 79 [t1 5,t1 6,i1 0]),m1 4 7]) .ret))
abbrev aAm:=aR [(.tmp 4)] false
def FZ:aE:=.code 2 8 Wi [(.tmp 4)] false
-- 50
def A4:au:=(sq (rF [o1 2 (mI 0),o1 3 (mB false)]) (sq (rF [m1 7 0,o1 8 (cF 82 [t1 7]),m1 6 8,o1 9 (eX 0 6),o1 10 (eX 1 6),m1 4 9,m1 5 10]) (sq (rF [m1 11 4,m1 12 5,o1 13 (.eqv
  false .iface (t1 12) (.const (.v .nilIface))),m1 14 13,gT 15 14 (mX 4),gT 16 14 (aK .geq 15 0),o1 17 (pA 14 16),m1 18 17,gT 19 18 (mX 4),gT 20 18 (cF 52 [t1 19]),gT 21 18 (mX 0),gT 22 18
  (aX .eql 20 21),o1 23 (pA 18 22),m1 24 23,gT 25 24 (mX 0),gT 26 24 (.len true (t1 25)),gT 27 24 (aK .leq 26 4),o1 28 (pA 24 27),m1 2 11,m1 3 28]) .ret)))
abbrev aAb:=aR [(.tmp 2),(.tmp 3)] false
def yT:aE:=.code 1 29 A4 [(.tmp 2),(.tmp 3)] false
-- 51
def PL:au:=(sq (rF [o1 4 (mB false)]) (sq (rF [m1 5 0,m1 6 1,o1 7 (cF 83 [t1 5,t1 6]),o1 8 (aK .geq 7 0),m1 4 8]) .ret))
abbrev aAG:=aR [(.tmp 4)] false
def Bw:aE:=.code 2 9 PL [(.tmp 4)] false
-- 54
def JP:au:=(sq (rF [o1 2 (.box 3 (t1 0)),o1 3 (.box 3 (t1 1)),o1 4 (mI 0)]) (sq (rF [fA 7 0 2,lF 8 1 7,fA 9 1 2,lF 10 1 9,o1 11 (.buildSlice 1 [[.v (.int .i64 0)],[.v (.int .i64
  0)]] [(0,(t1 8)),(1,(t1 10))]),fA 12 2 2,lF 13 1 12,o1 14 (.append 1 (t1 11) (t1 13)),m1 5 14]) (sq (rF [fA 15 0 3,lF 16 1 15,fA 17 1 3,lF 18 1 17,o1 19 (.buildSlice 1 [[.v (.int .i64
  0)],[.v (.int .i64 0)]] [(0,(t1 16)),(1,(t1 18))]),fA 20 2 3,lF 21 1 20,o1 22 (.append 1 (t1 19) (t1 21)),m1 6 22]) (sq (sq (rF [m1 23 5,m1 24 6,o1 25 (cF 88 [t1 23,t1 24])]) (cn 25 (sq
  (rF [o1 4 (mI (-1))]) .ret) .skip)) (sq (sq (rF [m1 26 6,m1 27 5,o1 28 (cF 88 [t1 26,t1 27])]) (cn 28 (sq (rF [o1 4 (mI 1)]) .ret) .skip)) (sq (rF [o1 4 (mI 0)]) .ret))))))
abbrev az2:=aR [(.tmp 4)] false
def Fw:aE:=.code 2 29 JP [(.tmp 4)] false
-- 55
def Pn:au:=(sq (rF [o1 3 (.box 3 (t1 0)),o1 6 (.move (.const (.v (.pointer none)))),o1 7 (mI 0)]) (sq (rF [lT 12 3 3,m1 13 1,o1 14 (cF 89 [t1 12,t1 13]),m1 11 14,o1 15 (eX 0
  11),o1 16 (eX 1 11),o1 17 (eX 2 11),m1 8 15,m1 9 16,m1 10 17]) (sq (sq (rF [m1 18 10,o1 19 (aK .neq 18 0)]) (cn 19 (sq (rF [m1 20 10,o1 6 (.move (.const (.v (.pointer none)))),m1 7 20])
  .ret) .skip)) (sq (rF [m1 21 8,m1 22 8,m1 23 2,o1 24 (cF 90 [t1 22,t1 23]),m1 6 21,m1 7 24]) .ret))))
abbrev aAc:=aR [(.tmp 6),(.tmp 7)] false
def Bp:aE:=.code 3 25 Pn [(.tmp 6),(.tmp 7)] false
-- 56
def Kp:au:=(sq (rT [m1 38 9,lT 39 200 8,m1 6 38,sT 200 7 39]) .ret)
def Kq:au:=(rF [o1 37 (aK .add 15 1),m1 15 37])
def Ko:au:=(sq (sq (rF [m1 26 12,m1 27 0,lT 28 3 11,o1 29 (cF 42 [t1 27,t1 28]),o1 30 (aX .lss 26 29)]) (cn 30 .skip (.exit 2))) (sq (.block 3 (sq (rF [m1 33 12,o1 34
  (.indexAddr (some 200) 1 (t1 8) (t1 33)),⟨none,none,(.store 1 (t1 34) bT)⟩]) (rF [m1 35 9,o1 36 (aK .add 35 1),m1 9 36]))) (rF [m1 31 12,o1 32 (aK .add 31 1),m1 12 32])))
def A9:au:=(sq (rF [o1 16 (aX .lss 15 14)]) (sq (cn 16 .skip (.exit 0)) (sq (.block 1 (sq (rF [o1 17 (iX 3 13 15),lT 18 3 17,o1 11 (.alloc [.v (.int .i64 0),.v (.int .i64 0),
  .slice .aA 0 []]),sT 3 11 18]) (sq (sq (rF [fA 19 2 11,lF 20 1 19,m1 21 2,o1 22 (cF 65 [t1 20,t1 21]),o1 23 (uX 22)]) (cn 23 (.exit 1) .skip)) (sq (rF [fA 24 1 11,lF 25 1 24,m1 12 25])
  (.block 2 (.loop Ko)))))) Kq)))
def Ww:au:=(sq (rF [o1 6 (mI 0),o1 7 (.alloc (td 200))]) (sq (rF [o1 8 (.alloc (td 200))]) (sq (rF [o1 9 (mI 0)]) (sq (sq (rF [m1 13 1,o1 14 (nX 13),o1 15 (mI 0)]) (.block 0
  (.loop A9))) Kp))))
abbrev arK:List K:=[.blk 2,.blk 1,.c Kq,.lp A9,.blk 0,.c Kp]
abbrev arJ:List K:=[.blk 0,.c Kp]
abbrev Ya:=aR [(.tmp 6),(.cell true 200 7)] false
def Gb:aE:=.code 3 40 Ww [(.tmp 6),(.cell true 200 7)] false
-- 57
def JI:au:=(sq (rF [m1 56 7,m1 4 56]) .ret)
def OL:au:=(rF [m1 33 8,o1 34 (aK .add 33 1),m1 8 34])
def Eb:au:=(sq (sq (rF [m1 35 9,m1 36 6,o1 37 (nX 36),o1 38 (aX .lss 35 37)]) (cn 38 .skip (.exit 2))) (sq (.block 3 (sq (rF [m1 41 1,m1 42 8,m1 43 6,m1 44 9,o1 45 (iX 1 43
  44),lF 46 1 45,o1 47 (.build [.v (.int .i64 0),.v (.int .i64 0),.slice .aA 0 []] [(0,(1,(t1 41))),(1,(1,(t1 42))),(2,(1,(t1 46)))]),o1 10 (.alloc [.v (.int .i64 0),.v (.int .i64 0),
  .slice .aA 0 []]),sT 3 10 47]) (sq (rF [lT 48 3 2,lT 49 3 10,o1 50 (cF 92 [t1 48,t1 49]),o1 51 (uX 50)]) (cn 51 (rF [m1 52 7,lT 53 3 10,o1 54 (.buildSlice 3 [[.v (.int .i64 0),.v (.int
  .i64 0),.slice .aA 0 []]] [(0,(t1 53))]),o1 55 (.append 3 (t1 52) (t1 54)),m1 7 55]) .skip)))) (rF [m1 39 9,o1 40 (aK .add 39 1),m1 9 40])))
def Ea:au:=(sq (sq (rF [m1 24 8,fA 25 1 5,fA 26 1 25,lF 27 1 26,fA 28 3 5,lF 29 1 28,o1 30 (aX .sub 27 29),o1 31 (aK .add 30 1),o1 32 (aX .leq 24 31)]) (cn 32 .skip (.exit
  0))) (sq (.block 1 (sq (rF [o1 9 (mI 0)]) (.block 2 (.loop Eb)))) OL))
def VR:au:=(sq (rF [o1 2 (.box 3 (t1 0)),o1 4 (.move (.const (.slice .aA 0 [])))]) (sq (rF [fA 11 2 2,lF 12 1 11,m1 13 1,o1 14 (iX 7 12 13),lT 15 7 14,o1 5 (.alloc [.v
  (.string ⟨#[]⟩), .v (.int .i64 0), .v (.int .i64 0), .v (.int .i64 0), .v (.int .i64 0), .slice .aA 0 [], .v (.int .i64 0)]), sT 7 5 15]) (sq (rF [fA 16 5 5, lF 17 1 16, fA 18 6 5, lF 19 1 18, o1
  20 (cF 91 [t1 17,t1 19]),m1 6 20]) (sq (rF [o1 7 (.move (.const (.slice .aA 0 [])))]) (sq (sq (rF [fA 21 1 5,fA 22 0 21,lF 23 1 22,m1 8 23]) (.block 0 (.loop Ea)))
  JI)))))
abbrev aqU:List K:=[.blk 2,.blk 1,.c OL,.lp Ea,.blk 0,.c JI]
abbrev aqT:List K:=[.blk 0,.c JI]
abbrev X1:=aR [(.tmp 4)] false
def Fp:aE:=.code 2 57 VR [(.tmp 4)] false
-- 58
def OE:au:=(sq (rF [o1 58 (.build [.v (.int .i64 0),.v (.int .i64 0)] []),sT 2 2 58,o1 3 (mI 0)]) .ret)
def D7:au:=(sq (sq (rF [m1 39 6,fA 40 2 1,lF 41 1 40,o1 42 (nX 41),o1 43 (aX .lss 39 42)]) (cn 43 .skip (.exit 2))) (sq (.block 3 (sq (rT [lT 46 3 1,fA 47 2 1,lF 48 1 47,m1
  49 6,o1 50 (iX 7 48 49),lT 51 7 50,o1 52 (cF 94 [t1 46,t1 51]),m1 7 52]) (sq (rF [m1 53 7,o1 54 (aK .neq 53 0)]) (cn 54 (sq (rF [m1 55 6,o1 56 (.build [.v (.int .i64 0),.v (.int .i64 0)]
  [(0,(1,(i1 2))),(1,(1,(t1 55)))]),m1 57 7,sT 2 2 56,m1 3 57]) .ret) .skip)))) (rF [m1 44 6,o1 45 (aK .add 44 1),m1 6 45])))
def OF:au:=(sq (sq (rF [o1 6 (mI 0)]) (.block 2 (.loop D7))) OE)
def D8:au:=(sq (sq (rF [m1 24 4,fA 25 1 1,lF 26 1 25,o1 27 (nX 26),o1 28 (aX .lss 24 27)]) (cn 28 .skip (.exit 0))) (sq (.block 1 (sq (rF [lT 31 3 1,m1 32 4,o1 33 (cF 93 [t1
  31,t1 32]),m1 5 33]) (sq (rF [m1 34 5,o1 35 (aK .neq 34 0)]) (cn 35 (sq (rF [m1 36 4,o1 37 (.build [.v (.int .i64 0),.v (.int .i64 0)] [(0,(1,(i1 1))),(1,(1,(t1 36)))]),m1 38 5,sT 2 2
  37,m1 3 38]) .ret) .skip)))) (rF [m1 29 4,o1 30 (aK .add 29 1),m1 4 30])))
def D6:au:=(sq (rF [o1 1 (.box 3 (t1 0)),o1 2 (.alloc [.v (.int .i64 0),.v (.int .i64 0)]),o1 3 (mI 0)]) (sq (sq (rF [fA 8 0 1,lF 9 1 8,o1 10 (cF 21 [t1 9,i1 1,i1 200]),o1 11
  (uX 10)]) (cn 11 (sq (rF [o1 12 (.build [.v (.int .i64 0),.v (.int .i64 0)] []),sT 2 2 12,o1 3 (mI 2)]) .ret) .skip)) (sq (sq (rF [fA 13 1 1,lF 14 1 13,o1 15 (nX 14),o1 16 (aK .gtr 15 4),m1
  17 16,gF 18 17 (fX 2 1),gF 19 17 (lX 1 18),gF 20 17 (nX 19),gF 21 17 (aK .gtr 20 12),o1 22 (pB 17 21)]) (cn 22 (sq (rF [o1 23 (.build [.v (.int .i64 0),.v (.int .i64 0)] []),sT 2 2 23,o1 3
  (mI 8)]) .ret) .skip)) (sq (sq (rF [o1 4 (mI 0)]) (.block 0 (.loop D8))) OF))))
abbrev aqN:List K:=[.blk 2,.c OE]
abbrev aqO:List K:=[.blk 0,.c OF]
abbrev XZ:=aR [(.cell true 2 2),(.tmp 3)] false
def Fj:aE:=.code 1 59 D6 [(.cell true 2 2),(.tmp 3)] false
-- 59
def Wa:au:=(sq (rF [o1 1 (.box 7 (t1 0)),o1 2 (mB false)]) (sq (rF [fA 3 1 1,fA 4 1 3,lF 5 1 4,fA 6 1 1,fA 7 0 6,lF 8 1 7,o1 9 (aX .sub 5 8),o1 10 (aK .add 9 2),fA 11 3 1,
  lF 12 1 11,o1 13 (aX .sub 10 12),o1 14 (aK .gtr 13 8),m1 2 14]) .ret))
abbrev aAf:=aR [(.tmp 2)] false
def FP:aE:=.code 1 15 Wa [(.tmp 2)] false
-- 60
def WE:au:=(sq (rF [o1 4 (mB false)]) (sq (rF [m1 5 0,m1 6 1,o1 7 (cF 95 [t1 5,t1 6]),o1 8 (aK .geq 7 0),m1 4 8]) .ret))
abbrev aAD:=aR [(.tmp 4)] false
def Gk:aE:=.code 2 9 WE [(.tmp 4)] false
-- 61
def Wg:au:=(sq (rF [o1 4 (mI 0)]) (sq (sq (rF [m1 5 0]) (cn 5 (sq (rF [o1 4 (mI 0)]) .ret) .skip)) (sq (rF [m1 6 1,m1 4 6]) .ret)))
abbrev aAk:=aR [(.tmp 4)] false
def FX:aE:=.code 2 7 Wg [(.tmp 4)] false
-- 62
def OA:au:=(sq (rF [m1 28 5,m1 4 28]) .ret)
def JB:au:=(sq (rF [o1 12 (aX .lss 11 10)]) (sq (cn 12 .skip (.exit 0)) (sq (.block 1 (sq (rF [o1 13 (iX 1 9 11),lF 14 1 13,m1 7 14]) (rF [m1 15 5,fA 16 0 2,lF 17 1 16,o1 18
  (.nilCheck (t1 17)),fA 19 0 18,fA 20 2 19,lF 21 1 20,m1 22 7,o1 23 (iX 7 21 22),fA 24 4 23,lF 25 1 24,o1 26 (aX .add 15 25),m1 5 26]))) (rF [o1 27 (aK .add 11 1),m1 11 27]))))
def VG:au:=(sq (rF [o1 2 (.box 2 (t1 0)),o1 4 (mI 0)]) (sq (rF [o1 5 (mI 0)]) (sq (sq (rF [m1 8 1,o1 9 (cF 96 [t1 8]),o1 10 (nX 9),o1 11 (mI 0)]) (.block 0 (.loop JB)))
  OA)))
abbrev aqJ:List K:=[.blk 0,.c OA]
abbrev ai1:=aR [(.tmp 4)] false
def Fa:aE:=.code 2 29 VG [(.tmp 4)] false
-- 63
def Oy:au:=(sq (rF [o1 4 (mB true)]) .ret)
def Jy:au:=(sq (rF [o1 11 (aX .lss 10 9)]) (sq (cn 11 .skip (.exit 0)) (sq (.block 1 (sq (rF [m1 12 10,o1 13 (iX 2 8 10),lT 14 2 13,o1 6 (.alloc [.slice .aA 0 [],.v (.bool
  false)]),m1 5 12,sT 2 6 14]) (sq (rF [fA 15 1 6,lF 16 1 15,o1 17 (uX 16),m1 18 17,gT 19 18 (mX 1),gT 20 18 (mX 5),gT 21 18 (aX .shr 19 20),gT 22 18 (aK .and 21 1),gT 23 18 (aK .eql 22 0),
  o1 24 (pA 18 23)]) (cn 24 (sq (rF [o1 4 (mB false)]) .ret) .skip)))) (rF [o1 25 (aK .add 10 1),m1 10 25]))))
def VF:au:=(sq (rF [o1 2 (.box 2 (t1 0)),o1 4 (mB false)]) (sq (sq (rF [fA 7 1 2,lF 8 1 7,o1 9 (nX 8),o1 10 (mI 0)]) (.block 0 (.loop Jy))) Oy))
abbrev aqG:List K:=[.blk 0,.c Oy]
abbrev ai0:=aR [(.tmp 4)] false
def E8:aE:=.code 2 26 VF [(.tmp 4)] false
-- 64
def Jw:au:=(sq (rF [fA 52 0 3,lF 53 1 52,m1 54 7,o1 55 (cF 99 [t1 53,t1 54]),m1 6 55]) .ret)
def Jx:au:=(rF [o1 51 (aK .add 18 1),m1 18 51])
def Ox:au:=(rF [m1 47 7,m1 48 12,o1 49 (.buildSlice 1 [[.slice .aA 0 []]] [(0,(t1 48))]),o1 50 (.append 1 (t1 47) (t1 49)),m1 7 50])
def Jv:au:=(sq (rF [o1 38 (aX .lss 37 36)]) (sq (cn 38 .skip (.exit 2)) (sq (.block 3 (sq (rF [o1 39 (iX 3 35 37),lT 40 3 39,o1 14 (.alloc [.v (.int .i64 0),.v (.int .i64 0),.slice
  .aA 0 []]),sT 3 14 40]) (rF [fA 41 0 3,lF 42 1 41,m1 43 12,lT 44 3 14,o1 45 (cF 98 [t1 42,t1 43,t1 44]),m1 12 45]))) (rF [o1 46 (aK .add 37 1),m1 37 46]))))
def AS:au:=(sq (rF [o1 19 (aX .lss 18 17)]) (sq (cn 19 .skip (.exit 0)) (sq (.block 1 (sq (rF [o1 20 (iX 1 16 18),lF 21 1 20,m1 9 21]) (sq (sq (rF [m1 23 1,m1 24 9,o1 25 (cF 97 [t1
  23,t1 24]),m1 22 25,o1 26 (eX 0 22),o1 27 (eX 1 22),o1 10 (.alloc [.v (.int .i64 0),.v (.int .i64 0),.slice .aA 0 []]),sT 3 10 26,m1 11 27]) (sq (rF [m1 28 11]) (cn 28 (.exit 1) .skip)))
  (sq (rF [fA 29 1 3,lF 30 1 29,m1 31 9,o1 32 (iX 2 30 31),fA 33 0 32,lF 34 1 33,m1 12 34]) (sq (sq (rF [m1 35 1,o1 36 (nX 35),o1 37 (mI 0)]) (.block 2 (.loop Jv))) Ox)))))
  Jx)))
def VE:au:=(sq (rF [o1 3 (.box 2 (t1 0)),o1 6 (mB false)]) (sq (rF [o1 7 (.move (.const (.slice .aA 0 [])))]) (sq (sq (rF [m1 15 2,o1 16 (cF 96 [t1 15]),o1 17 (nX 16),o1 18 (mI 0)])
  (.block 0 (.loop AS))) Jw)))
abbrev aqF:List K:=[.blk 2,.c Ox,.blk 1,.c Jx,.lp AS,.blk 0,.c Jw]
abbrev aqE:List K:=[.blk 0,.c Jw]
abbrev XX:=aR [(.tmp 6)] false
def E7:aE:=.code 3 56 VE [(.tmp 6)] false
-- 65
def WI:au:=(sq (rF [o1 4 (mB false)]) (sq (rF [m1 5 0,m1 6 1,o1 7 (cF 100 [t1 5,t1 6]),o1 8 (aK .geq 7 0),m1 4 8]) .ret))
abbrev aAH:=aR [(.tmp 4)] false
def Gp:aE:=.code 2 9 WI [(.tmp 4)] false
-- 66
def D4:au:=(sq (rF [o1 84 (.build [.v (.int .i64 0),.v (.int .i64 0),.slice .aA 0 []] []),sT 3 8 84,o1 9 (mB false)]) .ret)
def Jz:au:=(rF [m1 35 12,o1 36 (aK .add 35 1),m1 12 36])
def JA:au:=(rF [o1 83 (aK .add 44 1),m1 44 83])
def AU:au:=(sq (rF [o1 61 (aX .lss 60 59)]) (sq (cn 61 .skip (.exit 4)) (sq (.block 5 (sq (rF [o1 62 (iX 1 58 60),lF 63 1 62,m1 17 63]) (sq (rT [m1 64 17,m1 65 12,o1 66 (aK .add 65
  1),o1 67 (.arith .shl (i1 1) (t1 66)),o1 68 (aK .sub 67 1),o1 69 (aX .and 64 68),m1 70 2,m1 71 12,o1 72 (.arith .shl (i1 1) (t1 71)),o1 73 (aX .or 70 72),o1 74 (aX .eql 69 73),m1 75 74,gT
  76 75 (lY 2 4),gT 77 75 (mX 15),gT 78 75 (mX 17),gT 79 75 (cF 64 [t1 76,t1 77,t1 78]),o1 80 (pA 75 79)]) (cn 80 (sq (rF [lT 81 3 14,sT 3 8 81,o1 9 (mB true)]) .ret) .skip)))) (rF [o1 82 (aK
  .add 60 1),m1 60 82]))))
def AT:au:=(sq (rF [o1 45 (aX .lss 44 43)]) (sq (cn 45 .skip (.exit 2)) (sq (.block 3 (sq (rF [o1 46 (iX 3 42 44),lT 47 3 46,o1 14 (.alloc [.v (.int .i64 0),.v (.int .i64 0),.slice
  .aA 0 []]),sT 3 14 47]) (sq (sq (rF [fA 48 0 4,lF 49 1 48,lT 50 3 14,m1 51 1,o1 52 (cF 69 [t1 49,t1 50,t1 51])]) (cn 52 (.exit 3) .skip)) (sq (rT [m1 53 1,o1 54 (.tK 101 [t1 53]),lT 55
  3 14,o1 56 (.buildSlice 3 [[.v (.int .i64 0),.v (.int .i64 0),.slice .aA 0 []]] [(0,(t1 55))]),o1 57 (.append 3 (t1 54) (t1 56)),m1 15 57]) (sq (rF [m1 58 3,o1 59 (nX 58),o1 60 (mI 0)])
  (.block 4 (.loop AU))))))) JA)))
def uT:au:=(sq (sq (rF [m1 30 12,fA 31 1 4,lF 32 1 31,o1 33 (nX 32),o1 34 (aX .lss 30 33)]) (cn 34 .skip (.exit 0))) (sq (.block 1 (sq (rF [fA 37 1 4,lF 38 1 37,m1 39 12,o1 40
  (iX 2 38 39),fA 41 0 40,lF 42 1 41,o1 43 (nX 42),o1 44 (mI 0)]) (.block 2 (.loop AT)))) Jz))
def Oz:au:=(sq (rF [o1 4 (.box 2 (t1 0)),o1 8 (.alloc [.v (.int .i64 0),.v (.int .i64 0),.slice .aA 0 []]),o1 9 (mB false)]) (sq (rF [o1 10 (mI 0)]) (sq (sq (rF [m1 18 1,o1 19 (nX
  18),m1 11 19]) (sq (rF [m1 20 11,o1 21 (aK .gtr 20 0)]) (cn 21 (rF [m1 22 1,m1 23 11,o1 24 (aK .sub 23 1),o1 25 (iX 3 22 24),fA 26 0 25,lF 27 1 26,o1 28 (aK .add 27 1),m1 10 28]) .skip)))
  (sq (sq (rF [m1 29 10,m1 12 29]) (.block 0 (.loop uT))) D4))))
abbrev aqI:List K:=[.blk 4,.blk 3,.c JA,.lp AT,.blk 2,.blk 1,.c Jz,.lp uT,.blk 0,.c D4]
abbrev aqH:List K:=[.blk 2,.blk 1,.c Jz,.lp uT,.blk 0,.c D4]
abbrev Sz:List K:=[.blk 0,.c D4]
abbrev GO:=aR [(.cell true 3 8),(.tmp 9)] false
def E9:aE:=.code 4 85 Oz [(.cell true 3 8),(.tmp 9)] false
-- 67
def O6:au:=(sq (rF [o1 65 (.build [.v (.int .i64 0),.v (.int .i64 0)] []),sT 2 2 65,o1 3 (mI 0)]) .ret)
def J0 : au := (sq (rF [o1 52 (aX .lss 51 50)]) (sq (cn 52 .skip (.exit 2)) (sq (.block 3 (sq (rF [m1 53 51, o1 54 (iX 7 49 51), lT 55 7 54, o1 9 (.alloc [.v (.string ⟨#[]⟩), .v (.int
  .i64 0),.v (.int .i64 0),.v (.int .i64 0),.v (.int .i64 0),.slice .aA 0 [],.v (.int .i64 0)]),m1 8 53,sT 7 9 55]) (sq (rF [lT 56 3 1,lT 57 7 9,o1 58 (cF 104 [t1 56,t1 57]),m1 10 58])
  (sq (rF [m1 59 10,o1 60 (aK .neq 59 0)]) (cn 60 (sq (rF [m1 61 8,o1 62 (.build [.v (.int .i64 0),.v (.int .i64 0)] [(0,(1,(i1 2))),(1,(1,(t1 61)))]),m1 63 10,sT 2 2 62,m1 3 63]) .ret)
  .skip))))) (rF [o1 64 (aK .add 51 1),m1 51 64]))))
def O7:au:=(sq (sq (rF [fA 48 2 1,lF 49 1 48,o1 50 (nX 49),o1 51 (mI 0)]) (.block 2 (.loop J0))) O6)
def J1:au:=(sq (rF [o1 37 (aX .lss 36 35)]) (sq (cn 37 .skip (.exit 0)) (sq (.block 1 (sq (rF [m1 38 36,m1 6 38]) (sq (rF [lT 39 3 1,m1 40 6,o1 41 (cF 103 [t1 39,t1 40]),m1 7
  41]) (sq (rF [m1 42 7,o1 43 (aK .neq 42 0)]) (cn 43 (sq (rF [m1 44 6,o1 45 (.build [.v (.int .i64 0),.v (.int .i64 0)] [(0,(1,(i1 1))),(1,(1,(t1 44)))]),m1 46 7,sT 2 2 45,m1 3 46]) .ret)
  .skip))))) (rF [o1 47 (aK .add 36 1),m1 36 47]))))
def VZ:au:=(sq (rF [o1 1 (.box 3 (t1 0)),o1 2 (.alloc [.v (.int .i64 0),.v (.int .i64 0)]),o1 3 (mI 0)]) (sq (rF [fA 11 1 1,lF 12 1 11,o1 13 (nX 12),o1 14 (aK .leq 13 4),m1 15
  14,gT 16 15 (fX 2 1),gT 17 15 (lX 1 16),gT 18 15 (nX 17),gT 19 15 (aK .leq 18 12),o1 20 (pA 15 19),m1 4 20]) (sq (sq (rF [fA 21 0 1,lF 22 1 21,o1 23 (cF 40 [t1 22,i1 1,i1 200]),o1 24 (cF
  61 [t1 23,i1 2]),m1 25 4,o1 26 (cF 61 [t1 25,i1 8]),o1 27 (.buildSlice 1 [[.v (.int .i64 0)],[.v (.int .i64 0)]] [(0,(t1 24)),(1,(t1 26))]),o1 28 (cF 102 [t1 27]),m1 5 28]) (sq (rF [m1 29
  5,o1 30 (aK .neq 29 0)]) (cn 30 (sq (rF [o1 31 (.build [.v (.int .i64 0),.v (.int .i64 0)] []),m1 32 5,sT 2 2 31,m1 3 32]) .ret) .skip))) (sq (sq (rF [fA 33 1 1,lF 34 1 33,o1 35 (nX 34),o1
  36 (mI 0)]) (.block 0 (.loop J1))) O7))))
abbrev arc:List K:=[.blk 2,.c O6]
abbrev ard:List K:=[.blk 0,.c O7]
abbrev X7:=aR [(.cell true 2 2),(.tmp 3)] false
def FD:aE:=.code 1 66 VZ [(.cell true 2 2),(.tmp 3)] false
-- 68
def WR:au:=(sq (sq (rF [m1 49 7,m1 50 6,o1 51 (aX .add 49 50),m1 9 51]) (sq (rF [m1 52 9,m1 53 1,o1 54 (aX .lss 52 53)]) (cn 54 (rF [m1 55 0,m1 56 7,m1 57 9,m1 58
  1,m1 59 2,o1 60 (cF 106 [t1 55,t1 56,t1 57,t1 58,t1 59])]) .skip))) (rF [m1 61 6,o1 62 (aK .mul 61 2),m1 6 62]))
def agi:au:=(sq (sq (rF [m1 33 8,m1 34 1,o1 35 (aX .leq 33 34)]) (cn 35 .skip (.exit 4))) (.block 5 (sq (rF [m1 36 0,m1 37 7,m1 38 7,m1 39 6,o1 40 (aX .add 38 39),m1
  41 8,m1 42 2,o1 43 (cF 106 [t1 36,t1 37,t1 40,t1 41,t1 42])]) (sq (rF [m1 44 8,m1 7 44]) (rF [m1 45 8,m1 46 6,o1 47 (.arith .mul (i1 2) (t1 46)),o1 48 (aX .add 45 47),m1 8 48])))))
def KD:au:=(sq (sq (rF [m1 28 6,m1 29 1,o1 30 (aX .lss 28 29)]) (cn 30 .skip (.exit 2))) (.block 3 (sq (rF [m1 31 6,o1 32 (.arith .mul (i1 2) (t1 31)),o1 7 (mI 0),m1
  8 32]) (sq (.block 4 (.loop agi)) WR))))
def KE:au:=(sq (rF [m1 23 0,m1 24 7,m1 25 1,m1 26 2,o1 27 (cF 105 [t1 23,t1 24,t1 25,t1 26])]) (.block 2 (.loop KD)))
def P1:au:=(sq (sq (rF [m1 11 8,m1 12 1,o1 13 (aX .leq 11 12)]) (cn 13 .skip (.exit 0))) (.block 1 (sq (rF [m1 14 0,m1 15 7,m1 16 8,m1 17 2,o1 18 (cF 105 [t1 14,t1
  15,t1 16,t1 17])]) (sq (rF [m1 19 8,m1 7 19]) (rF [m1 20 8,m1 21 6,o1 22 (aX .add 20 21),m1 8 22])))))
def P0:au:=(sq (rF [o1 6 (mI 20)]) (sq (rF [m1 10 6,o1 7 (mI 0),m1 8 10]) (sq (.block 0 (.loop P1)) KE)))
abbrev aBL:List K:=[.blk 4,.c WR,.blk 3,.lp KD,.blk 2]
abbrev aBK:List K:=[.blk 2]
abbrev aBM:List K:=[.blk 0,.c KE]
abbrev aAL:=aR [] false
def BD:aE:=.code 3 63 P0 [] false
-- 69
def Pw:au:=(sq (rF [o1 3 (.box 1 (t1 0)),o1 4 (.box 3 (t1 1)),o1 6 (mB false)]) (sq (rF [m1 7 2,o1 8 (.mC 108 [] [t1 3,t1 4]),o1 9 (cF 107 [t1 7,t1 8]),m1 6 9]) .ret))
abbrev aAs:=aR [(.tmp 6)] false
def Br:aE:=.code 3 10 Pw [(.tmp 6)] false
-- 70
def PZ:au:=(.block 1 (sq (rF [m1 21 2,m1 22 1,o1 23 (aX .sub 21 22),m1 12 23]) (sq (sq (rF [m1 24 12,o1 25 (aK .leq 24 12)]) (cn 25 (sq (rF [m1 26 0,m1 27
  1,m1 28 2,m1 29 4,o1 30 (cF 110 [t1 26,t1 27,t1 28,t1 29])]) .ret) .skip)) (sq (sq (rF [m1 31 3,o1 32 (aK .eql 31 0)]) (cn 32 (sq (rF [m1 33 0,m1 34 1,m1 35 2,m1 36 4,o1 37 (cF 111 [t1
  33,t1 34,t1 35,t1 36])]) .ret) .skip)) (sq (sq (rF [m1 38 10,o1 39 (uX 38)]) (cn 39 (sq (rF [m1 40 0,m1 41 1,m1 42 2,m1 43 4,o1 44 (cF 112 [t1 40,t1 41,t1 42,t1 43])]) (rF [m1 45 3,o1 46
  (aK .sub 45 1),m1 3 46])) .skip)) (sq (rF [m1 48 0,m1 49 1,m1 50 2,m1 51 4,o1 52 (cF 113 [t1 48,t1 49,t1 50,t1 51]),m1 47 52,o1 53 (eX 0 47),o1 54 (eX 1 47),m1 13 53,m1 14 54]) (sq (sq
  (rF [m1 55 14,o1 56 (aK .eql 55 2)]) (cn 56 (sq (rF [m1 57 0,m1 58 1,m1 59 2,m1 60 4,o1 61 (cF 114 [t1 57,t1 58,t1 59,t1 60])]) (sq (rF [m1 62 2,o1 63 (aK .sub 62 1),m1 64 13,m1 65 1,o1
  66 (aX .sub 64 65),o1 67 (aX .sub 63 66),m1 13 67]) (rF [o1 14 (mI 1)]))) .skip)) (sq (sq (rF [m1 68 10,m1 69 68,gT 70 69 (mX 11),o1 71 (pA 69 70),m1 72 71,gT 73 72 (mX 14),gT 74 72 (aK .eql
  73 1),o1 75 (pA 72 74)]) (cn 75 (sq (rF [m1 76 0,m1 77 1,m1 78 2,m1 79 4,o1 80 (cF 115 [t1 76,t1 77,t1 78,t1 79])]) (cn 80 .ret .skip)) .skip)) (sq (sq (rT [m1 81 1,o1 82 (aK .gtr 81 0),m1
  83 82,gT 84 83 (mX 4),gT 85 83 (mX 0),gT 86 83 (mX 1),gT 87 83 (aK .sub 86 1),gT 88 83 (iX 3 85 87),gT 89 83 (lY 3 88),gT 90 83 (mX 0),gT 91 83 (mX 13),gT 92 83 (iX 3 90 91),gT 93 83 (lY 3
  92),gT 94 83 (.gW false (t1 84) [t1 89,t1 93]),gT 95 83 (aK .lss 94 0),gT 96 83 (uX 95),o1 97 (pA 83 96)]) (cn 97 (sq (rF [m1 98 0,m1 99 1,m1 100 2,m1 101 13,m1 102 4,o1 103 (cF 116 [t1
  98,t1 99,t1 100,t1 101,t1 102]),m1 15 103]) (sq (rF [m1 104 15,m1 1 104]) (.exit 1))) .skip)) (sq (rF [m1 106 0,m1 107 1,m1 108 2,m1 109 13,m1 110 4,o1 111 (cF 117 [t1 106,t1 107,t1
  108,t1 109,t1 110]),m1 105 111,o1 112 (eX 0 105),o1 113 (eX 1 105),m1 16 112,m1 17 113]) (sq (rF [m1 114 17,m1 11 114]) (sq (rF [m1 115 16,m1 116 1,o1 117 (aX .sub 115 116),m1 118 2,m1
  119 16,o1 120 (aX .sub 118 119),m1 18 117,m1 19 120]) (sq (rF [m1 121 12,o1 122 (aK .quo 121 8),m1 20 122]) (sq (rF [m1 123 18,m1 124 19,o1 125 (aX .lss 123 124)]) (cn 125 (sq (rF [m1 126 18,
  m1 127 20,o1 128 (aX .geq 126 127),m1 10 128]) (sq (rF [m1 129 0,m1 130 1,m1 131 16,m1 132 3,m1 133 4,o1 134 (cF 70 [t1 129,t1 130,t1 131,t1 132,t1 133])]) (rF [m1 135 16,o1 136 (aK .add
  135 1),m1 1 136]))) (sq (rF [m1 137 19,m1 138 20,o1 139 (aX .geq 137 138),m1 10 139]) (sq (rF [m1 140 0,m1 141 16,o1 142 (aK .add 141 1),m1 143 2,m1 144 3,m1 145 4,o1 146 (cF 70 [t1 140,
  t1 142,t1 143,t1 144,t1 145])]) (rF [m1 147 16,m1 2 147]))))))))))))))))))
def PY:au:=(sq (rF [o1 10 (mB true)]) (sq (rF [o1 11 (mB true)]) (.block 0 (.loop PZ))))
abbrev aBJ:List K:=[.blk 0]
abbrev aAK:=aR [] false
def BB:aE:=.code 5 148 PY [] false
-- 71
def VI:au:=(sq (rF [o1 2 (mI 0)]) (sq (.cond bF (sq (rF [m1 3 0,o1 4 (.conv (.int .u32) (t1 3)),o1 5 (cF 118 [t1 4]),m1 2 5]) .ret) .skip) (sq (rF [m1 6 0,o1 7 (cF 119 [t1 6]),
  m1 2 7]) .ret)))
abbrev azV:=aR [(.tmp 2)] false
def Fe:aE:=.code 1 8 VI [(.tmp 2)] false
-- 72
def WC:au:=(sq (sq (rF [m1 31 0,o1 32 (nX 31),m1 33 1,o1 34 (nX 33),o1 35 (aX .lss 32 34)]) (cn 35 (sq (rF [o1 4 (mI (-1))]) .ret) .skip)) (sq (rF [o1 4 (mI 0)]) .ret))
def agh:au:=(sq (rF [o1 12 (aX .lss 11 10)]) (sq (cn 12 .skip (.exit 0)) (sq (.block 1 (sq (rF [m1 13 11,o1 14 (iX 1 9 11),lF 15 1 14,m1 5 13,m1 6 15]) (sq (sq (rF [m1 16 5,
  m1 17 1,o1 18 (nX 17),o1 19 (aX .geq 16 18)]) (cn 19 (sq (rF [o1 4 (mI 1)]) .ret) .skip)) (sq (rF [m1 20 1,m1 21 5,o1 22 (iX 1 20 21),lF 23 1 22,m1 7 23]) (sq (rF [m1 24 6,m1 25 7,o1 26 (cF
  120 [t1 24,t1 25]),m1 8 26]) (sq (rF [m1 27 8,o1 28 (aK .neq 27 0)]) (cn 28 (sq (rF [m1 29 8,m1 4 29]) .ret) .skip))))))) (rF [o1 30 (aK .add 11 1),m1 11 30]))))
def agf:au:=(sq (rF [o1 4 (mI 0)]) (sq (sq (rF [m1 9 0,o1 10 (nX 9),o1 11 (mI 0)]) (.block 0 (.loop agh))) WC))
abbrev aBI:List K:=[.blk 0,.c WC]
abbrev aAA:=aR [(.tmp 4)] false
def KQ:aE:=.code 2 36 agf [(.tmp 4)] false
-- 73
def PR:au:=(sq (rF [o1 4 (mI (-1))]) .ret)
def Ku:au:=(sq (rF [o1 9 (aX .lss 8 7)]) (sq (cn 9 .skip (.exit 0)) (sq (.block 1 (sq (rF [m1 10 8,m1 5 10]) (sq (rF [m1 11 1,m1 12 0,m1 13 5,o1 14 (iX 1 12 13),lF 15 1
  14,o1 16 (.gW false (t1 11) [t1 15])]) (cn 16 (sq (rF [m1 17 5,m1 4 17]) .ret) .skip)))) (rF [o1 18 (aK .add 8 1),m1 8 18]))))
def WN:au:=(sq (rF [o1 4 (mI 0)]) (sq (sq (rF [m1 6 0,o1 7 (nX 6),o1 8 (mI 0)]) (.block 0 (.loop Ku))) PR))
abbrev arR:List K:=[.blk 0,.c PR]
abbrev ajo:=aR [(.tmp 4)] false
def Gt:aE:=.code 2 19 WN [(.tmp 4)] false
-- 74
def Bb:au:=(sq (sq (rF [lF 62 1 5]) (rF [o1 5 (.alloc [.v (.int .i64 0)]),sT 1 5 62])) (rF [lF 30 1 5,o1 31 (aK .add 30 1),sT 1 5 31]))
def kn:au:=(.block 5 (sq (rF [lF 55 1 3,lF 56 1 2,lF 57 1 5,m1 58 9,o1 59 (.build [.v (.int .i64 0),.v (.int .i64 0),.slice .aA 0 []] [(0,(1,(t1 56))),(1,(1,(t1
  57))),(2,(1,(t1 58)))]),o1 60 (.gW false (t1 55) [t1 59]),o1 61 (uX 60)]) (cn 61 .ret .skip)))
def kj:au:=(rF [m1 9 54])
def PF:au:=(sq (rF [m1 50 6,fA 51 6 4,lF 52 1 51,o1 53 (cF 76 [t1 50,t1 52])]) (.block 4 (.rangeFunc (t1 53) [54] kj kn)))
def EN:au:=(sq (rF [o1 36 (aX .lss 35 34)]) (sq (cn 36 .skip (.exit 2)) (sq (.block 3 (sq (rF [o1 37 (iX 1 33 35),lF 38 1 37,m1 8 38]) (sq (rF [lF 39 1 1,m1 40 8,lF 41 1 5,
  fA 42 3 4,lF 43 1 42,o1 44 (cF 75 [t1 39,t1 40,t1 41,t1 43])]) (cn 44 (rF [m1 45 6,m1 46 8,o1 47 (.buildSlice 1 [[.v (.int .i64 0)]] [(0,(t1 46))]),o1 48 (.append 1 (t1 45) (t1 47)),m1 6
  48]) .skip)))) (rF [o1 49 (aK .add 35 1),m1 35 49]))))
def xb:au:=(sq (sq (rF [lF 21 1 5,fA 22 3 4,lF 23 1 22,o1 24 (aX .add 21 23),o1 25 (aK .sub 24 1),fA 26 1 4,fA 27 1 26,lF 28 1 27,o1 29 (aX .leq 25 28)]) (cn 29 .skip
  (.exit 0))) (sq (.block 1 (sq (rF [o1 6 (.move (.const (.slice .aA 0 [])))]) (sq (sq (rF [fA 32 5 4,lF 33 1 32,o1 34 (nX 33),o1 35 (mI 0)]) (.block 2 (.loop EN)))
  PF))) Bb))
def Wz:au:=(sq (rF [o1 3 (.box 1 (t1 0))]) (sq (rT [lF 10 1 1,o1 11 (.nilCheck (t1 10)),fA 12 0 11,fA 13 2 12,lF 14 1 13,lF 15 1 2,o1 16 (iX 7 14 15),lT 17 7 16,o1 4 (.alloc
  [.v (.string ⟨#[]⟩), .v (.int .i64 0), .v (.int .i64 0), .v (.int .i64 0), .v (.int .i64 0), .slice .aA 0 [], .v (.int .i64 0)]), sT 7 4 17]) (sq (rF [fA 18 1 4, fA 19 0 18, lF 20 1 19, o1 5
  (.alloc [.v (.int .i64 0)]),sT 1 5 20]) (.block 0 (.loop xb)))))
abbrev aBH:List K:=[.blk 4,.blk 1,.c Bb,.lp xb,.blk 0]
abbrev arN:List K:=[.blk 2,.c PF,.blk 1,.c Bb,.lp xb,.blk 0]
abbrev arM:List K:=[.blk 0]
abbrev La:=aR [] false
def Gf:aE:=.code 3 63 Wz [] false
-- 75
def Wv:au:=(sq (rF [o1 8 (mB false)]) (sq (rF [m1 9 0,m1 10 1,o1 11 (.nilCheck (t1 9)),fA 12 3 11,o1 13 (.indexAddr (some 4) 200 (t1 12) (t1 10)),m1 14 2,m1 15 2,m1 16 3,o1 17
  (aX .add 15 16),o1 18 (.slice (.arr 200 1) (t1 13) (some (t1 14)) (some (t1 17)) none),o1 19 (cF 51 [t1 18,bT]),o1 20 (uX 19),m1 8 20]) .ret))
abbrev aAv:=aR [(.tmp 8)] false
def Ga:aE:=.code 4 21 Wv [(.tmp 8)] false
-- 76
def V6:au:=(sq (rF [o1 2 (.box 1 (t1 0)),o1 3 (.box 1 (t1 1)),o1 4 (.move (.const (.v .nilFunc)))]) (sq (rF [o1 5 (.mC 121 [] [t1 3,t1 2]),m1 4 5]) .ret))
abbrev az9:=aR [(.tmp 4)] false
def FK:aE:=.code 2 6 V6 [(.tmp 4)] false
-- 77
def VK:au:=(sq (rF [o1 4 (.move (.const (.v (.int .u64 0)))),o1 5 (.move (.const (.v (.int .u64 0))))]) (sq (.cond bF (sq (rF [m1 11 0,o1 12 (.conv (.int .u32) (t1 11)),m1 13 1,
  o1 14 (.conv (.int .u32) (t1 13)),o1 15 (cF 124 [t1 12,t1 14]),m1 10 15,o1 16 (eX 0 10),o1 17 (eX 1 10),m1 6 16,m1 7 17]) (sq (rF [m1 18 6,o1 19 (.conv (.int .u64) (t1 18)),m1 20 7,o1 21
  (.conv (.int .u64) (t1 20)),m1 4 19,m1 5 21]) .ret)) .skip) (sq (rF [m1 23 0,m1 24 1,o1 25 (cF 125 [t1 23,t1 24]),m1 22 25,o1 26 (eX 0 22),o1 27 (eX 1 22),m1 8 26,m1 9 27]) (sq (rF [m1 28
  8,m1 29 9,m1 4 28,m1 5 29]) .ret))))
abbrev azX:=aR [(.tmp 4),(.tmp 5)] false
def Fg:aE:=.code 2 30 VK [(.tmp 4),(.tmp 5)] false
-- 78
def OZ:au:=(sq (rF [o1 6 (mI 0)]) .ret)
def El:au:=(sq (sq (rF [m1 97 10,m1 98 2,o1 99 (aX .lss 97 98)]) (cn 99 .skip (.exit 2))) (sq (.block 3 (sq (rT [lT 102 3 3,lT 103 3 7,m1 104 1,m1 105 10,o1 106 (iX 3 104
  105),lT 107 3 106,o1 108 (cF 126 [t1 102,t1 103,t1 107])]) (cn 108 (sq (rF [o1 6 (mI 13)]) .ret) .skip))) (rF [m1 100 10,o1 101 (aK .add 100 1),m1 10 101])))
def JQ:au:=(sq (sq (rF [lT 94 3 3,lT 95 3 7,o1 96 (cF 92 [t1 94,t1 95])]) (cn 96 (sq (rF [o1 6 (mI 21)]) .ret) .skip)) (sq (sq (rF [o1 10 (mI 0)]) (.block 2 (.loop
  El))) OZ))
def w6:au:=(sq (sq (rF [m1 62 9,fA 63 2 7,lF 64 1 63,o1 65 (nX 64),o1 66 (aX .lss 62 65)]) (cn 66 .skip (.exit 0))) (sq (.block 1 (sq (sq (rT [fA 69 5 8,lF 70 1 69,fA 71 2 7,
  lF 72 1 71,m1 73 9,o1 74 (iX 1 72 73),lF 75 1 74,o1 76 (cF 22 [t1 70,t1 75]),o1 77 (uX 76)]) (cn 77 (sq (rF [o1 6 (mI 6)]) .ret) .skip)) (sq (rT [m1 78 9,o1 79 (aK .gtr 78 0),m1 80 79,gT 81
  80 (fX 2 7),gT 82 80 (lX 1 81),gT 83 80 (mX 9),gT 84 80 (iX 1 82 83),gT 85 80 (lX 1 84),gT 86 80 (fX 2 7),gT 87 80 (lX 1 86),gT 88 80 (mX 9),gT 89 80 (aK .sub 88 1),gT 90 80 (iX 1 87 89),
  gT 91 80 (lX 1 90),gT 92 80 (aX .leq 85 91),o1 93 (pA 80 92)]) (cn 93 (sq (rF [o1 6 (mI 9)]) .ret) .skip)))) (rF [m1 67 9,o1 68 (aK .add 67 1),m1 9 68])))
def uU:au:=(sq (rF [o1 3 (.box 3 (t1 0)),o1 6 (mI 0)]) (sq (rF [m1 11 1,m1 12 2,o1 13 (iX 3 11 12),lT 14 3 13,o1 7 (.alloc [.v (.int .i64 0),.v (.int .i64 0),.slice .aA 0
  []]),sT 3 7 14]) (sq (sq (rF [fA 15 0 7,lF 16 1 15,fA 17 2 3,lF 18 1 17,o1 19 (nX 18),o1 20 (aK .sub 19 1),o1 21 (cF 21 [t1 16,i1 0,t1 20]),o1 22 (uX 21)]) (cn 22 (sq (rF [o1 6 (mI 6)])
  .ret) .skip)) (sq (sq (rT [m1 23 2,o1 24 (aK .gtr 23 0),m1 25 24,gT 26 25 (fX 0 7),gT 27 25 (lX 1 26),gT 28 25 (mX 1),gT 29 25 (mX 2),gT 30 25 (aK .sub 29 1),gT 31 25 (iX 3 28 30),gT 32 25
  (fX 0 31),gT 33 25 (lX 1 32),gT 34 25 (aX .leq 27 33),o1 35 (pA 25 34)]) (cn 35 (sq (rF [o1 6 (mI 9)]) .ret) .skip)) (sq (rF [fA 36 2 3,lF 37 1 36,fA 38 0 7,lF 39 1 38,o1 40 (iX 7 37 39),lT
  41 7 40, o1 8 (.alloc [.v (.string ⟨#[]⟩), .v (.int .i64 0), .v (.int .i64 0), .v (.int .i64 0), .v (.int .i64 0), .slice .aA 0 [], .v (.int .i64 0)]), sT 7 8 41]) (sq (sq (rF [fA 42 1 7, lF 43 1
  42,fA 44 1 8,fA 45 0 44,lF 46 1 45,fA 47 1 8,fA 48 1 47,lF 49 1 48,fA 50 3 8,lF 51 1 50,o1 52 (aX .sub 49 51),o1 53 (aK .add 52 1),o1 54 (cF 21 [t1 43,t1 46,t1 53]),o1 55 (uX 54)]) (cn
  55 (sq (rF [o1 6 (mI 2)]) .ret) .skip)) (sq (sq (rF [fA 56 2 7,lF 57 1 56,o1 58 (nX 57),fA 59 6 8,lF 60 1 59,o1 61 (aX .neq 58 60)]) (cn 61 (sq (rF [o1 6 (mI 10)]) .ret) .skip)) (sq (sq (rF [o1
  9 (mI 0)]) (.block 0 (.loop w6))) JQ))))))))
abbrev aq6:List K:=[.blk 2,.c OZ]
abbrev aq7:List K:=[.blk 0,.c JQ]
abbrev X4:=aR [(.tmp 6)] false
def Fx:aE:=.code 3 109 uU [(.tmp 6)] false
-- 79
def Wj:au:=(sq (rF [o1 3 (.box 1 (t1 0)),o1 4 (.box 1 (t1 1)),o1 5 (.box 1 (t1 2)),o1 6 (.move (.const (.v .nilFunc)))]) (sq (rF [o1 7 (.mC 127 [] [t1 4,t1 3,t1 5]),m1 6
  7]) .ret))
abbrev aAn:=aR [(.tmp 6)] false
def F0:aE:=.code 3 8 Wj [(.tmp 6)] false
-- 83
def Kw:au:=(sq (rF [o1 4 (mI (-1))]) .ret)
def xd:au:=(sq (rF [o1 9 (aX .lss 8 7)]) (sq (cn 9 .skip (.exit 0)) (sq (.block 1 (sq (rF [m1 10 8,m1 5 10]) (sq (rF [m1 11 1,m1 12 0,m1 13 5,o1 14 (iX 1 12 13),lF 15 1 14,
  o1 16 (.eqv false .bool (t1 11) (t1 15))]) (cn 16 (sq (rF [m1 17 5,m1 4 17]) .ret) .skip)))) (rF [o1 18 (aK .add 8 1),m1 8 18]))))
def PT:au:=(sq (rF [o1 4 (mI 0)]) (sq (sq (rF [m1 6 0,o1 7 (nX 6),o1 8 (mI 0)]) (.block 0 (.loop xd))) Kw))
abbrev aaP:List K:=[.blk 0,.c Kw]
abbrev Ye:=aR [(.tmp 4)] false
def By:aE:=.code 2 19 PT [(.tmp 4)] false
-- 88
def Jr:au:=(sq (rF [m1 36 0,o1 37 (nX 36),m1 38 1,o1 39 (nX 38),o1 40 (aX .lss 37 39),m1 4 40]) .ret)
def AO:au:=(sq (sq (rF [m1 6 5,m1 7 0,o1 8 (nX 7),o1 9 (aX .lss 6 8),m1 10 9,gT 11 10 (mX 5),gT 12 10 (mX 1),gT 13 10 (nX 12),gT 14 10 (aX .lss 11 13),o1 15 (pA 10 14)]) (cn
  15 .skip (.exit 0))) (sq (.block 1 (sq (rT [m1 18 0,m1 19 5,o1 20 (iX 1 18 19),lF 21 1 20,m1 22 1,m1 23 5,o1 24 (iX 1 22 23),lF 25 1 24,o1 26 (aX .neq 21 25)]) (cn 26 (sq (rT [m1 27 0,m1 28
  5,o1 29 (iX 1 27 28),lF 30 1 29,m1 31 1,m1 32 5,o1 33 (iX 1 31 32),lF 34 1 33,o1 35 (aX .lss 30 34),m1 4 35]) .ret) .skip))) (rF [m1 16 5,o1 17 (aK .add 16 1),m1 5 17])))
def Vy:au:=(sq (rF [o1 4 (mB false)]) (sq (sq (rF [o1 5 (mI 0)]) (.block 0 (.loop AO))) Jr))
abbrev aqy:List K:=[.blk 0,.c Jr]
abbrev aiX:=aR [(.tmp 4)] false
def EZ:aE:=.code 2 41 Vy [(.tmp 4)] false
-- 89
def Po:au:=(sq (rF [o1 2 (.box 3 (t1 0)),o1 4 (.move (.const (.v (.pointer none)))),o1 5 (mI 0),o1 6 (mI 0)]) (sq (rF [lT 11 3 2,o1 12 (cF 32 [t1 11]),m1 10 12,o1 13 (eX 0 10),
  o1 14 (eX 1 10),m1 7 13,m1 8 14]) (sq (sq (rF [m1 15 8,o1 16 (aK .neq 15 0)]) (cn 16 (sq (rF [m1 17 8,o1 4 (.move (.const (.v (.pointer none)))),o1 5 (mI 0),m1 6 17]) .ret) .skip)) (sq (rF [m1
  19 7,m1 20 1,o1 21 (cF 138 [t1 19,t1 20]),m1 18 21,o1 22 (eX 0 18),o1 23 (eX 1 18),m1 9 22,m1 8 23]) (sq (rF [m1 24 7,m1 25 9,m1 26 8,m1 4 24,m1 5 25,m1 6 26]) .ret)))))
abbrev aAd:=aR [(.tmp 4),(.tmp 5),(.tmp 6)] false
def FO:aE:=.code 2 27 Po [(.tmp 4),(.tmp 5),(.tmp 6)] false
-- 90
def Wo:au:=(sq (rF [o1 4 (mI 0)]) (sq (rF [m1 5 1,m1 6 0,o1 7 (.nilCheck (t1 6)),fA 8 0 7,fA 9 1 8,lF 10 1 9,o1 11 (nX 10),o1 12 (aK .sub 11 1),o1 13 (cF 40 [t1 5,i1 0,t1
  12]),o1 14 (cF 61 [t1 13,i1 6]),m1 4 14]) .ret))
abbrev aAp:=aR [(.tmp 4)] false
def F3:aE:=.code 2 15 Wo [(.tmp 4)] false
-- 91
def JO:au:=(sq (rF [m1 46 5,m1 4 46]) .ret)
def OX:au:=(rF [m1 18 6,o1 19 (aK .add 18 1),m1 6 19])
def JN:au:=(sq (sq (rF [m1 27 8,m1 28 7,o1 29 (nX 28),o1 30 (aX .lss 27 29)]) (cn 30 .skip (.exit 2))) (sq (.block 3 (rT [m1 33 5,m1 34 0,m1 35 6,o1 36 (iX 1 34 35),lF 37 1
  36,o1 38 (.buildSlice 1 [[.v (.int .i64 0)]] [(0,(t1 37))]),m1 39 7,m1 40 8,o1 41 (iX 1 39 40),lF 42 1 41,o1 43 (.append 1 (t1 38) (t1 42)),o1 44 (.buildSlice 1 [[.slice .aA 0 []]] [(0,
  (t1 43))]),o1 45 (.append 1 (t1 33) (t1 44)),m1 5 45])) (rF [m1 31 8,o1 32 (aK .add 31 1),m1 8 32])))
def Ej:au:=(sq (sq (rF [m1 12 6,m1 13 1,o1 14 (aX .add 12 13),m1 15 0,o1 16 (nX 15),o1 17 (aX .leq 14 16)]) (cn 17 .skip (.exit 0))) (sq (.block 1 (sq (rF [m1 20 0,m1 21 6,o1
  22 (aK .add 21 1),o1 23 (.slice (.sl 1) (t1 20) (some (t1 22)) none none),m1 24 1,o1 25 (aK .sub 24 1),o1 26 (cF 91 [t1 23,t1 25]),m1 7 26]) (sq (rF [o1 8 (mI 0)]) (.block 2 (.loop
  JN))))) OX))
def OV:au:=(sq (rF [o1 4 (.move (.const (.slice .aA 0 [])))]) (sq (sq (rF [m1 9 1,o1 10 (aK .eql 9 0)]) (cn 10 (sq (rF [o1 11 (.buildSlice 1 [[.slice .aA 0 []]] [(0,(.const
  (.slice .aA 0 [])))]),m1 4 11]) .ret) .skip)) (sq (rF [o1 5 (.move (.const (.slice .aA 0 [])))]) (sq (sq (rF [o1 6 (mI 0)]) (.block 0 (.loop Ej))) JO))))
abbrev aq4:List K:=[.blk 2,.blk 1,.c OX,.lp Ej,.blk 0,.c JO]
abbrev aq3:List K:=[.blk 0,.c JO]
abbrev X3:=aR [(.tmp 4)] false
def Bj:aE:=.code 2 47 OV [(.tmp 4)] false
-- 92
def JR:au:=(sq (rF [o1 4 (mB false)]) .ret)
def O1:au:=(rF [m1 12 5,o1 13 (aK .add 12 1),m1 5 13])
def En:au:=(sq (sq (rF [m1 14 6,fA 15 2 2,lF 16 1 15,fA 17 0 3,lF 18 1 17,o1 19 (iX 7 16 18),fA 20 3 19,lF 21 1 20,o1 22 (aX .lss 14 21)]) (cn 22 .skip (.exit 2))) (sq (.block
  3 (sq (rT [fA 25 1 2,lF 26 1 25,fA 27 2 3,lF 28 1 27,m1 29 5,o1 30 (iX 1 28 29),lF 31 1 30,o1 32 (iX 3 26 31),lT 33 3 32,fA 34 1 3,lF 35 1 34,m1 36 6,o1 37 (aX .add 35 36),o1 38 (cF 139
  [t1 33,t1 37])]) (cn 38 (sq (rF [o1 4 (mB true)]) .ret) .skip))) (rF [m1 23 6,o1 24 (aK .add 23 1),m1 6 24])))
def Em:au:=(sq (sq (rF [m1 7 5,fA 8 2 3,lF 9 1 8,o1 10 (nX 9),o1 11 (aX .lss 7 10)]) (cn 11 .skip (.exit 0))) (sq (.block 1 (sq (rF [o1 6 (mI 0)]) (.block 2 (.loop En))))
  O1))
def VW:au:=(sq (rF [o1 2 (.box 3 (t1 0)),o1 3 (.box 3 (t1 1)),o1 4 (mB false)]) (sq (sq (rF [o1 5 (mI 0)]) (.block 0 (.loop Em))) JR))
abbrev aq9:List K:=[.blk 2,.blk 1,.c O1,.lp Em,.blk 0,.c JR]
abbrev aq8:List K:=[.blk 0,.c JR]
abbrev X6:=aR [(.tmp 4)] false
def Fz:aE:=.code 2 39 VW [(.tmp 4)] false
-- 93
def OU:au:=(sq (rF [o1 4 (mI 0)]) .ret)
def Eh:au:=(sq (sq (rF [m1 40 7,fA 41 2 5,lF 42 1 41,o1 43 (nX 42),o1 44 (aX .lss 40 43)]) (cn 44 .skip (.exit 2))) (sq (.block 3 (sq (rT [lT 47 3 2,fA 48 2 5,lF 49 1 48,
  m1 50 7,o1 51 (iX 2 49 50),lT 52 2 51,o1 53 (cF 141 [t1 47,t1 52]),m1 8 53]) (sq (rF [m1 54 8,o1 55 (aK .neq 54 0)]) (cn 55 (sq (rF [m1 56 8,m1 4 56]) .ret) .skip)))) (rF [m1 45 7,o1 46 (aK
  .add 45 1),m1 7 46])))
def Ei:au:=(sq (sq (rF [fA 32 1 5,lF 33 1 32,o1 34 (cF 21 [t1 33,i1 0,i1 50]),o1 35 (uX 34)]) (cn 35 (sq (rF [o1 4 (mI 2)]) .ret) .skip)) (sq (sq (rF [fA 36 2 5,lF 37 1 36,
  o1 38 (nX 37),o1 39 (aK .gtr 38 6)]) (cn 39 (sq (rF [o1 4 (mI 8)]) .ret) .skip)) (sq (sq (rF [o1 7 (mI 0)]) (.block 2 (.loop Eh))) OU)))
def yB:au:=(sq (sq (rF [m1 18 6,m1 19 1,o1 20 (aX .lss 18 19)]) (cn 20 .skip (.exit 0))) (sq (.block 1 (sq (rT [fA 23 1 2,lF 24 1 23,m1 25 6,o1 26 (iX 3 24 25),fA 27 0 26,
  lF 28 1 27,fA 29 0 5,lF 30 1 29,o1 31 (aX .eql 28 30)]) (cn 31 (sq (rF [o1 4 (mI 5)]) .ret) .skip))) (rF [m1 21 6,o1 22 (aK .add 21 1),m1 6 22])))
def OT : au := (sq (rF [o1 2 (.box 3 (t1 0)), o1 4 (mI 0)]) (sq (rF [fA 9 1 2, lF 10 1 9, m1 11 1, o1 12 (iX 3 10 11), lT 13 3 12, o1 5 (.alloc [.v (.string ⟨#[]⟩), .v (.int .i64 0),
  .slice .aA 0 []]),sT 3 5 13]) (sq (sq (rF [fA 14 0 5,lF 15 1 14,o1 16 (cF 140 [t1 15]),o1 17 (uX 16)]) (cn 17 (sq (rF [o1 4 (mI 4)]) .ret) .skip)) (sq (sq (rF [o1 6 (mI 0)]) (.block 0 (.loop
  yB))) Ei))))
abbrev aq1:List K:=[.blk 2,.c OU]
abbrev aq2:List K:=[.blk 0,.c Ei]
abbrev X2:=aR [(.tmp 4)] false
def Fu:aE:=.code 2 57 OT [(.tmp 4)] false
-- 94
def O0:au:=(sq (sq (rF [fA 74 6 3,lF 75 1 74,fA 76 5 3,lF 77 1 76,o1 78 (nX 77),o1 79 (cF 21 [t1 75,i1 1,t1 78]),o1 80 (uX 79)]) (cn 80 (sq (rF [o1 4 (mI 2)]) .ret)
  .skip)) (sq (rF [o1 4 (mI 0)]) .ret))
def w7:au:=(sq (sq (rF [m1 40 6,fA 41 5 3,lF 42 1 41,o1 43 (nX 42),o1 44 (aX .lss 40 43)]) (cn 44 .skip (.exit 0))) (sq (.block 1 (sq (sq (rT [fA 47 5 3,lF 48 1 47,m1 49 6,
  o1 50 (iX 1 48 49),lF 51 1 50,fA 52 1 2,lF 53 1 52,o1 54 (nX 53),o1 55 (aK .sub 54 1),o1 56 (cF 21 [t1 51,i1 0,t1 55]),o1 57 (uX 56)]) (cn 57 (sq (rF [o1 4 (mI 6)]) .ret) .skip)) (sq (rT
  [m1 58 6,o1 59 (aK .gtr 58 0),m1 60 59,gT 61 60 (fX 5 3),gT 62 60 (lX 1 61),gT 63 60 (mX 6),gT 64 60 (iX 1 62 63),gT 65 60 (lX 1 64),gT 66 60 (fX 5 3),gT 67 60 (lX 1 66),gT 68 60 (mX 6),
  gT 69 60 (aK .sub 68 1),gT 70 60 (iX 1 67 69),gT 71 60 (lX 1 70),gT 72 60 (aX .leq 65 71),o1 73 (pA 60 72)]) (cn 73 (sq (rF [o1 4 (mI 9)]) .ret) .skip)))) (rF [m1 45 6,o1 46 (aK .add 45 1),m1
  6 46])))
def yC:au:=(sq (rF [o1 2 (.box 3 (t1 0)),o1 3 (.box 7 (t1 1)),o1 4 (mI 0)]) (sq (sq (rF [fA 7 0 3,lF 8 1 7,o1 9 (cF 140 [t1 8]),o1 10 (uX 9)]) (cn 10 (sq (rF [o1 4 (mI 4)])
  .ret) .skip)) (sq (sq (rF [lT 11 3 2,fA 12 1 3,lT 13 2 12,o1 14 (cF 141 [t1 11,t1 13]),m1 5 14]) (sq (rF [m1 15 5,o1 16 (aK .neq 15 0)]) (cn 16 (sq (rF [m1 17 5,m1 4 17]) .ret) .skip))) (sq
  (sq (rF [fA 18 3 3,lF 19 1 18,fA 20 1 3,fA 21 1 20,lF 22 1 21,fA 23 1 3,fA 24 0 23,lF 25 1 24,o1 26 (aX .sub 22 25),o1 27 (aK .add 26 1),o1 28 (cF 21 [t1 19,i1 1,t1 27]),o1 29 (uX 28),
  m1 30 29,gF 31 30 (fX 4 3),gF 32 30 (lX 1 31),gF 33 30 (cF 21 [t1 32,i1 0,i1 100000]),gF 34 30 (uX 33),o1 35 (pB 30 34)]) (cn 35 (sq (rF [o1 4 (mI 2)]) .ret) .skip)) (sq (sq (rF [fA 36 5 3,
  lF 37 1 36,o1 38 (nX 37),o1 39 (aK .eql 38 0)]) (cn 39 (sq (rF [o1 4 (mI 10)]) .ret) .skip)) (sq (sq (rF [o1 6 (mI 0)]) (.block 0 (.loop w7))) O0))))))
abbrev aaE:List K:=[.blk 0,.c O0]
abbrev X5:=aR [(.tmp 4)] false
def Fy:aE:=.code 2 81 yC [(.tmp 4)] false
-- 95
def PQ:au:=(sq (rF [o1 4 (mI (-1))]) .ret)
def Kt:au:=(sq (rF [o1 9 (aX .lss 8 7)]) (sq (cn 9 .skip (.exit 0)) (sq (.block 1 (sq (rF [m1 10 8,m1 5 10]) (sq (rF [m1 11 1,m1 12 0,m1 13 5,o1 14 (iX 7 12
  13),lT 15 7 14,o1 16 (.gW false (t1 11) [t1 15])]) (cn 16 (sq (rF [m1 17 5,m1 4 17]) .ret) .skip)))) (rF [o1 18 (aK .add 8 1),m1 8 18]))))
def WL:au:=(sq (rF [o1 4 (mI 0)]) (sq (sq (rF [m1 6 0,o1 7 (nX 6),o1 8 (mI 0)]) (.block 0 (.loop Kt)))
  PQ))
abbrev arQ:List K:=[.blk 0,.c PQ]
abbrev ajm:=aR [(.tmp 4)] false
def Gr:aE:=.code 2 19 WL [(.tmp 4)] false
-- 96
def Pk:au:=(sq (rF [m1 20 3,m1 2 20]) .ret)
def yH:au:=(sq (sq (rF [m1 5 0,m1 6 4,o1 7 (aX .shr 5 6),o1 8 (aK .gtr 7 0)]) (cn 8 .skip (.exit 0))) (sq (.block 1 (sq (rF [m1 11 0,m1 12 4,o1 13 (aX .shr 11 12),o1 14 (aK
  .and 13 1),o1 15 (aK .eql 14 1)]) (cn 15 (rF [m1 16 3,m1 17 4,o1 18 (.buildSlice 1 [[.v (.int .i64 0)]] [(0,(t1 17))]),o1 19 (.append 1 (t1 16) (t1 18)),m1 3 19]) .skip))) (rF [m1 9 4,o1 10
  (aK .add 9 1),m1 4 10])))
def V9:au:=(sq (rF [o1 2 (.move (.const (.slice .aA 0 [])))]) (sq (rF [o1 3 (.move (.const (.slice .aA 0 [])))]) (sq (sq (rF [o1 4 (mI 0)]) (.block 0 (.loop yH)))
  Pk)))
abbrev aaL:List K:=[.blk 0,.c Pk]
abbrev X9:=aR [(.tmp 2)] false
def FN:aE:=.code 1 21 V9 [(.tmp 2)] false
-- 97
def Pr:au:=(sq (rF [o1 3 (.box 1 (t1 1)),o1 4 (.alloc [.v (.int .i64 0),.v (.int .i64 0),.slice .aA 0 []]),o1 5 (mB false)]) (sq (rF [m1 7 0,o1 8 (.mC 143 [] [t1 3]),o1 9 (cF
  142 [t1 7,t1 8]),m1 6 9]) (sq (sq (rF [m1 10 6,o1 11 (aK .lss 10 0)]) (cn 11 (sq (rF [o1 12 (.build [.v (.int .i64 0),.v (.int .i64 0),.slice .aA 0 []] []),sT 3 4 12,o1 5 (mB false)]) .ret)
  .skip)) (sq (rF [m1 13 0,m1 14 6,o1 15 (iX 3 13 14),lT 16 3 15,sT 3 4 16,o1 5 (mB true)]) .ret))))
abbrev aAg:=aR [(.cell true 3 4),(.tmp 5)] false
def FQ:aE:=.code 2 17 Pr [(.cell true 3 4),(.tmp 5)] false
-- 98
def PG:au:=(sq (rF [m1 26 7,m1 6 26]) .ret)
def EO:au:=(sq (rF [o1 13 (aX .lss 12 11)]) (sq (cn 13 .skip (.exit 0)) (sq (.block 1 (sq (rF [o1 14 (iX 3 10 12),lT 15 3 14,o1 9 (.alloc [.v (.int .i64 0),.v (.int .i64 0),
  .slice .aA 0 []]),sT 3 9 15]) (sq (rF [m1 16 0,lT 17 3 9,lT 18 3 5,o1 19 (cF 109 [t1 16,t1 17,t1 18]),o1 20 (uX 19)]) (cn 20 (rF [m1 21 7,lT 22 3 9,o1 23 (.buildSlice 3 [[.v (.int .i64
  0),.v (.int .i64 0),.slice .aA 0 []]] [(0,(t1 22))]),o1 24 (.append 3 (t1 21) (t1 23)),m1 7 24]) .skip)))) (rF [o1 25 (aK .add 12 1),m1 12 25]))))
def WB:au:=(sq (rF [o1 5 (.box 3 (t1 2)),o1 6 (.move (.const (.slice .aA 0 [])))]) (sq (rF [o1 7 (.move (.const (.slice .aA 0 [])))]) (sq (sq (rF [m1 10 1,o1 11 (nX 10),o1 12
  (mI 0)]) (.block 0 (.loop EO))) PG)))
abbrev arO:List K:=[.blk 0,.c PG]
abbrev ajk:=aR [(.tmp 6)] false
def Gh:aE:=.code 3 27 WB [(.tmp 6)] false
-- 99
def Km:au:=(sq (rF [o1 4 (mB false)]) .ret)
def Py:au:=(rF [o1 63 (aK .add 38 1),m1 38 63])
def Pz:au:=(sq (rF [m1 60 0,m1 61 10,o1 62 (cF 99 [t1 60,t1 61])]) (cn 62 (sq (rF [o1 4 (mB true)]) .ret) .skip))
def EK:au:=(sq (rF [o1 45 (aX .lss 44 43)]) (sq (cn 45 .skip (.exit 4)) (sq (.block 5 (sq (rF [m1 46 44,o1 47 (iX 1 42 44),lF 48 1 47,m1 11 46,m1 12 48]) (sq (rF [m1 49 11,m1 50 5,
  o1 51 (aX .neq 49 50)]) (cn 51 (rF [m1 52 10,m1 53 0,m1 54 12,lT 55 3 9,o1 56 (cF 98 [t1 53,t1 54,t1 55]),o1 57 (.buildSlice 1 [[.slice .aA 0 []]] [(0,(t1 56))]),o1 58 (.append 1 (t1 52)
  (t1 57)),m1 10 58]) .skip)))) (rF [o1 59 (aK .add 44 1),m1 44 59]))))
def EJ:au:=(sq (rF [o1 39 (aX .lss 38 37)]) (sq (cn 39 .skip (.exit 2)) (sq (.block 3 (sq (rF [o1 40 (iX 3 36 38),lT 41 3 40,o1 9 (.alloc [.v (.int .i64 0),.v (.int .i64 0),.slice
  .aA 0 []]),sT 3 9 41]) (sq (rF [o1 10 (.move (.const (.slice .aA 0 [])))]) (sq (sq (rF [m1 42 1,o1 43 (nX 42),o1 44 (mI 0)]) (.block 4 (.loop EK))) Pz)))) Py)))
def PA:au:=(sq (sq (rF [m1 33 1,m1 34 5,o1 35 (iX 1 33 34),lF 36 1 35,o1 37 (nX 36),o1 38 (mI 0)]) (.block 2 (.loop EJ))) Km)
def EL:au:=(sq (rF [o1 19 (aX .lss 18 17)]) (sq (cn 19 .skip (.exit 0)) (sq (.block 1 (sq (rF [m1 20 18,o1 21 (iX 1 16 18),lF 22 1 21,m1 6 20,m1 7 22]) (sq (rF [m1 23 7,o1 24 (nX
  23),m1 25 1,m1 26 5,o1 27 (iX 1 25 26),lF 28 1 27,o1 29 (nX 28),o1 30 (aX .lss 24 29)]) (cn 30 (rF [m1 31 6,m1 5 31]) .skip)))) (rF [o1 32 (aK .add 18 1),m1 18 32]))))
def Px:au:=(sq (rF [o1 4 (mB false)]) (sq (sq (rF [m1 13 1,o1 14 (nX 13),o1 15 (aK .eql 14 0)]) (cn 15 (sq (rF [o1 4 (mB true)]) .ret) .skip)) (sq (rF [o1 5 (mI 0)]) (sq (sq (rF [m1 16
  1,o1 17 (nX 16),o1 18 (mI 0)]) (.block 0 (.loop EL))) PA))))
abbrev arG:List K:=[.blk 4,.c Pz,.blk 3,.c Py,.lp EJ,.blk 2,.c Km]
abbrev arF:List K:=[.blk 2,.c Km]
abbrev arH:List K:=[.blk 0,.c PA]
abbrev Qx:=aR [(.tmp 4)] false
def Bs:aE:=.code 2 64 Px [(.tmp 4)] false
-- 100
def PU:au:=(sq (rF [o1 4 (mI (-1))]) .ret)
def Kx:au:=(sq (rF [o1 9 (aX .lss 8 7)]) (sq (cn 9 .skip (.exit 0)) (sq (.block 1 (sq (rF [m1 10 8,m1 5 10]) (sq (rF [m1 11 1,m1 12 0,m1 13 5,o1 14 (iX 1 12 13),lF 15 1 14,
  o1 16 (aX .eql 11 15)]) (cn 16 (sq (rF [m1 17 5,m1 4 17]) .ret) .skip)))) (rF [o1 18 (aK .add 8 1),m1 8 18]))))
def WO:au:=(sq (rF [o1 4 (mI 0)]) (sq (sq (rF [m1 6 0,o1 7 (nX 6),o1 8 (mI 0)]) (.block 0 (.loop Kx))) PU))
abbrev arT:List K:=[.blk 0,.c PU]
abbrev ajp:=aR [(.tmp 4)] false
def Gu:aE:=.code 2 19 WO [(.tmp 4)] false
-- 101
def PH:au:=(sq (rF [o1 2 (.move (.const (.slice .aA 0 [])))]) (sq (sq (rF [m1 3 0,o1 4 (.eqv false .slice (t1 3) (.const (.slice .aA 0 [])))]) (cn 4 (sq (rF [o1 2
  (.move (.const (.slice .aA 0 [])))]) .ret) .skip)) (sq (rF [o1 5 (.buildSlice 3 [] []),m1 6 0,o1 7 (.append 3 (t1 5) (t1 6)),m1 2 7]) .ret)))
abbrev aAy:=aR [(.tmp 2)] true
def Bu:aE:=.code 1 8 PH [(.tmp 2)] true
-- 102
def Ph:au:=(sq (rF [o1 2 (mI 0)]) .ret)
def Ke:au:=(sq (rF [o1 8 (aX .lss 7 6)]) (sq (cn 8 .skip (.exit 0)) (sq (.block 1 (sq (rF [o1 9 (iX 1 5 7),lF 10 1 9,m1 4 10]) (sq (rF [m1 11 4,o1 12 (aK .neq 11 0)]) (cn 12 (sq
  (rF [m1 13 4,m1 2 13]) .ret) .skip)))) (rF [o1 14 (aK .add 7 1),m1 7 14]))))
def V5:au:=(sq (rF [o1 2 (mI 0)]) (sq (sq (rF [m1 5 0,o1 6 (nX 5),o1 7 (mI 0)]) (.block 0 (.loop Ke))) Ph))
abbrev arq:List K:=[.blk 0,.c Ph]
abbrev aje:=aR [(.tmp 2)] false
def FJ:aE:=.code 1 15 V5 [(.tmp 2)] false
-- 103
def Pg:au:=(sq (rF [m1 53 7,m1 4 53]) .ret)
def Kd:au:=(sq (rF [o1 43 (aX .lss 42 41)]) (sq (cn 43 .skip (.exit 0)) (sq (.block 1 (sq (rF [o1 44 (iX 2 40 42),lT 45 2 44,o1 9 (.alloc [.v (.int .i64 0),.v (.int .i64 0)]),
  sT 2 9 45]) (rF [m1 46 7,lT 47 3 2,lT 48 2 9,o1 49 (cF 147 [t1 47,t1 48]),o1 50 (.buildSlice 1 [[.v (.int .i64 0)],[.v (.int .i64 0)]] [(0,(t1 46)),(1,(t1 49))]),o1 51 (cF 102 [t1 50]),m1
  7 51]))) (rF [o1 52 (aK .add 42 1),m1 42 52]))))
def V2 : au := (sq (rF [o1 2 (.box 3 (t1 0)), o1 4 (mI 0)]) (sq (rF [fA 10 1 2, lF 11 1 10, m1 12 1, o1 13 (iX 3 11 12), lT 14 3 13, o1 5 (.alloc [.v (.string ⟨#[]⟩), .v (.int .i64 0),
  .slice .aA 0 []]),sT 3 5 14]) (sq (rF [fA 15 1 2,lF 16 1 15,m1 17 1,o1 18 (.slice (.sl 3) (t1 16) none (some (t1 17)) none),o1 19 (.mC 145 [] [t1 5]),o1 20 (cF 144 [t1 18,t1 19]),m1 6
  20]) (sq (rT [fA 21 0 5,lF 22 1 21,o1 23 (.call true 146 [t1 22]),o1 24 (.call true 61 [t1 23,i1 4]),m1 25 6,o1 26 (uX 25),o1 27 (.call true 61 [t1 26,i1 5]),fA 28 1 5,lF 29 1 28,o1 30
  (.call true 40 [t1 29,i1 0,i1 50]),o1 31 (.call true 61 [t1 30,i1 2]),fA 32 2 5,lF 33 1 32,o1 34 (nX 33),o1 35 (aK .leq 34 6),o1 36 (cF 61 [t1 35,i1 8]),o1 37 (.buildSlice 1 [[.v (.int
  .i64 0)],[.v (.int .i64 0)],[.v (.int .i64 0)],[.v (.int .i64 0)]] [(0,(t1 24)),(1,(t1 27)),(2,(t1 31)),(3,(t1 36))]),o1 38 (cF 102 [t1 37]),m1 7 38]) (sq (sq (rF [fA 39 2 5,lF 40 1 39,
  o1 41 (nX 40),o1 42 (mI 0)]) (.block 0 (.loop Kd))) Pg)))))
abbrev arp:List K:=[.blk 0,.c Pg]
abbrev ajd:=aR [(.tmp 4)] false
def FG:aE:=.code 2 54 V2 [(.tmp 4)] false
-- 104
def Ps:au:=(sq (rF [m1 71 5,fA 72 6 3,lF 73 1 72,fA 74 5 3,lF 75 1 74,o1 76 (nX 75),o1 77 (cF 40 [t1 73,i1 1,t1 76]),o1 78 (cF 61 [t1 77,i1 2]),o1 79 (.buildSlice 1
  [[.v (.int .i64 0)],[.v (.int .i64 0)]] [(0,(t1 71)),(1,(t1 78))]),o1 80 (cF 102 [t1 79]),m1 4 80]) .ret)
def Ki:au:=(sq (rF [o1 52 (aX .lss 51 50)]) (sq (cn 52 .skip (.exit 0)) (sq (.block 1 (sq (rF [o1 53 (iX 1 49 51),lF 54 1 53,m1 9 54]) (sq (rF [m1 55 5,m1 56 9,fA 57 1 2,lF
  58 1 57,o1 59 (nX 58),o1 60 (aK .sub 59 1),o1 61 (cF 40 [t1 56,i1 0,t1 60]),o1 62 (cF 61 [t1 61,i1 6]),m1 63 9,m1 64 7,o1 65 (aX .gtr 63 64),o1 66 (cF 61 [t1 65,i1 9]),o1 67
  (.buildSlice 1 [[.v (.int .i64 0)],[.v (.int .i64 0)],[.v (.int .i64 0)]] [(0,(t1 55)),(1,(t1 62)),(2,(t1 66))]),o1 68 (cF 102 [t1 67]),m1 5 68]) (rF [m1 69 9,m1 7 69])))) (rF [o1 70 (aK
  .add 51 1),m1 51 70]))))
def Wc:au:=(sq (rF [o1 2 (.box 3 (t1 0)),o1 3 (.box 7 (t1 1)),o1 4 (mI 0)]) (sq (rT [fA 10 0 3,lF 11 1 10,o1 12 (.call true 146 [t1 11]),o1 13 (.call true 61 [t1 12,i1 4]),lT
  14 3 2,fA 15 1 3,lT 16 2 15,o1 17 (cF 147 [t1 14,t1 16]),o1 18 (.buildSlice 1 [[.v (.int .i64 0)],[.v (.int .i64 0)]] [(0,(t1 13)),(1,(t1 17))]),o1 19 (cF 102 [t1 18]),m1 5 19]) (sq (sq
  (rF [m1 20 5,o1 21 (aK .neq 20 0)]) (cn 21 (sq (rF [m1 22 5,m1 4 22]) .ret) .skip)) (sq (rF [fA 23 3 3,lF 24 1 23,fA 25 1 3,fA 26 1 25,lF 27 1 26,fA 28 1 3,fA 29 0 28,lF 30 1 29,o1 31 (aX
  .sub 27 30),o1 32 (aK .add 31 1),o1 33 (cF 40 [t1 24,i1 1,t1 32]),m1 34 33,gT 35 34 (fX 4 3),gT 36 34 (lX 1 35),gT 37 34 (cF 40 [t1 36,i1 0,i1 100000]),o1 38 (pA 34 37),m1 6 38]) (sq (rT
  [m1 39 6,o1 40 (.call true 61 [t1 39,i1 2]),fA 41 5 3,lF 42 1 41,o1 43 (nX 42),o1 44 (aK .gtr 43 0),o1 45 (cF 61 [t1 44,i1 10]),o1 46 (.buildSlice 1 [[.v (.int .i64 0)],[.v (.int .i64 0)]]
  [(0,(t1 40)),(1,(t1 45))]),o1 47 (cF 102 [t1 46]),m1 5 47]) (sq (rF [o1 7 (mI (-1))]) (sq (sq (rF [fA 48 5 3,lF 49 1 48,o1 50 (nX 49),o1 51 (mI 0)]) (.block 0 (.loop Ki)))
  Ps)))))))
abbrev ary:List K:=[.blk 0,.c Ps]
abbrev ajg:=aR [(.tmp 4)] false
def FU:aE:=.code 2 81 Wc [(.tmp 4)] false
-- 105
def KC:au:=(rF [m1 15 8,o1 16 (aK .add 15 1),m1 8 16])
def ER:au:=(sq (sq (rT [m1 18 9,m1 19 1,o1 20 (aX .gtr 18 19),m1 21 20,gT 22 21 (mX 3),gT 23 21 (mX 0),gT 24 21 (mX 9),gT 25 21 (iX 1 23 24),gT 26 21 (lX 1
  25),gT 27 21 (mX 0),gT 28 21 (mX 9),gT 29 21 (aK .sub 28 1),gT 30 21 (iX 1 27 29),gT 31 21 (lX 1 30),gT 32 21 (.gW false (t1 22) [t1 26,t1 31]),gT 33 21 (aK .lss 32 0),o1 34 (pA 21 33)])
  (cn 34 .skip (.exit 2))) (sq (.block 3 (rT [m1 37 0,m1 38 9,m1 39 0,m1 40 9,o1 41 (aK .sub 40 1),m1 42 0,m1 43 9,o1 44 (aK .sub 43 1),o1 45 (iX 1 42 44),lF 46 1 45,m1 47 0,m1 48 9,o1 49
  (iX 1 47 48),lF 50 1 49,o1 51 (iX 1 37 38),sT 1 51 46,o1 52 (iX 1 39 41),sT 1 52 50])) (rF [m1 35 9,o1 36 (aK .sub 35 1),m1 9 36])))
def yL:au:=(sq (sq (rF [m1 12 8,m1 13 2,o1 14 (aX .lss 12 13)]) (cn 14 .skip (.exit 0))) (sq (.block 1 (sq (rF [m1 17 8,m1 9 17]) (.block 2 (.loop
  ER)))) KC))
def KB:au:=(sq (rF [m1 10 1,o1 11 (aK .add 10 1),m1 8 11]) (.block 0 (.loop yL)))
abbrev arY:List K:=[.blk 2,.blk 1,.c KC,.lp yL,.blk 0]
abbrev arX:List K:=[.blk 0]
abbrev Yg:=aR [] false
def yV:aE:=.code 4 53 KB [] false
-- 107
def PJ:au:=(sq (rF [o1 4 (mB false)]) (sq (rF [m1 5 0,m1 6 1,o1 7 (cF 142 [t1 5,t1 6]),o1 8 (aK .geq 7 0),m1 4 8]) .ret))
abbrev aAC:=aR [(.tmp 4)] false
def Bv:aE:=.code 2 9 PJ [(.tmp 4)] false
-- 108
def Ws:au:=(sq (rF [o1 3 (.box 3 (t1 0)),o1 4 (mB false)]) (sq (rF [lF 5 1 1,lT 6 3 3,lT 7 3 2,o1 8 (cF 109 [t1 5,t1 6,t1 7]),m1 4 8]) .ret))
abbrev aAt:=aR [(.tmp 4)] false
def F7:aE:=.code 3 9 Ws [(.tmp 4)] false
-- 109
def Wq:au:=(sq (rF [o1 3 (.box 1 (t1 0)),o1 4 (.box 3 (t1 1)),o1 5 (.box 3 (t1 2)),o1 6 (mB false)]) (sq (sq (rF [fA 8 0 4,lF 9 1 8,fA 10 0 5,lF 11 1 10,o1 12 (aX .eql 9 11)])
  (cn 12 (sq (rF [o1 6 (mB true)]) .ret) .skip)) (sq (sq (rF [fA 13 1 5,lF 14 1 13,fA 15 1 4,lF 16 1 15,o1 17 (aX .lss 14 16)]) (cn 17 (rF [lT 18 3 5,lT 19 3 4,sT 3 4 18,sT 3 5 19]) .skip)) (sq
  (rT [lF 20 1 3,o1 21 (.nilCheck (t1 20)),fA 22 0 21,fA 23 2 22,lF 24 1 23,fA 25 0 4,lF 26 1 25,o1 27 (iX 7 24 26),fA 28 0 27,lF 29 1 28,lF 30 1 3,o1 31 (.nilCheck (t1 30)),fA 32 0 31,fA
  33 2 32,lF 34 1 33,fA 35 0 5,lF 36 1 35,o1 37 (iX 7 34 36),fA 38 0 37,lF 39 1 38,o1 40 (aX .eql 29 39),o1 7 (.alloc [.v (.bool false)]),sT 1 7 40]) (sq (rF [fA 41 2 4,lF 42 1 41,o1 43
  (.mC 150 [] [t1 3,t1 7,t1 5,t1 4]),o1 44 (cF 149 [t1 42,t1 43]),m1 6 44]) .ret)))))
abbrev aAq:=aR [(.tmp 6)] false
def F5:aE:=.code 3 45 Wq [(.tmp 6)] false
-- 110
def KA:au:=(rF [m1 15 8,o1 16 (aK .add 15 1),m1 8 16])
def EP:au:=(sq (sq (rT [m1 18 9,m1 19 1,o1 20 (aX .gtr 18 19),m1 21 20,gT 22 21 (mX 3),gT 23 21 (mX 0),gT 24 21 (mX 9),gT 25 21 (iX 3 23 24),gT 26
  21 (lY 3 25),gT 27 21 (mX 0),gT 28 21 (mX 9),gT 29 21 (aK .sub 28 1),gT 30 21 (iX 3 27 29),gT 31 21 (lY 3 30),gT 32 21 (.gW false (t1 22) [t1 26,t1 31]),gT 33 21 (aK .lss 32 0),o1 34 (pA
  21 33)]) (cn 34 .skip (.exit 2))) (sq (.block 3 (rT [m1 37 0,m1 38 9,m1 39 0,m1 40 9,o1 41 (aK .sub 40 1),m1 42 0,m1 43 9,o1 44 (aK .sub 43 1),o1 45 (iX 3 42 44),lT 46 3 45,m1 47 0,m1 48
  9,o1 49 (iX 3 47 48),lT 50 3 49,o1 51 (iX 3 37 38),sT 3 51 46,o1 52 (iX 3 39 41),sT 3 52 50])) (rF [m1 35 9,o1 36 (aK .sub 35 1),m1 9 36])))
def yK:au:=(sq (sq (rF [m1 12 8,m1 13 2,o1 14 (aX .lss 12 13)]) (cn 14 .skip (.exit 0))) (sq (.block 1 (sq (rF [m1 17 8,m1 9 17]) (.block 2 (.loop
  EP)))) KA))
def Kz:au:=(sq (rF [m1 10 1,o1 11 (aK .add 10 1),m1 8 11]) (.block 0 (.loop yK)))
abbrev arW:List K:=[.blk 2,.blk 1,.c KA,.lp yK,.blk 0]
abbrev arV:List K:=[.blk 0]
abbrev Yf:=aR [] false
def yU:aE:=.code 4 53 Kz [] false
-- 119
def VJ:au:=(sq (rF [o1 2 (mI 0)]) (sq (sq (rF [m1 3 0,o1 4 (.arith .geq (t1 3) (.const (.v (.int .u64 4294967296))))]) (cn 4 (sq (rF [m1 5 0,o1 6 (.arith .shr (t1 5) (.const
  (.v (.int .u64 32)))),m1 0 6]) (rF [o1 2 (mI 32)])) .skip)) (sq (sq (rF [m1 7 0,o1 8 (.arith .geq (t1 7) (.const (.v (.int .u64 65536))))]) (cn 8 (sq (rF [m1 9 0,o1 10 (.arith .shr (t1 9) (.const
  (.v (.int .u64 16)))),m1 0 10]) (rF [m1 11 2,o1 12 (aK .add 11 16),m1 2 12])) .skip)) (sq (sq (rF [m1 13 0,o1 14 (.arith .geq (t1 13) (.const (.v (.int .u64 256))))]) (cn 14 (sq (rF [m1 15 0,o1
  16 (.arith .shr (t1 15) (.const (.v (.int .u64 8)))),m1 0 16]) (rF [m1 17 2,o1 18 (aK .add 17 8),m1 2 18])) .skip)) (sq (rF [m1 19 2,m1 20 0,o1 21 (.conv (.int .u8) (t1 20)),o1 22 (.CS
  (.const (.v (.string ⟨#[0, 1, 2, 2, 3, 3, 3, 3, 4, 4, 4, 4, 4, 4, 4, 4, 5, 5, 5, 5, 5, 5, 5, 5, 5, 5, 5, 5, 5, 5, 5, 5, 6, 6, 6, 6, 6, 6, 6, 6, 6, 6, 6, 6, 6, 6, 6, 6, 6, 6, 6, 6, 6, 6, 6, 6, 6, 6,
  6,6,6,6,6,6,7,7,7,7,7,7,7,7,7,7,7,7,7,7,7,7,7,7,7,7,7,7,7,7,7,7,7,7,7,7,7,7,7,7,7,7,7,7,7,7,7,7,7,7,7,7,7,7,7,7,7,7,7,7,7,7,7,7,7,7,
  7,7,7,7,8,8,8,8,8,8,8,8,8,8,8,8,8,8,8,8,8,8,8,8,8,8,8,8,8,8,8,8,8,8,8,8,8,8,8,8,8,8,8,8,8,8,8,8,8,8,8,8,8,8,8,8,8,8,8,8,8,8,8,8,8,8,
  8,8,8,8,8,8,8,8,8,8,8,8,8,8,8,8,8,8,8,8,8,8,8,8,8,8,8,8,8,8,8,8,8,8,8,8,8,8,8,8,8,8,8,8,8,8,8,8,8,8,8,8,8,8,8,8,8,8,8,8,8,8,8,8,8,
  8]⟩))) (t1 21)),o1 23 (.conv (.int .i64) (t1 22)),o1 24 (aX .add 19 23),m1 2 24]) .ret)))))
abbrev azW:=aR [(.tmp 2)] false
def Ff:aE:=.code 1 25 VJ [(.tmp 2)] false
-- 120
def agb:au:=(sq (rF [o1 4 (mI 0)]) (sq (rF [m1 7 0,o1 8 (cF 156 [t1 7]),m1 5 8]) (sq (rF [m1 9 1,o1 10 (cF 156 [t1 9]),m1 6 10]) (sq (sq (rF [m1 11 5]) (cn 11 (sq (sq (rF [m1
  12 6]) (cn 12 (sq (rF [o1 4 (mI 0)]) .ret) .skip)) (sq (rF [o1 4 (mI (-1))]) .ret)) .skip)) (sq (sq (rF [m1 13 6]) (cn 13 (sq (rF [o1 4 (mI 1)]) .ret) .skip)) (sq (sq (rF [m1 14 0,m1 15 1,o1 16
  (aX .lss 14 15)]) (cn 16 (sq (rF [o1 4 (mI (-1))]) .ret) .skip)) (sq (sq (rF [m1 17 0,m1 18 1,o1 19 (aX .gtr 17 18)]) (cn 19 (sq (rF [o1 4 (mI 1)]) .ret) .skip)) (sq (rF [o1 4 (mI 0)])
  .ret))))))))
abbrev azR:=aR [(.tmp 4)] false
def KN:aE:=.code 2 20 agb [(.tmp 4)] false
-- 121
def V7:au:=(sq (rF [o1 3 (.box 1 (t1 0))]) (sq (rF [o1 4 (.alloc [.v .nilFunc])]) (sq (rF [o1 5 (.mC 122 [] [t1 1,t1 3,t1 4]),sT 1 4 5]) (rF [lF 6 1 4,lF 7 1 2,o1 8 (.gW
  false (t1 6) [.const (.slice .aA 0 []),t1 7])]))))
abbrev aAa:=aR [] false
def FL:aE:=.code 3 9 V7 [] false
-- 122
def Kf:au:=(sq (rF [o1 7 (mB true)]) .ret)
def Ex:au:=(sq (rF [o1 21 (aX .lss 20 19)]) (sq (cn 21 .skip (.exit 0)) (sq (.block 1 (sq (rF [m1 22 20,o1 23 (iX 1 18 20),lF 24 1 23,m1 8 22,m1 9 24]) (sq (rT [lF 25 1 4,m1
  26 0,m1 27 0,o1 28 (nX 27),m1 29 0,o1 30 (nX 29),o1 31 (.slice (.sl 1) (t1 26) none (some (t1 28)) (some (t1 30))),m1 32 9,o1 33 (.buildSlice 1 [[.v (.int .i64 0)]] [(0,(t1 32))]),o1 34
  (.append 1 (t1 31) (t1 33)),m1 35 1,m1 36 8,o1 37 (aK .add 36 1),o1 38 (.slice (.sl 1) (t1 35) (some (t1 37)) none none),o1 39 (.gW false (t1 25) [t1 34,t1 38]),o1 40 (uX 39)]) (cn 40 (sq
  (rF [o1 7 (mB false)]) .ret) .skip)))) (rF [o1 41 (aK .add 20 1),m1 20 41]))))
def Ew:au:=(sq (rF [o1 7 (mB false)]) (sq (sq (rF [m1 10 0,o1 11 (nX 10),lF 12 1 2,o1 13 (aX .eql 11 12)]) (cn 13 (sq (rT [lF 14 1 3,m1 15 0,o1 16 (.call true 123 [t1 15]),o1
  17 (.gW false (t1 14) [t1 16]),m1 7 17]) .ret) .skip)) (sq (sq (rF [m1 18 1,o1 19 (nX 18),o1 20 (mI 0)]) (.block 0 (.loop Ex))) Kf)))
abbrev aru:List K:=[.blk 0,.c Kf]
abbrev ajf:=aR [(.tmp 7)] false
def xh:aE:=.code 5 42 Ew [(.tmp 7)] false
-- 123
def PI:au:=(sq (rF [o1 2 (.move (.const (.slice .aA 0 [])))]) (sq (sq (rF [m1 3 0,o1 4 (.eqv false .slice (t1 3) (.const (.slice .aA 0 [])))]) (cn 4 (sq (rF [o1 2 (.move (.const
  (.slice .aA 0 [])))]) .ret) .skip)) (sq (rF [o1 5 (.buildSlice 1 [] []),m1 6 0,o1 7 (.append 1 (t1 5) (t1 6)),m1 2 7]) .ret)))
abbrev aAz:=aR [(.tmp 2)] true
def Gi:aE:=.code 1 8 PI [(.tmp 2)] true
-- 124
def agd:au:=(sq (rF [o1 4 (.move (.const (.v (.int .u32 0)))),o1 5 (.move (.const (.v (.int .u32 0))))]) (sq (rF [m1 7 0,o1 8 (.conv (.int .u64) (t1 7)),m1 9 1,o1 10 (.conv
  (.int .u64) (t1 9)),o1 11 (aX .mul 8 10),m1 6 11]) (sq (rF [m1 12 6,o1 13 (.arith .shr (t1 12) (.const (.v (.int .u64 32)))),o1 14 (.conv (.int .u32) (t1 13)),m1 15 6,o1 16 (.conv (.int .u32)
  (t1 15)),m1 4 14,m1 5 16]) .ret)))
abbrev azY:=aR [(.tmp 4),(.tmp 5)] false
def KP:aE:=.code 2 17 agd [(.tmp 4),(.tmp 5)] false
-- 125
def VM:au:=(sq (rF [o1 4 (.move (.const (.v (.int .u64 0)))),o1 5 (.move (.const (.v (.int .u64 0))))]) (sq (rF [m1 14 0,o1 15 (.arith .and (t1 14) (.const (.v (.int .u64
  4294967295)))),m1 6 15]) (sq (rF [m1 16 0,o1 17 (.arith .shr (t1 16) (.const (.v (.int .u64 32)))),m1 7 17]) (sq (rF [m1 18 1,o1 19 (.arith .and (t1 18) (.const (.v (.int .u64 4294967295)))),m1
  8 19]) (sq (rF [m1 20 1,o1 21 (.arith .shr (t1 20) (.const (.v (.int .u64 32)))),m1 9 21]) (sq (rF [m1 22 6,m1 23 8,o1 24 (aX .mul 22 23),m1 10 24]) (sq (rF [m1 25 7,m1 26 8,o1 27 (aX .mul 25
  26),m1 28 10,o1 29 (.arith .shr (t1 28) (.const (.v (.int .u64 32)))),o1 30 (aX .add 27 29),m1 11 30]) (sq (rF [m1 31 11,o1 32 (.arith .and (t1 31) (.const (.v (.int .u64 4294967295)))),m1 12
  32]) (sq (rF [m1 33 11,o1 34 (.arith .shr (t1 33) (.const (.v (.int .u64 32)))),m1 13 34]) (sq (rF [m1 35 12,m1 36 6,m1 37 9,o1 38 (aX .mul 36 37),o1 39 (aX .add 35 38),m1 12 39]) (sq (rF [m1
  40 7,m1 41 9,o1 42 (aX .mul 40 41),m1 43 13,o1 44 (aX .add 42 43),m1 45 12,o1 46 (.arith .shr (t1 45) (.const (.v (.int .u64 32)))),o1 47 (aX .add 44 46),m1 4 47]) (sq (rF [m1 48 0,m1 49 1,
  o1 50 (aX .mul 48 49),m1 5 50]) .ret))))))))))))
abbrev azZ:=aR [(.tmp 4),(.tmp 5)] false
def Fh:aE:=.code 2 51 VM [(.tmp 4),(.tmp 5)] false
-- 126
def OG:au:=(sq (rF [o1 6 (mB false)]) .ret)
def w5:au:=(sq (sq (rF [m1 43 10,fA 44 2 4,lF 45 1 44,o1 46 (nX 45),o1 47 (aX .lss 43 46)]) (cn 47 .skip (.exit 0))) (sq (.block 1 (sq (rT [fA 50 2 5,lF 51 1 50,fA 52 2 4,lF
  53 1 52,m1 54 10,o1 55 (iX 1 53 54),lF 56 1 55,o1 57 (cF 22 [t1 51,t1 56]),m1 58 57,gT 59 58 (mX 9),gT 60 58 (aK .lss 59 0),gT 61 58 (mX 60),gF 62 61 (fX 0 7),gF 63 61 (lX 1 62),gF 64 61
  (fX 0 8),gF 65 61 (lX 1 64),gF 66 61 (aX .neq 63 65),gF 67 61 (mX 66),gT 68 67 (mX 9),gT 69 67 (fX 1 3),gT 70 67 (lX 1 69),gT 71 67 (fX 2 4),gT 72 67 (lX 1 71),gT 73 67 (mX 10),gT 74 67
  (iX 1 72 73),gT 75 67 (lX 1 74),gT 76 67 (iX 3 70 75),gT 77 67 (fX 1 76),gT 78 67 (lX 1 77),gT 79 67 (aX .lss 68 78),gF 80 61 (pA 67 79),gT 81 58 (pB 61 80),o1 82 (pA 58 81)]) (cn 82 (sq (rF
  [o1 6 (mB true)]) .ret) .skip))) (rF [m1 48 10,o1 49 (aK .add 48 1),m1 10 49])))
def JE:au:=(sq (rF [o1 3 (.box 3 (t1 0)),o1 4 (.box 3 (t1 1)),o1 5 (.box 3 (t1 2)),o1 6 (mB false)]) (sq (sq (rF [fA 11 0 4,lF 12 1 11,fA 13 0 5,lF 14 1 13,o1 15 (aX .eql 12
  14)]) (cn 15 (sq (rF [o1 6 (mB true)]) .ret) .skip)) (sq (sq (rF [fA 16 1 4,lF 17 1 16,fA 18 1 5,lF 19 1 18,o1 20 (aX .gtr 17 19)]) (cn 20 (rF [lT 21 3 5,lT 22 3 4,sT 3 4 21,sT 3 5 22])
  .skip)) (sq (sq (rF [⟨none,none,(.l5 2)⟩]) (rT [fA 23 2 3,o1 24 (.fW 2 false 1 (t1 23)),fA 25 0 4,o1 26 (.fW 2 false 1 (t1 25)),o1 27 (iX 7 24 26),o1 28 (.fW 2 true 7 (t1 27)),
  fA 29 2 3, o1 30 (.fW 2 false 1 (t1 29)), fA 31 0 5, o1 32 (.fW 2 false 1 (t1 31)), o1 33 (iX 7 30 32), o1 34 (.fW 2 true 7 (t1 33)), o1 7 (.slot 2 [.v (.string ⟨#[]⟩), .v (.int .i64 0), .v
  (.int .i64 0), .v (.int .i64 0), .v (.int .i64 0), .slice .aA 0 [], .v (.int .i64 0)]), o1 8 (.slot 1 [.v (.string ⟨#[]⟩), .v (.int .i64 0), .v (.int .i64 0), .v (.int .i64 0), .v (.int .i64 0),
  .slice .aA 0 [],.v (.int .i64 0)]),⟨none,none,(.fill 2 7 (t1 7) (t1 28))⟩,⟨none,none,(.fill 1 7 (t1 8) (t1 34))⟩])) (sq (rF [fA 35 1 5,lF 36 1 35,fA 37 1 4,lF 38 1 37,o1 39 (aX .sub 36
  38),fA 40 3 7,lF 41 1 40,o1 42 (aX .sub 39 41),m1 9 42]) (sq (sq (rF [o1 10 (mI 0)]) (.block 0 (.loop w5))) OG))))))
abbrev aqP:List K:=[.blk 0,.c OG]
abbrev ai3:=aR [(.tmp 6)] false
def Fk:aE:=.code 3 83 JE [(.tmp 6)] false
-- 127
def Kj:au:=(rF [m1 49 0,lF 50 1 2,o1 51 (.gW false (t1 49) [t1 50])])
def tI:au:=(.block 3 (sq (rF [lF 29 1 2,lF 30 1 1,o1 31 (cF 129 [t1 29,t1 30]),m1 7 31]) (sq (sq (rF [m1 32 7,o1 33 (aK .lss 32 0)]) (cn 33 (.exit 2) .skip)) (sq (rF
  [lF 34 1 2,m1 35 7,lF 36 1 3,o1 37 (aX .add 35 36),o1 38 (.slice .str (t1 34) none (some (t1 37)) none),m1 8 38]) (sq (sq (rF [m1 39 0,m1 40 8,o1 41 (.gW false (t1 39) [t1 40]),o1 42 (uX
  41)]) (cn 42 .ret .skip)) (rF [lF 43 1 2,m1 44 7,lF 45 1 1,o1 46 (.len true (t1 45)),o1 47 (aX .add 44 46),o1 48 (.slice .str (t1 43) (some (t1 47)) none none),sT 1 2 48]))))))
def Pt:au:=(sq (.block 2 (.loop tI)) Kj)
def Wm:au:=.ret
def age:au:=(sq (sq (rF [lF 12 1 2,o1 13 (.len true (t1 12)),o1 14 (aK .gtr 13 0)]) (cn 14 .skip (.exit 0))) (.block 1 (sq (rF [lF 16 1 2,o1 17 (cF 128 [t1 16]),m1 15
  17,o1 18 (eX 0 15),o1 19 (eX 1 15),m1 5 18,m1 6 19]) (sq (sq (rF [m1 20 0,lF 21 1 2,m1 22 6,o1 23 (.slice .str (t1 21) none (some (t1 22)) none),o1 24 (.gW false (t1 20) [t1 23]),o1 25
  (uX 24)]) (cn 25 .ret .skip)) (rF [lF 26 1 2,m1 27 6,o1 28 (.slice .str (t1 26) (some (t1 27)) none none),sT 1 2 28])))))
def Wl:au:=(sq (sq (rF [lF 9 1 1,o1 10 (.len true (t1 9)),o1 11 (aK .eql 10 0)]) (cn 11 (sq (.block 0 (.loop age)) Wm) .skip))
  Pt)
abbrev H3:List K:=[.blk 2,.c Kj]
abbrev aBF:List K:=[.blk 0,.c Wm,.c Pt]
abbrev GQ:=aR [] false
def F1:aE:=.code 4 52 Wl [] false
-- 138
def Pv:au:=(sq (rF [o1 4 (mI 0),o1 5 (mI 0)]) .ret)
def EI:au:=(sq (rF [o1 12 (aX .lss 11 10)]) (sq (cn 12 .skip (.exit 0)) (sq (.block 1 (sq (rF [m1 13 11,o1 14 (iX 3 9 11),lT 15 3 14,o1 7 (.alloc [.v (.int .i64 0),.v (.int .i64
  0),.slice .aA 0 []]),m1 6 13,sT 3 7 15]) (sq (rT [m1 16 0,lT 17 3 7,m1 18 1,m1 19 6,o1 20 (.slice (.sl 3) (t1 18) none (some (t1 19)) none),o1 21 (cF 175 [t1 16,t1 17,t1 20]),m1 8 21])
  (sq (rF [m1 22 8,o1 23 (aK .neq 22 0)]) (cn 23 (sq (rF [m1 24 6,m1 25 8,m1 4 24,m1 5 25]) .ret) .skip))))) (rF [o1 26 (aK .add 11 1),m1 11 26]))))
def Wp:au:=(sq (rF [o1 4 (mI 0),o1 5 (mI 0)]) (sq (sq (rF [m1 9 1,o1 10 (nX 9),o1 11 (mI 0)]) (.block 0 (.loop EI))) Pv))
abbrev arE:List K:=[.blk 0,.c Pv]
abbrev ajh:=aR [(.tmp 4),(.tmp 5)] false
def F4:aE:=.code 2 27 Wp [(.tmp 4),(.tmp 5)] false
-- 139
def OY:au:=(sq (rF [o1 4 (mB false)]) .ret)
def Ek:au:=(sq (sq (rF [m1 6 5,fA 7 2 2,lF 8 1 7,o1 9 (nX 8),o1 10 (aX .lss 6 9)]) (cn 10 .skip (.exit 0))) (sq (.block 1 (sq (rT [m1 13 1,fA 14 2 2,lF 15 1 14,m1 16 5,o1 17
  (iX 2 15 16),fA 18 0 17,lF 19 1 18,fA 20 2 2,lF 21 1 20,m1 22 5,o1 23 (iX 2 21 22),fA 24 1 23,lF 25 1 24,o1 26 (cF 21 [t1 13,t1 19,t1 25])]) (cn 26 (sq (rF [o1 4 (mB true)]) .ret)
  .skip))) (rF [m1 11 5,o1 12 (aK .add 11 1),m1 5 12])))
def VV:au:=(sq (rF [o1 2 (.box 3 (t1 0)),o1 4 (mB false)]) (sq (sq (rF [o1 5 (mI 0)]) (.block 0 (.loop Ek))) OY))
abbrev aq5:List K:=[.blk 0,.c OY]
abbrev ai9:=aR [(.tmp 4)] false
def Fv:aE:=.code 2 27 VV [(.tmp 4)] false
-- 140
def Ow:au:=(sq (rF [o1 2 (mB true)]) .ret)
def D2:au:=(sq (sq (rF [m1 14 3,m1 15 0,o1 16 (.len true (t1 15)),o1 17 (aX .lss 14 16)]) (cn 17 .skip (.exit 0))) (sq (.block 1 (sq (rF [m1 20 0,m1 21 3,o1 22 (.CS (t1
  20) (t1 21)),m1 4 22]) (sq (rF [m1 23 4,o1 24 (.arith .geq (t1 23) (.const (.v (.int .u8 97)))),m1 25 24,gT 26 25 (mX 4),gT 27 25 (.arith .leq (t1 26) (.const (.v (.int .u8 122)))),o1 28 (pA
  25 27),m1 29 28,gF 30 29 (mX 4),gF 31 29 (.arith .geq (t1 30) (.const (.v (.int .u8 65)))),gF 32 29 (mX 31),gT 33 32 (mX 4),gT 34 32 (.arith .leq (t1 33) (.const (.v (.int .u8 90)))),gF 35 29
  (pA 32 34),o1 36 (pB 29 35),m1 5 36]) (sq (rF [m1 37 5,o1 38 (uX 37),m1 39 38,gT 40 39 (mX 3),gT 41 39 (aK .eql 40 0),gT 42 39 (mX 41),gF 43 42 (mX 4),gF 44 42 (.arith .neq (t1 43) (.const
  (.v (.int .u8 45)))),gF 45 42 (mX 44),gT 46 45 (mX 4),gT 47 45 (.arith .lss (t1 46) (.const (.v (.int .u8 48)))),gT 48 45 (mX 47),gF 49 48 (mX 4),gF 50 48 (.arith .gtr (t1 49) (.const (.v
  (.int .u8 57)))),gT 51 45 (pB 48 50),gF 52 42 (pA 45 51),gT 53 39 (pB 42 52),o1 54 (pA 39 53)]) (cn 54 (sq (rF [o1 2 (mB false)]) .ret) .skip))))) (rF [m1 18 3,o1 19 (aK .add 18 1),m1 3 19])))
def VB:au:=(sq (rF [o1 2 (mB false)]) (sq (sq (rF [m1 6 0,o1 7 (.len true (t1 6)),o1 8 (aK .lss 7 1),m1 9 8,gF 10 9 (mX 0),gF 11 9 (.len true (t1 10)),gF 12 9 (aK .gtr 11 12),o1
  13 (pB 9 12)]) (cn 13 (sq (rF [o1 2 (mB false)]) .ret) .skip)) (sq (sq (rF [o1 3 (mI 0)]) (.block 0 (.loop D2))) Ow)))
abbrev aaC:List K:=[.blk 0,.c Ow]
abbrev XW:=aR [(.tmp 2)] false
def E4:aE:=.code 1 55 VB [(.tmp 2)] false
-- 141
def VX:au:=(sq (rF [o1 2 (.box 3 (t1 0)),o1 3 (.box 2 (t1 1)),o1 4 (mI 0)]) (sq (sq (rF [fA 5 0 3,lF 6 1 5,fA 7 0 2,lF 8 1 7,o1 9 (aK .sub 8 1),o1 10 (cF 21 [t1 6,i1 0,t1
  9]),o1 11 (uX 10),m1 12 11,gF 13 12 (fX 1 3),gF 14 12 (lX 1 13),gF 15 12 (fX 0 2),gF 16 12 (lX 1 15),gF 17 12 (aK .sub 16 1),gF 18 12 (cF 21 [t1 14,i1 0,t1 17]),gF 19 12 (uX 18),o1 20
  (pB 12 19)]) (cn 20 (sq (rF [o1 4 (mI 2)]) .ret) .skip)) (sq (sq (rF [fA 21 0 3,lF 22 1 21,fA 23 1 3,lF 24 1 23,o1 25 (aX .gtr 22 24)]) (cn 25 (sq (rF [o1 4 (mI 9)]) .ret) .skip)) (sq (rF [o1 4
  (mI 0)]) .ret))))
abbrev az3:=aR [(.tmp 4)] false
def FA:aE:=.code 2 26 VX [(.tmp 4)] false
-- 142
def Ks:au:=(sq (rF [o1 4 (mI (-1))]) .ret)
def yJ:au:=(sq (rF [o1 9 (aX .lss 8 7)]) (sq (cn 9 .skip (.exit 0)) (sq (.block 1 (sq (rF [m1 10 8,m1 5 10]) (sq (rF [m1 11 1,m1 12 0,m1 13 5,o1 14 (iX 3 12 13),
  lT 15 3 14,o1 16 (.gW false (t1 11) [t1 15])]) (cn 16 (sq (rF [m1 17 5,m1 4 17]) .ret) .skip)))) (rF [o1 18 (aK .add 8 1),m1 8 18]))))
def PO:au:=(sq (rF [o1 4 (mI 0)]) (sq (sq (rF [m1 6 0,o1 7 (nX 6),o1 8 (mI 0)]) (.block 0 (.loop yJ))) Ks))
abbrev aaO:List K:=[.blk 0,.c Ks]
abbrev Yd:=aR [(.tmp 4)] false
def Bx:aE:=.code 2 19 PO [(.tmp 4)] false
-- 143
def Wb:au:=(sq (rF [o1 2 (.box 3 (t1 0)),o1 3 (mB false)]) (sq (rF [fA 4 0 2,lF 5 1 4,lF 6 1 1,o1 7 (aX .eql 5 6),m1 3 7]) .ret))
abbrev aAh:=aR [(.tmp 3)] false
def FT:aE:=.code 2 8 Wb [(.tmp 3)] false
-- 144
def WD:au:=(sq (rF [o1 4 (mB false)]) (sq (rF [m1 5 0,m1 6 1,o1 7 (cF 176 [t1 5,t1 6]),o1 8 (aK .geq 7 0),m1 4 8]) .ret))
abbrev aAB:=aR [(.tmp 4)] false
def Gj:aE:=.code 2 9 WD [(.tmp 4)] false
-- 145
def V3:au:=(sq (rF [o1 2 (.box 3 (t1 0)),o1 3 (mB false)]) (sq (rF [fA 4 0 2,lF 5 1 4,fA 6 0 1,lF 7 1 6,o1 8 (aX .eql 5 7),m1 3 8]) .ret))
abbrev az7:=aR [(.tmp 3)] false
def FH:aE:=.code 2 9 V3 [(.tmp 3)] false
-- 146
def Pj : au := (sq (rF [m1 47 0, o1 48 (.arith .neq (t1 47) (.const (.v (.string ⟨#[]⟩)))), m1 49 48, gT 50 49 (mX 0), gT 51 49 (.len true (t1 50)), gT 52 49 (aK .leq 51 12), o1 53 (pA
  49 52),m1 2 53]) .ret)
def Ey:au:=(sq (rF [o1 10 (aX .lss 9 8)]) (sq (cn 10 .skip (.exit 0)) (sq (.block 1 (sq (rF [m1 11 9,o1 12 (iX 1 7 9),lF 13 1 12,m1 3 11,m1 4 13]) (sq (rF [m1 14 4,o1 15 (.arith
  .geq (t1 14) (.const (.v (.int .u8 97)))),m1 16 15,gT 17 16 (mX 4),gT 18 16 (.arith .leq (t1 17) (.const (.v (.int .u8 122)))),o1 19 (pA 16 18),m1 20 19,gF 21 20 (mX 4),gF 22 20 (.arith .geq
  (t1 21) (.const (.v (.int .u8 65)))),gF 23 20 (mX 22),gT 24 23 (mX 4),gT 25 23 (.arith .leq (t1 24) (.const (.v (.int .u8 90)))),gF 26 20 (pA 23 25),o1 27 (pB 20 26),m1 5 27]) (sq (rF [m1 28
  5,o1 29 (uX 28),m1 30 29,gT 31 30 (mX 3),gT 32 30 (aK .eql 31 0),gT 33 30 (mX 32),gF 34 33 (mX 4),gF 35 33 (.arith .neq (t1 34) (.const (.v (.int .u8 45)))),gF 36 33 (mX 35),gT 37 36 (mX
  4),gT 38 36 (.arith .lss (t1 37) (.const (.v (.int .u8 48)))),gT 39 36 (mX 38),gF 40 39 (mX 4),gF 41 39 (.arith .gtr (t1 40) (.const (.v (.int .u8 57)))),gT 42 36 (pB 39 41),gF 43 33 (pA 36
  42),gT 44 30 (pB 33 43),o1 45 (pA 30 44)]) (cn 45 (sq (rF [o1 2 (mB false)]) .ret) .skip))))) (rF [o1 46 (aK .add 9 1),m1 9 46]))))
def V8:au:=(sq (rF [o1 2 (mB false)]) (sq (sq (rF [m1 6 0,o1 7 (.conv .bytes (t1 6)),o1 8 (nX 7),o1 9 (mI 0)]) (.block 0 (.loop Ey))) Pj))
abbrev aaK:List K:=[.blk 0,.c Pj]
abbrev X8:=aR [(.tmp 2)] false
def FM:aE:=.code 1 54 V8 [(.tmp 2)] false
-- 147
def Wd:au:=(sq (rF [o1 2 (.box 3 (t1 0)),o1 3 (.box 2 (t1 1)),o1 4 (mI 0)]) (sq (rF [o1 6 (.mC 177 [] [t1 2]),m1 5 6]) (sq (rT [m1 7 5,fA 8 0 3,lF 9 1 8,o1 10 (.gW true (t1
  7) [t1 9]),m1 11 10,gT 12 11 (mX 5),gT 13 11 (fX 1 3),gT 14 11 (lX 1 13),gT 15 11 (.gW true (t1 12) [t1 14]),o1 16 (pA 11 15),o1 17 (.call true 61 [t1 16,i1 2]),fA 18 0 3,lF 19 1 18,fA
  20 1 3,lF 21 1 20,o1 22 (aX .leq 19 21),o1 23 (cF 61 [t1 22,i1 9]),o1 24 (.buildSlice 1 [[.v (.int .i64 0)],[.v (.int .i64 0)]] [(0,(t1 17)),(1,(t1 23))]),o1 25 (cF 102 [t1 24]),m1 4 25])
  .ret)))
abbrev aAi:=aR [(.tmp 4)] false
def FV:aE:=.code 2 26 Wd [(.tmp 4)] false
-- 149
def WG:au:=(sq (rF [o1 4 (mB false)]) (sq (rF [m1 5 0,m1 6 1,o1 7 (cF 179 [t1 5,t1 6]),o1 8 (aK .geq 7 0),m1 4 8]) .ret))
abbrev aAE:=aR [(.tmp 4)] false
def Gl:aE:=.code 2 9 WG [(.tmp 4)] false
-- 150
def Wr:au:=(sq (rF [o1 6 (mB false)]) (sq (rF [lF 8 1 1,o1 9 (.nilCheck (t1 8)),fA 10 0 9,fA 11 1 10,lF 12 1 11,m1 13 0,o1 14 (iX 3 12 13),fA 15 1 14,lF 16 1 15,m1 7 16])
  (sq (sq (rF [lF 17 1 2]) (cn 17 (rF [o1 7 (mI 0)]) .skip)) (sq (rT [fA 18 2 3,lF 19 1 18,m1 20 0,o1 21 (cF 65 [t1 19,t1 20]),m1 22 21,gT 23 22 (fX 1 3),gT 24 22 (lX 1 23),gT 25 22 (lX 1 1),
  gT 26 22 (lY 3 4),gT 27 22 (.call true 42 [t1 25,t1 26]),gT 28 22 (aX .sub 24 27),gT 29 22 (mX 7),gT 30 22 (aX .lss 28 29),o1 31 (pA 22 30),m1 6 31]) .ret))))
abbrev aAr:=aR [(.tmp 6)] false
def F6:aE:=.code 5 32 Wr [(.tmp 6)] false
-- 156
def agc:au:=(sq (rF [o1 2 (mB false)]) (sq (rF [m1 3 0,m1 4 0,o1 5 (aX .neq 3 4),m1 2 5]) .ret))
abbrev azS:=aR [(.tmp 2)] false
def KO:aE:=.code 1 6 agc [(.tmp 2)] false
-- 175
def PD:au:=(sq (rT [m1 109 12,o1 110 (uX 109),o1 111 (.call true 61 [t1 110,i1 21]),m1 112 0,lT 113 3 4,m1 114 2,o1 115 (cF 69 [t1 112,t1 113,t1 114]),o1 116 (uX 115),o1
  117 (cF 61 [t1 116,i1 13]),o1 118 (.buildSlice 1 [[.v (.int .i64 0)],[.v (.int .i64 0)]] [(0,(t1 111)),(1,(t1 117))]),o1 119 (cF 102 [t1 118]),m1 6 119]) .ret)
def w9:au:=(sq (rF [o1 79 (aX .lss 78 77)]) (sq (cn 79 .skip (.exit 0)) (sq (.block 1 (sq (rF [o1 80 (iX 1 76 78),lF 81 1 80,m1 14 81]) (sq (sq (rF [fA 82 5 10,lF 83 1 82,m1 84
  14,o1 85 (cF 65 [t1 83,t1 84]),o1 86 (cF 61 [t1 85,i1 6]),m1 87 14,m1 88 7,o1 89 (aX .gtr 87 88),o1 90 (cF 61 [t1 89,i1 9]),o1 91 (.buildSlice 1 [[.v (.int .i64 0)],[.v (.int .i64 0)]]
  [(0,(t1 86)),(1,(t1 90))]),o1 92 (cF 102 [t1 91]),m1 15 92]) (sq (rF [m1 93 15,o1 94 (aK .neq 93 0)]) (cn 94 (sq (rF [m1 95 15,m1 6 95]) .ret) .skip))) (rF [m1 96 14,m1 97 12,m1 98 97,gF
  99 98 (mX 0),gF 100 98 (mX 14),gF 101 98 (fX 1 4),gF 102 98 (lX 1 101),gF 103 98 (fX 3 10),gF 104 98 (lX 1 103),gF 105 98 (cF 75 [t1 99,t1 100,t1 102,t1 104]),gF 106 98 (uX 105),o1 107
  (pB 98 106),m1 7 96,m1 12 107])))) (rF [o1 108 (aK .add 78 1),m1 78 108]))))
def yI:au:=(sq (rF [o1 4 (.box 3 (t1 1)),o1 6 (mI 0)]) (sq (rF [o1 7 (mI (-1))]) (sq (sq (rF [m1 16 2,o1 17 (nX 16),m1 8 17]) (sq (rF [m1 18 8,o1 19 (aK .gtr 18 0)]) (cn 19 (rF [m1
  20 2,m1 21 8,o1 22 (aK .sub 21 1),o1 23 (iX 3 20 22),fA 24 0 23,lF 25 1 24,m1 7 25]) .skip))) (sq (sq (rT [m1 26 0,fA 27 0 4,lF 28 1 27,o1 29 (.call true 190 [t1 26,t1 28]),fA 30 0 4,lF
  31 1 30,m1 32 7,o1 33 (aX .gtr 31 32),o1 34 (cF 61 [t1 33,i1 9]),o1 35 (.buildSlice 1 [[.v (.int .i64 0)],[.v (.int .i64 0)]] [(0,(t1 29)),(1,(t1 34))]),o1 36 (cF 102 [t1 35]),m1 9 36])
  (sq (rF [m1 37 9,o1 38 (aK .neq 37 0)]) (cn 38 (sq (rF [m1 39 9,m1 6 39]) .ret) .skip))) (sq (rT [m1 40 0,o1 41 (.nilCheck (t1 40)),fA 42 0 41,fA 43 2 42,lF 44 1 43,fA 45 0 4,lF 46 1 45,o1
  47 (iX 7 44 46), lT 48 7 47, o1 10 (.alloc [.v (.string ⟨#[]⟩), .v (.int .i64 0), .v (.int .i64 0), .v (.int .i64 0), .v (.int .i64 0), .slice .aA 0 [], .v (.int .i64 0)]), sT 7 10 48]) (sq (rT
  [fA 49 1 4,lF 50 1 49,fA 51 1 10,fA 52 0 51,lF 53 1 52,fA 54 1 10,fA 55 1 54,lF 56 1 55,o1 57 (aK .add 56 1),fA 58 3 10,lF 59 1 58,o1 60 (aX .sub 57 59),o1 61 (.call true 40 [t1 50,t1
  53,t1 60]),o1 62 (.call true 61 [t1 61,i1 2]),fA 63 2 4,lF 64 1 63,o1 65 (nX 64),fA 66 6 10,lF 67 1 66,o1 68 (aX .eql 65 67),o1 69 (cF 61 [t1 68,i1 10]),o1 70 (.buildSlice 1 [[.v (.int
  .i64 0)],[.v (.int .i64 0)]] [(0,(t1 62)),(1,(t1 69))]),o1 71 (cF 102 [t1 70]),m1 11 71]) (sq (sq (rF [m1 72 11,o1 73 (aK .neq 72 0)]) (cn 73 (sq (rF [m1 74 11,m1 6 74]) .ret) .skip)) (sq
  (rF [o1 7 (mI (-1))]) (sq (rF [o1 12 (mB false)]) (sq (sq (rF [fA 75 2 4,lF 76 1 75,o1 77 (nX 76),o1 78 (mI 0)]) (.block 0 (.loop w9))) PD))))))))))
abbrev aaN:List K:=[.blk 0,.c PD]
abbrev Yb:=aR [(.tmp 6)] false
def Gd:aE:=.code 3 120 yI [(.tmp 6)] false
-- 176
def PN:au:=(sq (rF [o1 4 (mI (-1))]) .ret)
def Kr:au:=(sq (rF [o1 9 (aX .lss 8 7)]) (sq (cn 9 .skip (.exit 0)) (sq (.block 1 (sq (rF [m1 10 8,m1 5 10]) (sq (rF [m1 11 1,m1 12 0,m1 13 5,o1 14 (iX 3 12
  13),lT 15 3 14,o1 16 (.gW false (t1 11) [t1 15])]) (cn 16 (sq (rF [m1 17 5,m1 4 17]) .ret) .skip)))) (rF [o1 18 (aK .add 8 1),m1 8 18]))))
def WJ:au:=(sq (rF [o1 4 (mI 0)]) (sq (sq (rF [m1 6 0,o1 7 (nX 6),o1 8 (mI 0)]) (.block 0 (.loop Kr)))
  PN))
abbrev arP:List K:=[.blk 0,.c PN]
abbrev ajl:=aR [(.tmp 4)] false
def Gq:aE:=.code 2 19 WJ [(.tmp 4)] false
-- 177
def Wf:au:=(sq (rF [o1 3 (mB false)]) (sq (rF [m1 4 0,fA 5 0 1,lF 6 1 5,o1 7 (aK .sub 6 1),o1 8 (cF 40 [t1 4,i1 0,t1 7]),m1 3 8]) .ret))
abbrev aAj:=aR [(.tmp 3)] false
def FW:aE:=.code 2 9 Wf [(.tmp 3)] false
-- 179
def PS:au:=(sq (rF [o1 4 (mI (-1))]) .ret)
def Kv:au:=(sq (rF [o1 9 (aX .lss 8 7)]) (sq (cn 9 .skip (.exit 0)) (sq (.block 1 (sq (rF [m1 10 8,m1 5 10]) (sq (rF [m1 11 1,m1 12 0,m1 13 5,o1 14 (iX 1 12 13),lF 15 1
  14,o1 16 (.gW false (t1 11) [t1 15])]) (cn 16 (sq (rF [m1 17 5,m1 4 17]) .ret) .skip)))) (rF [o1 18 (aK .add 8 1),m1 8 18]))))
def WM:au:=(sq (rF [o1 4 (mI 0)]) (sq (sq (rF [m1 6 0,o1 7 (nX 6),o1 8 (mI 0)]) (.block 0 (.loop Kv))) PS))
abbrev arS:List K:=[.blk 0,.c PS]
abbrev ajn:=aR [(.tmp 4)] false
def Gs:aE:=.code 2 19 WM [(.tmp 4)] false
-- 190
def WA:au:=(sq (rF [o1 4 (mI 0)]) (sq (rF [m1 5 1,m1 6 0,o1 7 (.nilCheck (t1 6)),fA 8 0 7,fA 9 2 8,lF 10 1 9,o1 11 (nX 10),o1 12 (aK .sub 11 1),o1 13 (cF 40 [t1 5,i1 0,t1
  12]),o1 14 (cF 61 [t1 13,i1 6]),m1 4 14]) .ret))
abbrev aAx:=aR [(.tmp 4)] false
def Gg:aE:=.code 2 15 WA [(.tmp 4)] false

def rP:List (Option aE):=[none,none,none,some xi,some F2,some yR,some Bi,some Bg,some FB,some Fm,
  some Bm,some xg,some E1,some Bn,some Fo,some Fq,some yS,some Bk,some Fl,some Bh,some
  Bl,some E5,some E3,some Fc,some Fb,some Ft,some Fs,some Bq,some F9,some E6,some E2,some xf,
  some Bo,some BA,some FE,some Bt,some Bz,some FI,some FC,some Gn,some FY,
  some Ge,some F8,some Gc,some FF,some Gv,some Fi,some FZ,some C6,some C9,some yT,some
  Bw,some zW,some C8,some Fw,some Bp,some Gb,some Fp,some Fj,some FP,some
  Gk,some FX,some Fa,some E8,some E7,some Gp,some E9,some FD,some BD,some
  Br,some BB,some Fe,some KQ,some Gt,some Gf,some Ga,some FK,some Fg,
  some Fx,some F0,none,none,some zV,some By,none,none,none,none,some EZ,some FO,some F3,some Bj,some
  Fz,some Fu,some Fy,some Gr,some FN,some FQ,some Gh,some Bs,some Gu,some
  Bu,some FJ,some FG,some FU,some yV,none,some Bv,some F7,some
  F5,some yU,none,none,none,none,none,none,none,none,some Ff,some KN,some FL,some xh,some
  Gi,some KP,some Fh,some Fk,some F1,none,some C7,none,none,none,none,none,none,none,none,some F4,some
  Fv,some E4,some FA,some Bx,some FT,some Gj,some FH,some FM,some FV,
  none,some Gl,some F6,none,none,none,none,none,some KO,none,none,none,none,none,none,none,none,none,none,none,none,none,none,none,
  none,none,none,some Gd,some Gq,some FW,none,some Gs,none,none,none,none,none,none,none,none,none,none,some
  Gg]
def AP:FuncId→Option aE:=fun f=>(rP[f]?).join

end Go.Ax.Sx.Sc
/-
  The data of schedules, and how they look to the executor.
-/
namespace Go.Ax.Sx.Sc
open Go.Ax
abbrev S (s:ByteArray):AV:=.v (.string s)
structure A where
 name:ByteArray
 je:Int
 cl:Sl (Int×Int)
structure R where
 cr:ByteArray
 lo:Int
 hi:Int
 len:Int
 val:Int
 an:Sl Int
 need:Int
structure W where
 bm:Int
 as:Sl A
 rs:Sl R
structure P where
 req:Int
 start:Int
 an:Sl Int
abbrev aC (n:Int):List AV:=[I n]
abbrev dM (p:Int×Int):List AV:=[I p.1,I p.2]
abbrev awP (s:ByteArray):List AV:=[S s]
abbrev bR (a:A):List AV:=[S a.name,I a.je,a.cl.v dM]
abbrev aS (r:R):List AV:=[S r.cr,I r.lo,I r.hi,I r.len,I r.val,r.an.v aC,I r.need]
abbrev aq (p:P):List AV:=[I p.req,I p.start,p.an.v aC]
abbrev aW (w:W):List AV:=[I w.bm,w.as.v bR,w.rs.v aS]
abbrev W.v (w:W):AV:=.agg (aW w)
attribute [go_sem] Sl.v aC dM awP bR aS aq aW W.v
structure W.Ok (w:W):Prop where
 as:w.as.ok 3
 cl:∀a∈w.as.l,a.cl.ok 2
 rs:w.rs.ok 7
 an:∀r∈w.rs.l,r.an.ok 1
structure W.jT (w:W):Prop where
 as:w.as.l.length≤6
 rs:w.rs.l.length≤14
 name:∀a∈w.as.l,a.name.size≤20
 cl:∀a∈w.as.l,a.cl.l.length≤8
 cr:∀r∈w.rs.l,r.cr.size≤20
 an:∀r∈w.rs.l,r.an.l.length≤6
def wi (n lo hi:Int):Bool:=decide (lo≤n)&&decide (n≤hi)
theorem gy {n lo hi:Int}:wi n lo hi=true↔lo≤n∧n≤hi:=by simp[wi]
def eY {α:Type} (p:α→Bool):List α→Int
 |[]=>-1
 |x::r=>if p x then 0 else if eY p r<0 then-1 else eY p r+1
theorem GV {α:Type} (p:α→Bool) (l:List α):(l.any p=false∧eY p l=-1)∨(l.any p=true∧∃(k:Nat) (x:α),l[k]? =some x∧p x=true∧eY p l=(k:Int)∧∀(j:Nat) (y:α),j<k→l[j]? =some y→p y=false):=by
 induction l with
 |nil=>exact .inl ⟨rfl,rfl⟩
 | cons x r ih =>
  cases hx:p x with
  |true=>exact .inr ⟨by simp[hx],0,x,rfl,hx,by simp[eY,hx],fun j y hj=>absurd hj (dH _)⟩
  | false =>
   rcases ih with⟨h1,h2⟩|⟨h1,k,y,h2,h3,h4,h5⟩
   ·exact .inl ⟨by simp only[ke,hx,h1];rfl,by simp[eY,hx,h2]⟩
   ·refine .inr ⟨by simp only[ke,h1,Uf],k+1,y,h2,h3,?_,fun j z hj hz=>?_⟩
    ·simp only[eY,hx,h4,ew,eu]
     rw[ak (by omega)];simp
    ·cases j with
     |zero=>simp at hz;subst hz;exact hx
     |succ j=>exact h5 j z (by omega) hz
theorem vk {α:Type} {p:α→Bool} {l:List α}:decide (0≤eY p l)=l.any p:=by
 rcases GV p l with⟨h1,h2⟩|⟨h1,k,x,_,_,h4,_⟩
 ·rw[h1,h2];rfl
 ·rw[h1,h4];simp
def letter (c:UInt8):Bool:=(decide (97≤c.toNat)&&decide (c.toNat≤122))||(decide (65≤c.toNat)&&decide (c.toNat≤90))
def nameAt (k:Nat) (c:UInt8):Bool:=letter c||(!decide (k=0)&&(decide (c.toNat=45)||(decide (48≤c.toNat)&&decide (c.toNat≤57))))
def rK (k:Nat):List UInt8→Bool
 |[]=>true
 |c::r=>nameAt k c&&rK (k+1) r
def isName (s:ByteArray):Bool:=rK 0 s.data.toList&&decide (1≤s.size)&&decide (s.size≤12)
def j7 (n lo hi:Int):Int:=if wi lo 0 (n-1)&&wi hi 0 (n-1)then(if lo≤hi then 0 else 9)else 2
def sb (n:Int):List (Int×Int)→Int
 |[]=>0
 |p::r=>if j7 n p.1 p.2=0 then sb n r else j7 n p.1 p.2
def lC (n:Int) (as:List A) (k:Nat) (a:A):Int:=
 if isName a.name then
  if(as.take k).any (fun b=>decide (b.name=a.name))then 5 else
  if wi a.je 0 50 then
   if a.cl.l.length≤6 then sb n a.cl.l else 8
  else 2
 else 4
def kT (n:Int) (last:Int):List Int→Int
 |[]=>0
 |a::r=>if wi a 0 (n-1)then(if last<a then kT n a r else 9)else 6
def l4 (n : Int) (m : Nat) (r : R) : Int :=
 if isName r.cr then
  if j7 n r.lo r.hi=0 then
   if wi r.len 1 (r.hi-r.lo+1)&&wi r.val 0 100000 then
    if r.an.l=[]then 10 else
    if kT m (-1) r.an.l=0 then(if wi r.need 1 r.an.l.length then 0 else 2)else kT m (-1) r.an.l
   else 2
  else j7 n r.lo r.hi
 else 4
def fT {α:Type} (f:Nat→α→Int) (k:Nat):List α→Option (Nat×Int)
 |[]=>none
 |x::r=>if f k x=0 then fT f (k+1) r else some (k,f k x)
def cM (w : W) : Int × Int × Int :=
 if wi w.bm 1 200 then
  if w.as.l.length≤4∧w.rs.l.length≤12 then
   match fT (lC w.bm w.as.l) 0 w.as.l with
   |some (k,e)=>(1,k,e)
   |none=>match fT (fun _ r=>l4 w.bm w.as.l.length r) 0 w.rs.l with
    |some (k,e)=>(2,k,e)
    |none=>(0,0,0)
  else(0,0,8)
 else(0,0,2)
end Go.Ax.Sx.Sc
