/- The codes of the functions, as compFn gives them. -/
import Derived.Test.YtolmeamlfkbafaaT9
namespace Go.Ax.Sx.Cm
open Go.Ax
abbrev o1 (d : Nat) (x : AOp) : AOper := ⟨some d, none, x⟩
abbrev t1 (n : Nat) : AOpd := .tmp n
abbrev m1 (d x : Nat) : AOper := ⟨some d, none, .move (.tmp x)⟩
abbrev lF (d n x : Nat) : AOper := ⟨some d, none, .load false n (.tmp x)⟩
abbrev lT (d n x : Nat) : AOper := ⟨some d, none, .load true n (.tmp x)⟩
abbrev fA (d n x : Nat) : AOper := ⟨some d, none, .fieldAddr n (.tmp x)⟩
abbrev gT (d g : Nat) (x : AOp) : AOper := ⟨some d, some (g, true), x⟩
abbrev gF (d g : Nat) (x : AOp) : AOper := ⟨some d, some (g, false), x⟩
abbrev i1 (n : Int) : AOpd := .const (.v (.int .i64 n))
abbrev rF (l : List AOper) : ACode := .region false l
abbrev rT (l : List AOper) : ACode := .region true l
abbrev sq (a b : ACode) : ACode := .seq a b
abbrev cn (n : Nat) (a b : ACode) : ACode := .cond (.tmp n) a b
abbrev bT : AOpd := .const (.v (.bool true))
abbrev bF : AOpd := .const (.v (.bool false))
abbrev mX (x : Nat) : AOp := .move (.tmp x)
abbrev mI (n : Int) : AOp := .move (.const (.v (.int .i64 n)))
abbrev mB (b : Bool) : AOp := .move (.const (.v (.bool b)))
abbrev lX (n x : Nat) : AOp := .load false n (.tmp x)
abbrev lY (n x : Nat) : AOp := .load true n (.tmp x)
abbrev fX (n x : Nat) : AOp := .fieldAddr n (.tmp x)
abbrev iX (n x y : Nat) : AOp := .indexAddr none n (.tmp x) (.tmp y)
abbrev aX (o : BinOp) (x y : Nat) : AOp := .arith o (.tmp x) (.tmp y)
abbrev aK (o : BinOp) (x : Nat) (n : Int) : AOp := .arith o (.tmp x) (.const (.v (.int .i64 n)))
abbrev nX (x : Nat) : AOp := .len false (.tmp x)
abbrev eX (n x : Nat) : AOp := .extract n (.tmp x)
abbrev uX (x : Nat) : AOp := .un .not (.tmp x)
abbrev pA (x y : Nat) : AOp := .pick (.tmp x) (.tmp y) bF
abbrev pB (x y : Nat) : AOp := .pick (.tmp x) bT (.tmp y)
abbrev cF (f : Nat) (l : List AOpd) : AOp := .call false f l
abbrev sT (n x y : Nat) : AOper := ⟨none, none, .store n (.tmp x) (.tmp y)⟩

-- 3
def b_t_TopCommandNeverForbidden_r0 : ACode := (sq (rT [m1 252 22, o1 253 (aK .eql 252 0), m1 254 253, gT 255 254 (fX 2 21), gT 256 254 (lX 1 255), gT 257 254 (nX 256), gT 258 254 (fX 2 5), gT 259 254
  (lX 1 258), gT 260 254 (nX 259), gT 261 254 (aX .geq 257 260), o1 262 (pA 254 261), m1 263 262, gT 264 263 (fX 2 21), gT 265 263 (lX 1 264), gT 266 263 (fX 2 5), gT 267 263 (lX 1 266), gT 268 263
  (nX 267), gT 269 263 (.slice (.sl 2) (t1 265) none (some (t1 268)) none), gT 270 263 (fX 2 5), gT 271 263 (lX 1 270), gT 272 263 (cF 14 [t1 269, t1 271]), o1 273 (pA 263 272), m1 4 273]) .ret)
def b_t_TopCommandNeverForbidden_l0 : ACode := (sq (sq (rF [m1 231 23, m1 232 9, o1 233 (nX 232), o1 234 (aX .lss 231 233)]) (cn 234 .skip (.exit 6))) (sq (.block 7 (sq (sq (rF [⟨none, none, (.reserve
  1)⟩]) (rT [o1 238 (.loadr 1 true 6 (t1 19)), o1 239 (.fcall true [[.v (.int .i64 0), .v (.int .i64 0), .slice .nilS 0 [], .v (.bool false), .v (.int .i64 0), .v (.bool false), .slice .nilS 0 [],
  .slice .nilS 0 []]] 7 [t1 238]), o1 240 (.loadr 1 true 8 (t1 21)), o1 241 (.fcall true [[.v (.int .i64 0), .v (.int .i64 0), .slice .nilS 0 [], .v (.bool false), .v (.int .i64 0), .v (.bool false),
  .slice .nilS 0 [], .slice .nilS 0 []]] 9 [t1 240]), m1 242 9, m1 243 23, o1 244 (iX 2 242 243), o1 245 (.loadr 1 true 2 (t1 244)), o1 246 (.fcall false [[.v (.int .i64 0), .v (.int .i64 0), .slice
  .nilS 0 [], .v (.bool false), .v (.int .i64 0), .v (.bool false), .slice .nilS 0 [], .slice .nilS 0 []]] 8 [t1 239, t1 241, t1 245]), m1 237 246, o1 247 (eX 0 237), o1 248 (eX 1 237), o1 24 (.slot 1
  [.v (.int .i64 0), .v (.int .i64 0), .slice .nilS 0 [], .v (.bool false), .v (.int .i64 0), .v (.bool false), .slice .nilS 0 [], .slice .nilS 0 []]), ⟨none, none, (.fill 1 8 (t1 24) (t1 247))⟩, m1
  25 248])) (sq (rF [m1 249 25, o1 250 (aK .eql 249 0)]) (cn 250 (rF [lT 251 8 24, sT 8 21 251]) .skip)))) (rF [m1 235 23, o1 236 (aK .add 235 1), m1 23 236])))
def b_t_TopCommandNeverForbidden_r1 : ACode := (sq (rF [lT 226 6 19, o1 227 (cF 7 [t1 226]), o1 228 (cF 6 [t1 227]), m1 225 228, o1 229 (eX 0 225), o1 230 (eX 1 225), o1 21 (.alloc [.v (.int .i64 0),
  .v (.int .i64 0), .slice .nilS 0 [], .v (.bool false), .v (.int .i64 0), .v (.bool false), .slice .nilS 0 [], .slice .nilS 0 []]), sT 8 21 229, m1 22 230]) (sq (sq (rF [o1 23 (mI 0)]) (.block 6
  (.loop b_t_TopCommandNeverForbidden_l0))) b_t_TopCommandNeverForbidden_r0))
def b_t_TopCommandNeverForbidden_l1 : ACode := (sq (sq (rF [m1 195 20, fA 196 0 2, fA 197 2 196, lF 198 1 197, o1 199 (nX 198), o1 200 (aX .lss 195 199)]) (cn 200 .skip (.exit 4))) (sq (.block 5 (sq
  (rF [fA 203 0 2, fA 204 2 203, lF 205 1 204, m1 206 20, o1 207 (iX 5 205 206), fA 208 0 207, lF 209 1 208, m1 210 10, o1 211 (aX .neq 209 210)]) (cn 211 (rT [fA 212 0 19, fA 213 2 212, lF 214 1 213,
  fA 215 0 2, fA 216 2 215, lF 217 1 216, m1 218 20, o1 219 (iX 5 217 218), lT 220 5 219, o1 221 (.buildSlice 5 [[.v (.string ⟨#[]⟩), .v (.int .i64 0), .v (.int .i64 0), .v (.int .i64 0), .v (.int
  .i64 0)]] [(0, (t1 220))]), o1 222 (.append 5 (t1 214) (t1 221)), fA 223 0 19, fA 224 2 223, sT 1 224 222]) .skip))) (rF [m1 201 20, o1 202 (aK .add 201 1), m1 20 202])))
def b_t_TopCommandNeverForbidden_r2 : ACode := (sq (sq (rF [m1 189 10, o1 190 (.arith .eql (t1 189) (.const (.v (.string ⟨#[]⟩))))]) (cn 190 (sq (rF [o1 4 (mB true)]) .ret) .skip)) (sq (rF [lT 191 6
  2, o1 192 (cF 7 [t1 191]), o1 19 (.alloc [.slice .nilS 0 [], .slice .nilS 0 [], .slice .nilS 0 [], .slice .nilS 0 [], .v (.int .i64 0), .v (.int .i64 0)]), sT 6 19 192]) (sq (rF [fA 193 0 19, fA 194
  2 193, ⟨none, none, (.store 1 (t1 194) (.const (.slice .nilS 0 [])))⟩]) (sq (sq (rF [o1 20 (mI 0)]) (.block 4 (.loop b_t_TopCommandNeverForbidden_l1))) b_t_TopCommandNeverForbidden_r1))))
def b_t_TopCommandNeverForbidden_l2 : ACode := (sq (sq (rF [m1 58 11, m1 59 1, o1 60 (nX 59), o1 61 (aX .lss 58 60)]) (cn 61 .skip (.exit 2))) (sq (.block 3 (sq (sq (rF [⟨none, none, (.reserve 1)⟩])
  (rT [o1 65 (.loadr 1 true 6 (t1 2)), o1 66 (.fcall true [[.v (.int .i64 0), .v (.int .i64 0), .slice .nilS 0 [], .v (.bool false), .v (.int .i64 0), .v (.bool false), .slice .nilS 0 [], .slice .nilS
  0 []]] 7 [t1 65]), o1 67 (.loadr 1 true 8 (t1 5)), o1 68 (.fcall true [[.v (.int .i64 0), .v (.int .i64 0), .slice .nilS 0 [], .v (.bool false), .v (.int .i64 0), .v (.bool false), .slice .nilS 0
  [], .slice .nilS 0 []]] 9 [t1 67]), m1 69 1, m1 70 11, o1 71 (iX 2 69 70), o1 72 (.loadr 1 true 2 (t1 71)), o1 73 (.fcall false [[.v (.int .i64 0), .v (.int .i64 0), .slice .nilS 0 [], .v (.bool
  false), .v (.int .i64 0), .v (.bool false), .slice .nilS 0 [], .slice .nilS 0 []]] 8 [t1 66, t1 68, t1 72]), m1 64 73, o1 74 (eX 0 64), o1 75 (eX 1 64), o1 12 (.slot 1 [.v (.int .i64 0), .v (.int
  .i64 0), .slice .nilS 0 [], .v (.bool false), .v (.int .i64 0), .v (.bool false), .slice .nilS 0 [], .slice .nilS 0 []]), ⟨none, none, (.fill 1 8 (t1 12) (t1 74))⟩, m1 13 75])) (sq (sq (rF [m1 76
  13, o1 77 (aK .neq 76 0)]) (cn 77 (.exit 3) .skip)) (sq (rF [m1 78 9, m1 79 1, m1 80 11, o1 81 (iX 2 79 80), lT 82 2 81, o1 83 (.buildSlice 2 [[.v (.int .i64 0), .v (.int .i64 0)]] [(0, (t1 82))]),
  o1 84 (.append 2 (t1 78) (t1 83)), m1 9 84]) (sq (sq (rF [fA 85 2 12, lF 86 1 85, o1 87 (nX 86), fA 88 3 2, lF 89 1 88, o1 90 (nX 89), o1 91 (aX .gtr 87 90), m1 92 91, gF 93 92 (fX 0 12), gF 94 92
  (lX 1 93), gF 95 92 (cF 10 [t1 94, i1 0, i1 1000000000000]), gF 96 92 (uX 95), o1 97 (pB 92 96)]) (cn 97 (sq (rF [o1 4 (mB false)]) .ret) .skip)) (sq (sq (rF [fA 98 3 12, lF 99 1 98, m1 100 99, gT
  101 100 (fX 3 5), gT 102 100 (lX 1 101), gT 103 100 (uX 102), o1 104 (pA 100 103)]) (cn 104 (sq (sq (rF [fA 105 2 5, lF 106 1 105, o1 107 (nX 106), fA 108 3 2, lF 109 1 108, o1 110 (nX 109), o1 111
  (aX .geq 107 110)]) (cn 111 (sq (rF [o1 4 (mB false)]) .ret) .skip)) (sq (rF [fA 112 3 2, lF 113 1 112, fA 114 2 5, lF 115 1 114, o1 116 (nX 115), o1 117 (iX 3 113 116), lT 118 3 117, o1 14 (.alloc
  [.v (.int .i64 0), .v (.int .i64 0), .v (.int .i64 0)]), sT 3 14 118]) (sq (rF [fA 119 0 12, lF 120 1 119, fA 121 1 7, sT 1 121 120]) (sq (rT [fA 123 0 2, lT 124 3 123, o1 125 (.call true 12 [t1
  124]), lT 126 3 7, o1 127 (.call true 13 [t1 126]), fA 128 0 14, lF 129 1 128, o1 130 (cF 11 [t1 125, t1 127, t1 129]), m1 122 130, o1 131 (eX 0 122), o1 132 (eX 1 122), m1 15 131, m1 16 132]) (sq
  (sq (rF [m1 133 16, o1 134 (aK .neq 133 0), m1 135 134, gF 136 135 (mX 15), gF 137 135 (.arith .eql (t1 136) (.const (.v (.string ⟨#[]⟩)))), gF 138 135 (mX 137), gT 139 138 (fX 0 12), gT 140 138 (lX
  1 139), gT 141 138 (fX 1 14), gT 142 138 (fX 0 141), gT 143 138 (lX 1 142), gT 144 138 (fX 1 14), gT 145 138 (fX 1 144), gT 146 138 (lX 1 145), gT 147 138 (cF 10 [t1 140, t1 143, t1 146]), gF 148
  135 (pA 138 147), o1 149 (pB 135 148)]) (cn 149 (sq (rF [o1 4 (mB false)]) .ret) .skip)) (rF [m1 150 15, m1 10 150])))))) .skip)) (sq (sq (rF [fA 151 2 12, lF 152 1 151, o1 153 (nX 152), fA 154 2 5,
  lF 155 1 154, o1 156 (nX 155), o1 157 (aK .add 156 1), o1 158 (aX .eql 153 157)]) (cn 158 (sq (rF [fA 159 3 2, lF 160 1 159, fA 161 2 5, lF 162 1 161, o1 163 (nX 162), o1 164 (iX 3 160 163), lT 165
  3 164, o1 17 (.alloc [.v (.int .i64 0), .v (.int .i64 0), .v (.int .i64 0)]), sT 3 17 165]) (sq (rT [fA 166 2 7, o1 167 (.loadq false 1 (t1 166) 2 7), fA 168 0 17, o1 169 (.loadq false 1 (t1 168) 0
  17), fA 170 0 12, o1 171 (.loadq false 1 (t1 170) 0 12), fA 172 0 12, o1 173 (.loadq false 1 (t1 172) 0 12), fA 174 1 7, ⟨none, none, (.storeq 1 (t1 174) (t1 171) [(false, (1, (0, 17))), (false, (1,
  (0, 12)))])⟩, o1 175 (iX 1 167 169), ⟨none, none, (.storeq 1 (t1 175) (t1 173) [])⟩]) (sq (rF [fA 176 0 2, fA 177 1 176, lF 178 1 177, fA 179 0 17, lF 180 1 179, o1 181 (iX 2 178 180), fA 182 1 181,
  lF 183 1 182, m1 18 183]) (sq (rF [m1 184 18, o1 185 (aK .neq 184 (-1))]) (cn 185 (rF [m1 186 18, fA 187 0 7, sT 1 187 186]) .skip))))) .skip)) (rF [lT 188 8 12, sT 8 5 188])))))))) (rF [m1 62 11,
  o1 63 (aK .add 62 1), m1 11 63])))
def b_t_TopCommandNeverForbidden_r3 : ACode := (sq (rF [o1 9 (.move (.const (.slice .nilS 0 [])))]) (sq (rF [o1 10 (.move (.const (.v (.string ⟨#[]⟩))))]) (sq (sq (rF [o1 11 (mI 0)]) (.block 2 (.loop
  b_t_TopCommandNeverForbidden_l2))) b_t_TopCommandNeverForbidden_r2)))
def b_t_TopCommandNeverForbidden_l3 : ACode := (sq (sq (rF [m1 45 8, fA 46 0 2, fA 47 1 46, lF 48 1 47, o1 49 (nX 48), o1 50 (aX .lss 45 49)]) (cn 50 .skip (.exit 0))) (sq (.block 1 (rF [fA 53 2 7, lF
  54 1 53, o1 55 (.rowBox 1 (i1 (-1))), o1 56 (.appendh 1 (t1 54) (t1 55) (t1 53)), fA 57 2 7, sT 1 57 56])) (rF [m1 51 8, o1 52 (aK .add 51 1), m1 8 52])))
def b_t_TopCommandNeverForbidden : ACode := (sq (rF [o1 2 (.box 6 (t1 0)), o1 4 (mB false)]) (sq (sq (rF [o1 26 (cF 4 []), o1 27 (uX 26)]) (cn 27 (sq (rF [o1 4 (mB false)]) .ret) .skip)) (sq (sq (rF
  [lT 28 6 2, o1 29 (cF 5 [t1 28]), o1 30 (uX 29), m1 31 30, gF 32 31 (mX 1), gF 33 31 (nX 32), gF 34 31 (aK .gtr 33 50), o1 35 (pB 31 34)]) (cn 35 (sq (rF [o1 4 (mB true)]) .ret) .skip)) (sq (rF [lT
  37 6 2, o1 38 (cF 7 [t1 37]), o1 39 (cF 6 [t1 38]), m1 36 39, o1 40 (eX 0 36), o1 41 (eX 1 36), o1 5 (.alloc [.v (.int .i64 0), .v (.int .i64 0), .slice .nilS 0 [], .v (.bool false), .v (.int .i64
  0), .v (.bool false), .slice .nilS 0 [], .slice .nilS 0 []]), sT 8 5 40, m1 6 41]) (sq (sq (rF [m1 42 6, o1 43 (aK .neq 42 0)]) (cn 43 (sq (rF [o1 4 (mB false)]) .ret) .skip)) (sq (rF [o1 44 (.build
  [.v (.int .i64 0), .v (.int .i64 0), .slice .nilS 0 []] []), o1 7 (.alloc [.v (.int .i64 0), .v (.int .i64 0), .slice .nilS 0 []]), sT 3 7 44]) (sq (sq (rF [o1 8 (mI 0)]) (.block 0 (.loop
  b_t_TopCommandNeverForbidden_l3))) b_t_TopCommandNeverForbidden_r3)))))))
abbrev k_t_TopCommandNeverForbidden_0 : List K := [.blk 6, .c b_t_TopCommandNeverForbidden_r0]
abbrev k_t_TopCommandNeverForbidden_1 : List K := [.blk 4, .c b_t_TopCommandNeverForbidden_r1]
abbrev k_t_TopCommandNeverForbidden_2 : List K := [.blk 2, .c b_t_TopCommandNeverForbidden_r2]
abbrev k_t_TopCommandNeverForbidden_3 : List K := [.blk 0, .c b_t_TopCommandNeverForbidden_r3]
abbrev f_t_TopCommandNeverForbidden := finF [(.tmp 4)] false
def c_t_TopCommandNeverForbidden : AFn := .code 2 274 b_t_TopCommandNeverForbidden [(.tmp 4)] false
-- 4
def b_t_commandShown : ACode := (sq (rF [o1 0 (mB false)]) (sq (rF [o1 6 (cF 15 []), o1 1 (.alloc [.slice .nilS 0 [], .slice .nilS 0 [], .slice .nilS 0 [], .slice .nilS 0 [], .v (.int .i64 0), .v
  (.int .i64 0)]), sT 6 1 6]) (sq (rF [fA 8 0 1, lT 9 3 8, fA 10 3 1, lF 11 1 10, o1 12 (cF 16 [t1 9, t1 11]), m1 7 12, o1 13 (eX 0 7), o1 14 (eX 1 7), m1 2 13, m1 3 14]) (sq (rF [lT 16 6 1, o1 17
  (.build [.v (.int .i64 0), .v (.int .i64 0)] [(0, (1, (i1 1)))]), o1 18 (.build [.v (.int .i64 0), .v (.int .i64 0)] [(0, (1, (i1 6)))]), o1 19 (.build [.v (.int .i64 0), .v (.int .i64 0)] [(0, (1,
  (i1 2)))]), o1 20 (.build [.v (.int .i64 0), .v (.int .i64 0)] [(0, (1, (i1 2)))]), o1 21 (.buildSlice 2 [[.v (.int .i64 0), .v (.int .i64 0)], [.v (.int .i64 0), .v (.int .i64 0)], [.v (.int .i64
  0), .v (.int .i64 0)], [.v (.int .i64 0), .v (.int .i64 0)]] [(0, (t1 17)), (1, (t1 18)), (2, (t1 19)), (3, (t1 20))]), o1 22 (cF 17 [t1 16, t1 21]), m1 15 22, o1 23 (eX 0 15), o1 24 (eX 1 15), m1 4
  23, m1 5 24]) (sq (rF [m1 25 3, o1 26 (aK .eql 25 0), m1 27 26, gT 28 27 (mX 2), gT 29 27 (.buildSlice 1 [[.v (.int .i64 0)], [.v (.int .i64 0)], [.v (.int .i64 0)], [.v (.int .i64 0)]] [(0, (i1
  1)), (1, (i1 2)), (2, (i1 1)), (3, (i1 2))]), gT 30 27 (cF 18 [t1 28, t1 29]), o1 31 (pA 27 30), m1 32 31, gT 33 32 (mX 5), gT 34 32 (aK .eql 33 0), o1 35 (pA 32 34), m1 36 35, gT 37 36 (mX 4), gT
  38 36 (.build [.v (.int .i64 0), .v (.int .i64 0)] []), gT 39 36 (.buildSlice 2 [[.v (.int .i64 0), .v (.int .i64 0)]] [(0, (t1 38))]), gT 40 36 (cF 14 [t1 37, t1 39]), o1 41 (pA 36 40), m1 0 41])
  .ret)))))
abbrev f_t_commandShown := finF [(.tmp 0)] false
def c_t_commandShown : AFn := .code 0 42 b_t_commandShown [(.tmp 0)] false
-- 5
def b_t_commandSmall : ACode := (sq (rF [o1 1 (.box 6 (t1 0)), o1 2 (mB false)]) (sq (rF [fA 3 0 1, lT 4 3 3, o1 5 (cF 19 [t1 4]), m1 6 5, gT 7 6 (fX 3 1), gT 8 6 (lX 1 7), gT 9 6 (nX 8), gT 10 6 (aK
  .leq 9 12), o1 11 (pA 6 10), m1 12 11, gT 13 12 (lY 6 1), gT 14 12 (cF 20 [t1 13]), gT 15 12 (aK .eql 14 0), o1 16 (pA 12 15), m1 2 16]) .ret))
abbrev f_t_commandSmall := finF [(.tmp 2)] false
def c_t_commandSmall : AFn := .code 1 17 b_t_commandSmall [(.tmp 2)] false
-- 6
def b_command_Begin : ACode := (sq (rF [o1 1 (.box 6 (t1 0)), o1 2 (.alloc [.v (.int .i64 0), .v (.int .i64 0), .slice .nilS 0 [], .v (.bool false), .v (.int .i64 0), .v (.bool false), .slice .nilS 0
  [], .slice .nilS 0 []]), o1 3 (mI 0)]) (sq (rF [o1 4 (.build [.v (.int .i64 0), .v (.int .i64 0), .slice .nilS 0 [], .v (.bool false), .v (.int .i64 0), .v (.bool false), .slice .nilS 0 [], .slice
  .nilS 0 []] []), lT 5 6 1, o1 6 (cF 21 [t1 5]), sT 8 2 4, m1 3 6]) .ret))
abbrev f_command_Begin := finF [(.cell true 8 2), (.tmp 3)] false
def c_command_Begin : AFn := .code 1 7 b_command_Begin [(.cell true 8 2), (.tmp 3)] false
-- 7
def b_r_CopyUplink : ACode := (sq (rF [o1 1 (.box 6 (t1 0)), o1 2 (.alloc [.slice .nilS 0 [], .slice .nilS 0 [], .slice .nilS 0 [], .slice .nilS 0 [], .v (.int .i64 0), .v (.int .i64 0)])]) (sq (rT
  [fA 3 0 1, lT 4 3 3, o1 5 (.call true 12 [t1 4]), fA 6 3 1, lF 7 1 6, o1 8 (cF 22 [t1 7]), fA 9 0 1, sT 3 9 5, fA 10 3 1, sT 1 10 8]) (sq (rF [lT 11 6 1, sT 6 2 11]) .ret)))
abbrev f_r_CopyUplink := finF [(.cell true 6 2)] false
def c_r_CopyUplink : AFn := .code 1 12 b_r_CopyUplink [(.cell true 6 2)] false
-- 8
def b_command_Apply : ACode := (sq (rF [o1 3 (.box 6 (t1 0)), o1 4 (.box 8 (t1 1)), o1 5 (.box 2 (t1 2)), o1 6 (.alloc [.v (.int .i64 0), .v (.int .i64 0), .slice .nilS 0 [], .v (.bool false), .v
  (.int .i64 0), .v (.bool false), .slice .nilS 0 [], .slice .nilS 0 []]), o1 7 (mI 0)]) (sq (rF [lT 11 6 3, lT 12 8 4, o1 13 (.calli 23 [t1 11, t1 12]), m1 10 13, o1 14 (eX 0 10), o1 15 (eX 1 10), m1
  8 14, m1 9 15]) (sq (sq (rF [m1 16 9, lT 17 2 5, o1 18 (cF 25 [t1 17]), o1 19 (.buildSlice 1 [[.v (.int .i64 0)], [.v (.int .i64 0)]] [(0, (t1 16)), (1, (t1 18))]), o1 20 (cF 24 [t1 19]), m1 9 20])
  (sq (rF [m1 21 9, o1 22 (aK .eql 21 0)]) (cn 22 (rF [m1 23 8, lT 24 2 5, o1 25 (cF 26 [t1 23, t1 24]), m1 9 25]) .skip))) (sq (sq (rF [m1 26 9, o1 27 (aK .neq 26 0)]) (cn 27 (sq (rF [o1 28 (.build
  [.v (.int .i64 0), .v (.int .i64 0), .slice .nilS 0 [], .v (.bool false), .v (.int .i64 0), .v (.bool false), .slice .nilS 0 [], .slice .nilS 0 []] []), m1 29 9, sT 8 6 28, m1 7 29]) .ret) .skip))
  (sq (rF [m1 30 8, o1 31 (.nilCheck (t1 30)), fA 32 6 31, lT 33 8 32, sT 8 6 33, o1 7 (mI 0)]) .ret)))))
abbrev f_command_Apply := finF [(.cell true 8 6), (.tmp 7)] false
def c_command_Apply : AFn := .code 3 34 b_command_Apply [(.cell true 8 6), (.tmp 7)] false
-- 9
def b_r_Copy : ACode := (sq (rF [o1 1 (.box 8 (t1 0)), o1 2 (.alloc [.v (.int .i64 0), .v (.int .i64 0), .slice .nilS 0 [], .v (.bool false), .v (.int .i64 0), .v (.bool false), .slice .nilS 0 [],
  .slice .nilS 0 []])]) (sq (rF [o1 3 (.buildSlice 2 [] []), fA 4 2 1, lF 5 1 4, o1 6 (.append 2 (t1 3) (t1 5)), fA 7 2 1, sT 1 7 6]) (sq (rF [fA 8 6 1, lF 9 1 8, o1 10 (cF 27 [t1 9]), fA 11 6 1, sT 1
  11 10]) (sq (rF [o1 12 (.buildSlice 2 [] []), fA 13 7 1, lF 14 1 13, o1 15 (.append 2 (t1 12) (t1 14)), fA 16 7 1, sT 1 16 15]) (sq (rF [lT 17 8 1, sT 8 2 17]) .ret)))))
abbrev f_r_Copy := finF [(.cell true 8 2)] false
def c_r_Copy : AFn := .code 1 18 b_r_Copy [(.cell true 8 2)] false
-- 10
def b_b_Within : ACode := (sq (rF [o1 6 (mB false)]) (sq (rF [m1 7 1, m1 8 0, o1 9 (aX .leq 7 8), m1 10 9, gT 11 10 (mX 0), gT 12 10 (mX 2), gT 13 10 (aX .leq 11 12), o1 14 (pA 10 13), m1 6 14])
  .ret))
abbrev f_b_Within := finF [(.tmp 6)] false
def c_b_Within : AFn := .code 3 15 b_b_Within [(.tmp 6)] false
-- 11
def b_command_ForbiddenBy : ACode := (sq (rF [o1 3 (.box 3 (t1 0)), o1 4 (.box 3 (t1 1)), o1 6 (.move (.const (.v (.string ⟨#[]⟩)))), o1 7 (mI 0)]) (sq (rF [o1 12 (.mkFn 28 [] [t1 4]), m1 8 12]) (sq
  (rT [lT 13 3 3, o1 14 (.call true 30 [t1 13]), fA 15 0 4, lF 16 1 15, fA 17 0 3, lF 18 1 17, o1 19 (nX 18), o1 20 (aK .sub 19 1), o1 21 (.call true 29 [t1 16, i1 0, t1 20]), o1 22 (.call true 31 [t1
  21, i1 6]), fA 23 1 4, lF 24 1 23, o1 25 (.call true 32 [t1 24]), o1 26 (.call true 31 [t1 25, i1 2]), fA 27 2 4, lF 28 1 27, o1 29 (nX 28), fA 30 1 3, lF 31 1 30, o1 32 (nX 31), o1 33 (aX .eql 29
  32), o1 34 (.call true 31 [t1 33, i1 10]), fA 35 2 4, lF 36 1 35, m1 37 8, o1 38 (.call true 33 [t1 36, t1 37]), o1 39 (uX 38), o1 40 (.call true 31 [t1 39, i1 2]), m1 41 2, fA 42 1 3, lF 43 1 42,
  o1 44 (nX 43), o1 45 (aK .sub 44 1), o1 46 (cF 29 [t1 41, i1 0, t1 45]), o1 47 (cF 31 [t1 46, i1 15]), o1 48 (.buildSlice 1 [[.v (.int .i64 0)], [.v (.int .i64 0)], [.v (.int .i64 0)], [.v (.int
  .i64 0)], [.v (.int .i64 0)], [.v (.int .i64 0)]] [(0, (t1 14)), (1, (t1 22)), (2, (t1 26)), (3, (t1 34)), (4, (t1 40)), (5, (t1 47))]), o1 49 (cF 24 [t1 48]), m1 9 49]) (sq (sq (rF [m1 50 9, o1 51
  (aK .neq 50 0)]) (cn 51 (sq (rF [m1 52 9, o1 6 (.move (.const (.v (.string ⟨#[]⟩)))), m1 7 52]) .ret) .skip)) (sq (rF [lT 53 3 3, lT 54 3 4, o1 55 (.build [.slice .nilS 0 [], .slice .nilS 0 [],
  .slice .nilS 0 [], .v (.int .i64 0), .v (.int .i64 0), .slice .nilS 0 []] [(0, (3, (t1 53))), (3, (3, (t1 54)))]), o1 10 (.alloc [.slice .nilS 0 [], .slice .nilS 0 [], .slice .nilS 0 [], .v (.int
  .i64 0), .v (.int .i64 0), .slice .nilS 0 []]), sT 6 10 55]) (sq (sq (rF [m1 56 2, o1 57 (cF 34 [t1 10, t1 56]), m1 11 57]) (sq (rF [m1 58 11, o1 59 (.eqv true .ptr (t1 58) (.const (.v (.pointer
  none))))]) (cn 59 (sq (rF [m1 60 11, o1 61 (.nilCheck (t1 60)), fA 62 0 61, lF 63 1 62, m1 6 63, o1 7 (mI 0)]) .ret) .skip))) (sq (rF [o1 6 (.move (.const (.v (.string ⟨#[]⟩)))), o1 7 (mI 0)])
  .ret)))))))
abbrev f_command_ForbiddenBy := finF [(.tmp 6), (.tmp 7)] false
def c_command_ForbiddenBy : AFn := .code 3 64 b_command_ForbiddenBy [(.tmp 6), (.tmp 7)] false
-- 12
def b_r_CopyModel : ACode := (sq (rF [o1 1 (.box 3 (t1 0)), o1 2 (.alloc [.slice .nilS 0 [], .slice .nilS 0 [], .slice .nilS 0 []])]) (sq (rT [fA 3 0 1, lF 4 1 3, o1 5 (.call true 35 [t1 4]), o1 6
  (.buildSlice 2 [] []), fA 7 1 1, lF 8 1 7, o1 9 (.append 2 (t1 6) (t1 8)), o1 10 (.buildSlice 5 [] []), fA 11 2 1, lF 12 1 11, o1 13 (.append 5 (t1 10) (t1 12)), o1 14 (.build [.slice .nilS 0 [],
  .slice .nilS 0 [], .slice .nilS 0 []] [(0, (1, (t1 5))), (1, (1, (t1 9))), (2, (1, (t1 13)))]), sT 3 2 14]) .ret))
abbrev f_r_CopyModel := finF [(.cell true 3 2)] false
def c_r_CopyModel : AFn := .code 1 15 b_r_CopyModel [(.cell true 3 2)] false
-- 13
def b_r_CopyMoment : ACode := (sq (rF [o1 1 (.box 3 (t1 0)), o1 2 (.alloc [.v (.int .i64 0), .v (.int .i64 0), .slice .nilS 0 []])]) (sq (rF [fA 3 2 1, lF 4 1 3, o1 5 (cF 27 [t1 4]), fA 6 2 1, sT 1 6
  5]) (sq (rF [lT 7 3 1, sT 3 2 7]) .ret)))
abbrev f_r_CopyMoment := finF [(.cell true 3 2)] false
def c_r_CopyMoment : AFn := .code 1 8 b_r_CopyMoment [(.cell true 3 2)] false
-- 14
def b_r_SameDone_r0 : ACode := (sq (rF [o1 4 (mB true)]) .ret)
def b_r_SameDone_l0 : ACode := (sq (sq (rF [m1 11 5, m1 12 0, o1 13 (nX 12), o1 14 (aX .lss 11 13)]) (cn 14 .skip (.exit 0))) (sq (.block 1 (sq (rT [m1 17 0, m1 18 5, o1 19 (iX 2 17 18), lT 20 2 19,
  m1 21 1, m1 22 5, o1 23 (iX 2 21 22), lT 24 2 23, o1 25 (.eqv true (.agg [.int, .int]) (t1 20) (t1 24))]) (cn 25 (sq (rF [o1 4 (mB false)]) .ret) .skip))) (rF [m1 15 5, o1 16 (aK .add 15 1), m1 5
  16])))
def b_r_SameDone : ACode := (sq (rF [o1 4 (mB false)]) (sq (sq (rF [m1 6 0, o1 7 (nX 6), m1 8 1, o1 9 (nX 8), o1 10 (aX .neq 7 9)]) (cn 10 (sq (rF [o1 4 (mB false)]) .ret) .skip)) (sq (sq (rF [o1 5
  (mI 0)]) (.block 0 (.loop b_r_SameDone_l0))) b_r_SameDone_r0)))
abbrev k_r_SameDone_0 : List K := [.blk 0, .c b_r_SameDone_r0]
abbrev f_r_SameDone := finF [(.tmp 4)] false
def c_r_SameDone : AFn := .code 2 26 b_r_SameDone [(.tmp 4)] false
-- 15
def b_l_Uplink : ACode := (sq (rF [o1 0 (.alloc [.slice .nilS 0 [], .slice .nilS 0 [], .slice .nilS 0 [], .slice .nilS 0 [], .v (.int .i64 0), .v (.int .i64 0)])]) (sq (rF [o1 1 (.buildSlice 1 [[.v
  (.string ⟨#[]⟩)], [.v (.string ⟨#[]⟩)], [.v (.string ⟨#[]⟩)]] [(0, (.const (.v (.string ⟨#[115, 97, 102, 101]⟩)))), (1, (.const (.v (.string ⟨#[99, 114, 117, 105, 115, 101]⟩)))), (2, (.const (.v
  (.string ⟨#[98, 117, 114, 110]⟩))))]), o1 2 (.build [.v (.string ⟨#[]⟩), .v (.int .i64 0)] [(0, (1, (.const (.v (.string ⟨#[119, 97, 107, 101]⟩))))), (1, (1, (i1 1)))]), o1 3 (.build [.v (.string
  ⟨#[]⟩), .v (.int .i64 0)] [(0, (1, (.const (.v (.string ⟨#[102, 105, 114, 101]⟩))))), (1, (1, (i1 2)))]), o1 4 (.build [.v (.string ⟨#[]⟩), .v (.int .i64 0)] [(0, (1, (.const (.v (.string ⟨#[115,
  116, 111, 112]⟩))))), (1, (1, (i1 1)))]), o1 5 (.build [.v (.string ⟨#[]⟩), .v (.int .i64 0)] [(0, (1, (.const (.v (.string ⟨#[112, 105, 110, 103]⟩))))), (1, (1, (i1 (-1))))]), o1 6 (.buildSlice 2
  [[.v (.string ⟨#[]⟩), .v (.int .i64 0)], [.v (.string ⟨#[]⟩), .v (.int .i64 0)], [.v (.string ⟨#[]⟩), .v (.int .i64 0)], [.v (.string ⟨#[]⟩), .v (.int .i64 0)]] [(0, (t1 2)), (1, (t1 3)), (2, (t1
  4)), (3, (t1 5))]), o1 7 (.build [.v (.string ⟨#[]⟩), .v (.int .i64 0), .v (.int .i64 0), .v (.int .i64 0), .v (.int .i64 0)] [(0, (1, (.const (.v (.string ⟨#[99, 111, 108, 100]⟩))))), (1, (1, (i1
  1))), (2, (1, (i1 0))), (3, (1, (i1 (-1)))), (4, (1, (i1 1)))]), o1 8 (.build [.v (.string ⟨#[]⟩), .v (.int .i64 0), .v (.int .i64 0), .v (.int .i64 0), .v (.int .i64 0)] [(0, (1, (.const (.v
  (.string ⟨#[104, 101, 97, 116]⟩))))), (1, (1, (i1 1))), (2, (1, (i1 (-1)))), (3, (1, (i1 2))), (4, (1, (i1 50)))]), o1 9 (.buildSlice 5 [[.v (.string ⟨#[]⟩), .v (.int .i64 0), .v (.int .i64 0), .v
  (.int .i64 0), .v (.int .i64 0)], [.v (.string ⟨#[]⟩), .v (.int .i64 0), .v (.int .i64 0), .v (.int .i64 0), .v (.int .i64 0)]] [(0, (t1 7)), (1, (t1 8))]), o1 10 (.build [.slice .nilS 0 [], .slice
  .nilS 0 [], .slice .nilS 0 []] [(0, (1, (t1 1))), (1, (1, (t1 6))), (2, (1, (t1 9)))]), o1 11 (.build [.v (.int .i64 0), .v (.int .i64 0)] [(1, (1, (i1 100)))]), o1 12 (.build [.v (.int .i64 0), .v
  (.int .i64 0), .v (.int .i64 0)] [(0, (1, (i1 0))), (1, (2, (t1 11)))]), o1 13 (.build [.v (.int .i64 0), .v (.int .i64 0)] [(0, (1, (i1 20))), (1, (1, (i1 200)))]), o1 14 (.build [.v (.int .i64 0),
  .v (.int .i64 0), .v (.int .i64 0)] [(0, (1, (i1 1))), (1, (2, (t1 13)))]), o1 15 (.build [.v (.int .i64 0), .v (.int .i64 0)] [(0, (1, (i1 30))), (1, (1, (i1 300)))]), o1 16 (.build [.v (.int .i64
  0), .v (.int .i64 0), .v (.int .i64 0)] [(0, (1, (i1 2))), (1, (2, (t1 15)))]), o1 17 (.build [.v (.int .i64 0), .v (.int .i64 0)] [(0, (1, (i1 40))), (1, (1, (i1 400)))]), o1 18 (.build [.v (.int
  .i64 0), .v (.int .i64 0), .v (.int .i64 0)] [(0, (1, (i1 1))), (1, (2, (t1 17)))]), o1 19 (.buildSlice 3 [[.v (.int .i64 0), .v (.int .i64 0), .v (.int .i64 0)], [.v (.int .i64 0), .v (.int .i64
  0), .v (.int .i64 0)], [.v (.int .i64 0), .v (.int .i64 0), .v (.int .i64 0)], [.v (.int .i64 0), .v (.int .i64 0), .v (.int .i64 0)]] [(0, (t1 12)), (1, (t1 14)), (2, (t1 16)), (3, (t1 18))]), o1
  20 (.build [.slice .nilS 0 [], .slice .nilS 0 [], .slice .nilS 0 [], .slice .nilS 0 [], .v (.int .i64 0), .v (.int .i64 0)] [(0, (3, (t1 10))), (3, (1, (t1 19))), (4, (1, (i1 2))), (5, (1, (i1
  2)))]), sT 6 0 20]) .ret))
abbrev f_l_Uplink := finF [(.cell true 6 0)] false
def c_l_Uplink : AFn := .code 0 21 b_l_Uplink [(.cell true 6 0)] false
-- 16
def b_command_ModesOf_r0 : ACode := (sq (rF [m1 41 9, m1 4 41, o1 5 (mI 0)]) .ret)
def b_command_ModesOf_l0 : ACode := (sq (rF [o1 26 (aX .lss 25 24)]) (sq (cn 26 .skip (.exit 0)) (sq (.block 1 (sq (rF [o1 27 (iX 3 23 25), lT 28 3 27, o1 11 (.alloc [.v (.int .i64 0), .v (.int .i64
  0), .v (.int .i64 0)]), sT 3 11 28]) (sq (rF [m1 29 8, lT 30 3 11, o1 31 (cF 38 [t1 29, t1 30])]) (rF [m1 32 9, m1 33 8, o1 34 (.nilCheck (t1 33)), fA 35 3 34, fA 36 0 35, lF 37 1 36, o1 38
  (.buildSlice 1 [[.v (.int .i64 0)]] [(0, (t1 37))]), o1 39 (.append 1 (t1 32) (t1 38)), m1 9 39])))) (rF [o1 40 (aK .add 25 1), m1 25 40]))))
def b_command_ModesOf : ACode := (sq (rF [o1 2 (.box 3 (t1 0)), o1 4 (.move (.const (.slice .nilS 0 []))), o1 5 (mI 0)]) (sq (sq (rF [lT 13 3 2, m1 14 1, o1 15 (cF 36 [t1 13, t1 14]), m1 12 15, o1 16
  (eX 0 12), o1 17 (eX 1 12), m1 6 16, m1 7 17]) (sq (rF [m1 18 7, o1 19 (aK .neq 18 0)]) (cn 19 (sq (rF [m1 20 7, o1 4 (.move (.const (.slice .nilS 0 []))), m1 5 20]) .ret) .skip))) (sq (rF [lT 21 3
  2, o1 22 (.calli 37 [t1 21]), m1 8 22]) (sq (rF [o1 9 (.move (.const (.slice .nilS 0 [])))]) (sq (sq (rF [m1 23 1, o1 24 (nX 23), o1 25 (mI 0)]) (.block 0 (.loop b_command_ModesOf_l0)))
  b_command_ModesOf_r0)))))
abbrev k_command_ModesOf_0 : List K := [.blk 0, .c b_command_ModesOf_r0]
abbrev f_command_ModesOf := finF [(.tmp 4), (.tmp 5)] false
def c_command_ModesOf : AFn := .code 2 42 b_command_ModesOf [(.tmp 4), (.tmp 5)] false
-- 17
def b_command_Executed : ACode := (sq (rF [o1 2 (.box 6 (t1 0)), o1 4 (.move (.const (.slice .nilS 0 []))), o1 5 (mI 0)]) (sq (rF [lT 10 6 2, m1 11 1, o1 12 (cF 39 [t1 10, t1 11]), m1 9 12, o1 13 (eX
  0 9), o1 14 (eX 1 9), o1 15 (eX 2 9), o1 6 (.alloc [.v (.int .i64 0), .v (.int .i64 0), .slice .nilS 0 [], .v (.bool false), .v (.int .i64 0), .v (.bool false), .slice .nilS 0 [], .slice .nilS 0
  []]), sT 8 6 13, m1 7 14, m1 8 15]) (sq (rF [fA 16 2 6, lF 17 1 16, m1 18 8, m1 4 17, m1 5 18]) .ret)))
abbrev f_command_Executed := finF [(.tmp 4), (.tmp 5)] false
def c_command_Executed : AFn := .code 2 19 b_command_Executed [(.tmp 4), (.tmp 5)] false
-- 18
def b_b_Ints_r0 : ACode := (sq (rF [o1 4 (mB true)]) .ret)
def b_b_Ints_l0 : ACode := (sq (sq (rF [m1 11 5, m1 12 0, o1 13 (nX 12), o1 14 (aX .lss 11 13)]) (cn 14 .skip (.exit 0))) (sq (.block 1 (sq (rT [m1 17 0, m1 18 5, o1 19 (iX 1 17 18), lF 20 1 19, m1 21
  1, m1 22 5, o1 23 (iX 1 21 22), lF 24 1 23, o1 25 (aX .neq 20 24)]) (cn 25 (sq (rF [o1 4 (mB false)]) .ret) .skip))) (rF [m1 15 5, o1 16 (aK .add 15 1), m1 5 16])))
def b_b_Ints : ACode := (sq (rF [o1 4 (mB false)]) (sq (sq (rF [m1 6 0, o1 7 (nX 6), m1 8 1, o1 9 (nX 8), o1 10 (aX .neq 7 9)]) (cn 10 (sq (rF [o1 4 (mB false)]) .ret) .skip)) (sq (sq (rF [o1 5 (mI
  0)]) (.block 0 (.loop b_b_Ints_l0))) b_b_Ints_r0)))
abbrev k_b_Ints_0 : List K := [.blk 0, .c b_b_Ints_r0]
abbrev f_b_Ints := finF [(.tmp 4)] false
def c_b_Ints : AFn := .code 2 26 b_b_Ints [(.tmp 4)] false
-- 19
def b_l_Few_r0 : ACode := (sq (rF [o1 2 (mB true)]) .ret)
def b_l_Few_l0 : ACode := (sq (sq (rF [m1 51 5, fA 52 2 1, lF 53 1 52, o1 54 (nX 53), o1 55 (aX .lss 51 54)]) (cn 55 .skip (.exit 4))) (sq (.block 5 (sq (rF [fA 58 2 1, lF 59 1 58, m1 60 5, o1 61 (iX
  5 59 60), fA 62 0 61, lF 63 1 62, o1 64 (.len true (t1 63)), o1 65 (aK .gtr 64 20)]) (cn 65 (sq (rF [o1 2 (mB false)]) .ret) .skip))) (rF [m1 56 5, o1 57 (aK .add 56 1), m1 5 57])))
def b_l_Few_r1 : ACode := (sq (sq (rF [o1 5 (mI 0)]) (.block 4 (.loop b_l_Few_l0))) b_l_Few_r0)
def b_l_Few_l1 : ACode := (sq (sq (rF [m1 36 4, fA 37 1 1, lF 38 1 37, o1 39 (nX 38), o1 40 (aX .lss 36 39)]) (cn 40 .skip (.exit 2))) (sq (.block 3 (sq (rF [fA 43 1 1, lF 44 1 43, m1 45 4, o1 46 (iX
  2 44 45), fA 47 0 46, lF 48 1 47, o1 49 (.len true (t1 48)), o1 50 (aK .gtr 49 20)]) (cn 50 (sq (rF [o1 2 (mB false)]) .ret) .skip))) (rF [m1 41 4, o1 42 (aK .add 41 1), m1 4 42])))
def b_l_Few_r2 : ACode := (sq (sq (rF [o1 4 (mI 0)]) (.block 2 (.loop b_l_Few_l1))) b_l_Few_r1)
def b_l_Few_l2 : ACode := (sq (sq (rF [m1 22 3, fA 23 0 1, lF 24 1 23, o1 25 (nX 24), o1 26 (aX .lss 22 25)]) (cn 26 .skip (.exit 0))) (sq (.block 1 (sq (rF [fA 29 0 1, lF 30 1 29, m1 31 3, o1 32 (iX
  1 30 31), lF 33 1 32, o1 34 (.len true (t1 33)), o1 35 (aK .gtr 34 20)]) (cn 35 (sq (rF [o1 2 (mB false)]) .ret) .skip))) (rF [m1 27 3, o1 28 (aK .add 27 1), m1 3 28])))
def b_l_Few : ACode := (sq (rF [o1 1 (.box 3 (t1 0)), o1 2 (mB false)]) (sq (sq (rF [fA 6 0 1, lF 7 1 6, o1 8 (nX 7), o1 9 (aK .gtr 8 8), m1 10 9, gF 11 10 (fX 1 1), gF 12 10 (lX 1 11), gF 13 10 (nX
  12), gF 14 10 (aK .gtr 13 10), o1 15 (pB 10 14), m1 16 15, gF 17 16 (fX 2 1), gF 18 16 (lX 1 17), gF 19 16 (nX 18), gF 20 16 (aK .gtr 19 12), o1 21 (pB 16 20)]) (cn 21 (sq (rF [o1 2 (mB false)])
  .ret) .skip)) (sq (sq (rF [o1 3 (mI 0)]) (.block 0 (.loop b_l_Few_l2))) b_l_Few_r2)))
abbrev k_l_Few_0 : List K := [.blk 4, .c b_l_Few_r0]
abbrev k_l_Few_1 : List K := [.blk 2, .c b_l_Few_r1]
abbrev k_l_Few_2 : List K := [.blk 0, .c b_l_Few_r2]
abbrev f_l_Few := finF [(.tmp 2)] false
def c_l_Few : AFn := .code 1 66 b_l_Few [(.tmp 2)] false
-- 20
def b_r_UplinkErr : ACode := (sq (rF [o1 1 (.box 6 (t1 0)), o1 2 (mI 0)]) (sq (sq (rF [fA 4 0 1, lT 5 3 4, fA 6 3 1, lF 7 1 6, o1 8 (cF 40 [t1 5, t1 7]), m1 3 8]) (sq (rF [m1 9 3, o1 10 (aK .neq 9
  0)]) (cn 10 (sq (rF [m1 11 3, m1 2 11]) .ret) .skip))) (sq (sq (rF [fA 12 4 1, lF 13 1 12, o1 14 (cF 10 [t1 13, i1 1, i1 6]), o1 15 (uX 14), m1 16 15, gF 17 16 (fX 5 1), gF 18 16 (lX 1 17), gF 19 16
  (cF 10 [t1 18, i1 1, i1 6]), gF 20 16 (uX 19), o1 21 (pB 16 20)]) (cn 21 (sq (rF [o1 2 (mI 2)]) .ret) .skip)) (sq (rF [o1 2 (mI 0)]) .ret))))
abbrev f_r_UplinkErr := finF [(.tmp 2)] false
def c_r_UplinkErr : AFn := .code 1 22 b_r_UplinkErr [(.tmp 2)] false
-- 21
def b_command_CheckUplink : ACode := (sq (rF [o1 1 (.box 6 (t1 0)), o1 2 (mI 0)]) (sq (rF [fA 6 0 1, lT 7 3 6, fA 8 3 1, lF 9 1 8, o1 10 (cF 36 [t1 7, t1 9]), m1 5 10, o1 11 (eX 0 5), o1 12 (eX 1 5),
  m1 3 11, m1 4 12]) (sq (rF [m1 13 4, fA 14 4 1, lF 15 1 14, o1 16 (cF 29 [t1 15, i1 1, i1 6]), m1 17 16, gT 18 17 (fX 5 1), gT 19 17 (lX 1 18), gT 20 17 (cF 29 [t1 19, i1 1, i1 6]), o1 21 (pA 17
  20), o1 22 (cF 31 [t1 21, i1 2]), o1 23 (.buildSlice 1 [[.v (.int .i64 0)], [.v (.int .i64 0)]] [(0, (t1 13)), (1, (t1 22))]), o1 24 (cF 24 [t1 23]), m1 2 24]) .ret)))
abbrev f_command_CheckUplink := finF [(.tmp 2)] false
def c_command_CheckUplink : AFn := .code 1 25 b_command_CheckUplink [(.tmp 2)] false
-- 22
def b_r_CopyFile : ACode := (sq (rF [o1 2 (.move (.const (.slice .nilS 0 [])))]) (sq (rF [o1 3 (.buildSlice 3 [] []), m1 4 0, o1 5 (.append 3 (t1 3) (t1 4)), m1 2 5]) .ret))
abbrev f_r_CopyFile := finF [(.tmp 2)] false
def c_r_CopyFile : AFn := .code 1 6 b_r_CopyFile [(.tmp 2)] false
-- 23
def b_command_resume_r0 : ACode := (sq (rF [m1 226 7, m1 227 8, m1 4 226, m1 5 227]) .ret)
def b_command_resume_l0 : ACode := (sq (rF [o1 200 (aX .lss 199 198)]) (sq (cn 200 .skip (.exit 2)) (sq (.block 3 (sq (rF [o1 201 (iX 2 197 199), lT 202 2 201, o1 15 (.alloc [.v (.int .i64 0), .v
  (.bool false)]), sT 2 15 202]) (rT [m1 203 8, fA 204 0 15, lF 205 1 204, m1 206 12, o1 207 (.call true 29 [t1 205, i1 0, t1 206]), o1 208 (.call true 31 [t1 207, i1 2]), fA 209 1 15, lF 210 1 209,
  o1 211 (uX 210), m1 212 211, gF 213 212 (fX 3 3), gF 214 212 (lX 1 213), gF 215 212 (mX 214), gT 216 215 (fX 0 15), gT 217 215 (lX 1 216), gT 218 215 (mX 12), gT 219 215 (aX .eql 217 218), gF 220
  212 (pA 215 219), o1 221 (pB 212 220), o1 222 (cF 31 [t1 221, i1 3]), o1 223 (.buildSlice 1 [[.v (.int .i64 0)], [.v (.int .i64 0)], [.v (.int .i64 0)]] [(0, (t1 203)), (1, (t1 208)), (2, (t1
  222))]), o1 224 (cF 24 [t1 223]), m1 8 224]))) (rF [o1 225 (aK .add 199 1), m1 199 225]))))
def b_command_resume_r1 : ACode := (sq (rT [m1 133 7, o1 134 (.nilCheck (t1 133)), fA 135 14 134, lF 136 1 135, fA 137 0 3, lF 138 1 137, o1 139 (.nilCheck (t1 136)), fA 140 3 139, fA 141 1 140, sT 1
  141 138]) (sq (rF [fA 142 2 3, lF 143 1 142, o1 144 (nX 143), m1 12 144]) (sq (rF [fA 145 6 3, lF 146 1 145, o1 147 (.mkFn 44 [] [t1 2]), o1 148 (cF 33 [t1 146, t1 147]), m1 13 148]) (sq (rT [fA 149
  1 3, lF 150 1 149, m1 151 7, o1 152 (.nilCheck (t1 151)), fA 153 14 152, lF 154 1 153, o1 155 (.nilCheck (t1 154)), fA 156 3 155, fA 157 0 156, lF 158 1 157, o1 159 (aX .eql 150 158), o1 160 (.call
  true 31 [t1 159, i1 3]), fA 161 3 3, lF 162 1 161, o1 163 (uX 162), m1 164 163, gF 165 164 (mX 12), gF 166 164 (fX 3 2), gF 167 164 (lX 1 166), gF 168 164 (nX 167), gF 169 164 (aX .lss 165 168), o1
  170 (pB 164 169), o1 171 (.call true 31 [t1 170, i1 21]), fA 172 4 3, lF 173 1 172, m1 174 12, o1 175 (.call true 29 [t1 173, i1 0, t1 174]), o1 176 (.call true 31 [t1 175, i1 2]), fA 177 5 3, lF
  178 1 177, o1 179 (uX 178), m1 180 179, gF 181 180 (fX 3 3), gF 182 180 (lX 1 181), gF 183 180 (mX 182), gT 184 183 (fX 4 3), gT 185 183 (lX 1 184), gT 186 183 (mX 12), gT 187 183 (aX .eql 185 186),
  gF 188 180 (pA 183 187), o1 189 (pB 180 188), o1 190 (cF 31 [t1 189, i1 3]), m1 191 13, o1 192 (uX 191), o1 193 (cF 31 [t1 192, i1 6]), o1 194 (.buildSlice 1 [[.v (.int .i64 0)], [.v (.int .i64 0)],
  [.v (.int .i64 0)], [.v (.int .i64 0)], [.v (.int .i64 0)]] [(0, (t1 160)), (1, (t1 171)), (2, (t1 176)), (3, (t1 190)), (4, (t1 193))]), o1 195 (cF 24 [t1 194]), m1 8 195]) (sq (sq (rF [fA 196 7 3,
  lF 197 1 196, o1 198 (nX 197), o1 199 (mI 0)]) (.block 2 (.loop b_command_resume_l0))) b_command_resume_r0)))))
def b_command_resume_l1 : ACode := (sq (rF [o1 69 (aX .lss 68 67)]) (sq (cn 69 .skip (.exit 0)) (sq (.block 1 (sq (rF [m1 70 68, o1 71 (iX 2 66 68), lT 72 2 71, o1 10 (.alloc [.v (.int .i64 0), .v
  (.int .i64 0)]), m1 9 70, sT 2 10 72]) (sq (rT [fA 73 0 10, lF 74 1 73, m1 75 9, o1 76 (aX .eql 74 75), m1 77 76, gT 78 77 (fX 1 10), gT 79 77 (lX 1 78), gT 80 77 (fX 0 3), gT 81 77 (lX 1 80), gT 82
  77 (aX .leq 79 81), o1 83 (pA 77 82), m1 84 83, gT 85 84 (mX 9), gT 86 84 (aK .eql 85 0), gT 87 84 (mX 86), gF 88 87 (fX 1 10), gF 89 87 (lX 1 88), gF 90 87 (fX 2 3), gF 91 87 (lX 1 90), gF 92 87
  (mX 9), gF 93 87 (aK .sub 92 1), gF 94 87 (iX 2 91 93), gF 95 87 (fX 1 94), gF 96 87 (lX 1 95), gF 97 87 (aX .geq 89 96), gT 98 84 (pB 87 97), o1 99 (pA 84 98), m1 11 99]) (sq (sq (rF [m1 100 11, o1
  101 (uX 100)]) (cn 101 (sq (rF [o1 4 (.move (.const (.v (.pointer none)))), o1 5 (mI 9)]) .ret) .skip)) (sq (sq (rT [m1 102 7, o1 103 (.nilCheck (t1 102)), fA 104 14 103, lF 105 1 104, fA 106 1 10,
  lF 107 1 106, o1 108 (.nilCheck (t1 105)), fA 109 3 108, fA 110 1 109, sT 1 110 107]) (sq (rT [m1 111 7, o1 112 (.nilCheck (t1 111)), fA 113 14 112, lF 114 1 113, fA 115 3 2, lF 116 1 115, m1 117 9,
  o1 118 (iX 3 116 117), lT 119 3 118, o1 120 (cF 43 [t1 114, t1 119]), o1 121 (uX 120)]) (cn 121 (sq (rF [o1 4 (.move (.const (.v (.pointer none)))), o1 5 (mI 26)]) .ret) .skip))) (rT [m1 122 7, o1
  123 (.nilCheck (t1 122)), fA 124 14 123, lF 125 1 124, fA 126 3 2, lF 127 1 126, m1 128 9, o1 129 (iX 3 127 128), lT 130 3 129, o1 131 (cF 38 [t1 125, t1 130])])))))) (rF [o1 132 (aK .add 68 1), m1
  68 132]))))
def b_command_resume : ACode := (sq (rF [o1 2 (.box 6 (t1 0)), o1 3 (.box 8 (t1 1)), o1 4 (.move (.const (.v (.pointer none)))), o1 5 (mI 0)]) (sq (sq (rF [lT 16 6 2, o1 17 (cF 21 [t1 16]), m1 6 17])
  (sq (rF [m1 18 6, o1 19 (aK .neq 18 0)]) (cn 19 (sq (rF [m1 20 6, o1 4 (.move (.const (.v (.pointer none)))), m1 5 20]) .ret) .skip))) (sq (rF [lT 21 6 2, o1 22 (.calli 41 [t1 21]), m1 7 22]) (sq
  (rF [m1 23 7, lT 24 8 3, o1 25 (.nilCheck (t1 23)), fA 26 6 25, sT 8 26 24]) (sq (rF [m1 27 7, m1 28 7, o1 29 (.calli 42 [t1 28]), o1 30 (.nilCheck (t1 27)), fA 31 6 30, sT 8 31 29]) (sq (rT [fA 32
  0 3, lF 33 1 32, o1 34 (.call true 32 [t1 33]), o1 35 (.call true 31 [t1 34, i1 2]), fA 36 2 3, lF 37 1 36, o1 38 (nX 37), fA 39 3 2, lF 40 1 39, o1 41 (nX 40), o1 42 (aX .leq 38 41), m1 43 42, gT
  44 43 (fX 6 3), gT 45 43 (lX 1 44), gT 46 43 (nX 45), gT 47 43 (fX 5 2), gT 48 43 (lX 1 47), gT 49 43 (aX .leq 46 48), o1 50 (pA 43 49), m1 51 50, gT 52 51 (fX 7 3), gT 53 51 (lX 1 52), gT 54 51 (nX
  53), gT 55 51 (fX 5 2), gT 56 51 (lX 1 55), gT 57 51 (aX .leq 54 56), o1 58 (pA 51 57), o1 59 (cF 31 [t1 58, i1 8]), o1 60 (.buildSlice 1 [[.v (.int .i64 0)], [.v (.int .i64 0)]] [(0, (t1 35)), (1,
  (t1 59))]), o1 61 (cF 24 [t1 60]), m1 8 61]) (sq (sq (rF [m1 62 8, o1 63 (aK .neq 62 0)]) (cn 63 (sq (rF [m1 64 8, o1 4 (.move (.const (.v (.pointer none)))), m1 5 64]) .ret) .skip)) (sq (sq (rF [fA
  65 2 3, lF 66 1 65, o1 67 (nX 66), o1 68 (mI 0)]) (.block 0 (.loop b_command_resume_l1))) b_command_resume_r1))))))))
abbrev k_command_resume_0 : List K := [.blk 2, .c b_command_resume_r0]
abbrev k_command_resume_1 : List K := [.blk 0, .c b_command_resume_r1]
abbrev f_command_resume := finF [(.tmp 4), (.tmp 5)] false
def c_command_resume : AFn := .code 2 228 b_command_resume [(.tmp 4), (.tmp 5)] false
-- 24
def b_command_first_r0 : ACode := (sq (rF [o1 2 (mI 0)]) .ret)
def b_command_first_l0 : ACode := (sq (rF [o1 8 (aX .lss 7 6)]) (sq (cn 8 .skip (.exit 0)) (sq (.block 1 (sq (rF [o1 9 (iX 1 5 7), lF 10 1 9, m1 4 10]) (sq (rF [m1 11 4, o1 12 (aK .neq 11 0)]) (cn 12
  (sq (rF [m1 13 4, m1 2 13]) .ret) .skip)))) (rF [o1 14 (aK .add 7 1), m1 7 14]))))
def b_command_first : ACode := (sq (rF [o1 2 (mI 0)]) (sq (sq (rF [m1 5 0, o1 6 (nX 5), o1 7 (mI 0)]) (.block 0 (.loop b_command_first_l0))) b_command_first_r0))
abbrev k_command_first_0 : List K := [.blk 0, .c b_command_first_r0]
abbrev f_command_first := finF [(.tmp 2)] false
def c_command_first : AFn := .code 1 15 b_command_first [(.tmp 2)] false
-- 25
def b_command_CheckEvent : ACode := (sq (rF [o1 1 (.box 2 (t1 0)), o1 2 (mI 0)]) (sq (rF [o1 5 (cF 45 []), o1 3 (.alloc [.v (.string ⟨#[]⟩), .v (.int .i64 0), .v (.int .i64 0), .v .nilFunc, .v
  (.string ⟨#[]⟩), .v (.int .i64 0), .v (.int .i64 0), .v .nilFunc, .v (.string ⟨#[]⟩), .v (.int .i64 0), .v (.int .i64 0), .v .nilFunc, .v (.string ⟨#[]⟩), .v (.int .i64 0), .v (.int .i64 0), .v
  .nilFunc, .v (.string ⟨#[]⟩), .v (.int .i64 0), .v (.int .i64 0), .v .nilFunc, .v (.string ⟨#[]⟩), .v (.int .i64 0), .v (.int .i64 0), .v .nilFunc, .v (.string ⟨#[]⟩), .v (.int .i64 0), .v (.int
  .i64 0), .v .nilFunc, .v (.string ⟨#[]⟩), .v (.int .i64 0), .v (.int .i64 0), .v .nilFunc, .v (.string ⟨#[]⟩), .v (.int .i64 0), .v (.int .i64 0), .v .nilFunc]), sT 36 3 5]) (sq (sq (rF [fA 6 0 1,
  lF 7 1 6, o1 8 (cF 29 [t1 7, i1 0, i1 8]), o1 9 (uX 8)]) (cn 9 (sq (rF [o1 2 (mI 15)]) .ret) .skip)) (sq (rF [fA 10 0 1, lF 11 1 10, o1 12 (.indexAddr (some 9) 4 (t1 3) (t1 11)), lT 13 4 12, o1 4
  (.alloc [.v (.string ⟨#[]⟩), .v (.int .i64 0), .v (.int .i64 0), .v .nilFunc]), sT 4 4 13]) (sq (sq (rF [fA 14 2 4, lF 15 1 14, o1 16 (aK .eql 15 0)]) (cn 16 (sq (rF [fA 17 1 1, lF 18 1 17, o1 19
  (aK .eql 18 0), o1 20 (cF 31 [t1 19, i1 3]), m1 2 20]) .ret) .skip)) (sq (rF [fA 21 1 1, lF 22 1 21, fA 23 1 4, lF 24 1 23, fA 25 2 4, lF 26 1 25, o1 27 (cF 29 [t1 22, t1 24, t1 26]), o1 28 (cF 31
  [t1 27, i1 2]), m1 2 28]) .ret))))))
abbrev f_command_CheckEvent := finF [(.tmp 2)] false
def c_command_CheckEvent : AFn := .code 1 29 b_command_CheckEvent [(.tmp 2)] false
-- 26
def b_command_link_process : ACode := (sq (rF [o1 3 (.box 2 (t1 1)), o1 4 (mI 0)]) (sq (rT [o1 5 (.call true 45 []), fA 6 0 3, lF 7 1 6, o1 8 (.index 9 4 true (t1 5) (t1 7)), o1 9 (.field false 1 3
  (t1 8)), m1 10 0, fA 11 1 3, lF 12 1 11, o1 13 (.callv false (t1 9) [t1 10, t1 12]), m1 4 13]) .ret))
abbrev f_command_link_process := finF [(.tmp 4)] false
def c_command_link_process : AFn := .code 2 14 b_command_link_process [(.tmp 4)] false
-- 27
def b_b_CopyInts : ACode := (sq (rF [o1 2 (.move (.const (.slice .nilS 0 [])))]) (sq (rF [o1 3 (.buildSlice 1 [] []), m1 4 0, o1 5 (.appendi 1 (t1 3) (t1 4)), m1 2 5]) .ret))
abbrev f_b_CopyInts := finF [(.tmp 2)] false
def c_b_CopyInts : AFn := .code 1 6 b_b_CopyInts [(.tmp 2)] false
-- 28
def b_command_ForbiddenBy_1 : ACode := (sq (rF [o1 3 (mB false)]) (sq (rF [m1 4 0, o1 5 (aK .neq 4 (-1)), m1 6 5, gT 7 6 (mX 0), gT 8 6 (fX 1 1), gT 9 6 (lX 1 8), gT 10 6 (cF 29 [t1 7, i1 0, t1 9]),
  gT 11 6 (uX 10), o1 12 (pA 6 11), m1 3 12]) .ret))
abbrev f_command_ForbiddenBy_1 := finF [(.tmp 3)] false
def c_command_ForbiddenBy_1 : AFn := .code 2 13 b_command_ForbiddenBy_1 [(.tmp 3)] false
-- 29
def b_command_within : ACode := (sq (rF [o1 6 (mB false)]) (sq (rF [m1 7 1, m1 8 0, o1 9 (aX .leq 7 8), m1 10 9, gT 11 10 (mX 0), gT 12 10 (mX 2), gT 13 10 (aX .leq 11 12), o1 14 (pA 10 13), m1 6 14])
  .ret))
abbrev f_command_within := finF [(.tmp 6)] false
def c_command_within : AFn := .code 3 15 b_command_within [(.tmp 6)] false
-- 30
def b_command_modelErr : ACode := (sq (rF [o1 1 (.box 3 (t1 0)), o1 2 (mI 0)]) (sq (rF [lT 6 3 1, o1 7 (cF 46 [t1 6]), m1 5 7, o1 8 (eX 0 5), o1 9 (eX 1 5), o1 3 (.alloc [.v (.int .i64 0), .v (.int
  .i64 0)]), sT 2 3 8, m1 4 9]) (sq (rF [m1 10 4, m1 2 10]) .ret)))
abbrev f_command_modelErr := finF [(.tmp 2)] false
def c_command_modelErr : AFn := .code 1 11 b_command_modelErr [(.tmp 2)] false
-- 31
def b_command_unless : ACode := (sq (rF [o1 4 (mI 0)]) (sq (sq (rF [m1 5 0]) (cn 5 (sq (rF [o1 4 (mI 0)]) .ret) .skip)) (sq (rF [m1 6 1, m1 4 6]) .ret)))
abbrev f_command_unless := finF [(.tmp 4)] false
def c_command_unless : AFn := .code 2 7 b_command_unless [(.tmp 4)] false
-- 32
def b_command_isTick : ACode := (sq (rF [o1 2 (mB false)]) (sq (rF [m1 3 0, o1 4 (cF 29 [t1 3, i1 0, i1 1000000000000]), m1 2 4]) .ret))
abbrev f_command_isTick := finF [(.tmp 2)] false
def c_command_isTick : AFn := .code 1 5 b_command_isTick [(.tmp 2)] false
-- 33
def b_z_ContainsFunc_int : ACode := (sq (rF [o1 4 (mB false)]) (sq (rF [m1 5 0, m1 6 1, o1 7 (cF 47 [t1 5, t1 6]), o1 8 (aK .geq 7 0), m1 4 8]) .ret))
abbrev f_z_ContainsFunc_int := finF [(.tmp 4)] false
def c_z_ContainsFunc_int : AFn := .code 2 9 b_z_ContainsFunc_int [(.tmp 4)] false
-- 34
def b_command_probe_forbids_r0 : ACode := (sq (rF [o1 4 (.move (.const (.v (.pointer none))))]) .ret)
def b_command_probe_forbids_l0 : ACode := (sq (rF [o1 14 (aX .lss 13 12)]) (sq (cn 14 .skip (.exit 0)) (sq (.block 1 (sq (rF [m1 15 13, o1 16 (iX 5 11 13), lT 17 5 16, o1 6 (.alloc [.v (.string
  ⟨#[]⟩), .v (.int .i64 0), .v (.int .i64 0), .v (.int .i64 0), .v (.int .i64 0)]), m1 5 15, sT 5 6 17]) (sq (sq (rF [m1 18 0, lT 19 5 6, m1 20 1, o1 21 (cF 48 [t1 18, t1 19, t1 20]), o1 22 (uX 21)])
  (cn 22 (.exit 1) .skip)) (sq (rT [fA 23 3 6, lF 24 1 23, o1 25 (aK .eql 24 (-1)), m1 26 25, gF 27 26 (mX 0), gF 28 26 (.nilCheck (t1 27)), gF 29 26 (fX 3 28), gF 30 26 (fX 2 29), gF 31 26 (lX 1 30),
  gF 32 26 (fX 3 6), gF 33 26 (lX 1 32), gF 34 26 (iX 1 31 33), gF 35 26 (lX 1 34), gF 36 26 (aK .neq 35 (-1)), gF 37 26 (mX 36), gT 38 37 (mX 0), gT 39 37 (.nilCheck (t1 38)), gT 40 37 (fX 3 39), gT
  41 37 (fX 1 40), gT 42 37 (lX 1 41), gT 43 37 (mX 0), gT 44 37 (.nilCheck (t1 43)), gT 45 37 (fX 3 44), gT 46 37 (fX 2 45), gT 47 37 (lX 1 46), gT 48 37 (fX 3 6), gT 49 37 (lX 1 48), gT 50 37 (iX 1
  47 49), gT 51 37 (lX 1 50), gT 52 37 (aX .sub 42 51), gT 53 37 (fX 4 6), gT 54 37 (lX 1 53), gT 55 37 (aX .lss 52 54), gF 56 26 (pA 37 55), o1 57 (pB 26 56)]) (cn 57 (sq (rF [m1 58 0, o1 59
  (.nilCheck (t1 58)), fA 60 0 59, fA 61 2 60, lF 62 1 61, m1 63 5, o1 64 (iX 5 62 63), m1 4 64]) .ret) .skip))))) (rF [o1 65 (aK .add 13 1), m1 13 65]))))
def b_command_probe_forbids : ACode := (sq (rF [o1 4 (.move (.const (.v (.pointer none))))]) (sq (sq (rF [m1 7 0, o1 8 (.nilCheck (t1 7)), fA 9 0 8, fA 10 2 9, lF 11 1 10, o1 12 (nX 11), o1 13 (mI
  0)]) (.block 0 (.loop b_command_probe_forbids_l0))) b_command_probe_forbids_r0))
abbrev k_command_probe_forbids_0 : List K := [.blk 0, .c b_command_probe_forbids_r0]
abbrev f_command_probe_forbids := finF [(.tmp 4)] false
def c_command_probe_forbids : AFn := .code 2 66 b_command_probe_forbids [(.tmp 4)] false
-- 35
def b_b_CopyTexts : ACode := (sq (rF [o1 2 (.move (.const (.slice .nilS 0 [])))]) (sq (rF [o1 3 (.buildSlice 1 [] []), m1 4 0, o1 5 (.append 1 (t1 3) (t1 4)), m1 2 5]) .ret))
abbrev f_b_CopyTexts := finF [(.tmp 2)] false
def c_b_CopyTexts : AFn := .code 1 6 b_b_CopyTexts [(.tmp 2)] false
-- 36
def b_command_CheckFile_r0 : ACode := (sq (rF [o1 4 (mI 0), o1 5 (mI 0)]) .ret)
def b_command_CheckFile_l0 : ACode := (sq (rF [o1 28 (aX .lss 27 26)]) (sq (cn 28 .skip (.exit 0)) (sq (.block 1 (sq (rF [m1 29 27, o1 30 (iX 3 25 27), lT 31 3 30, o1 8 (.alloc [.v (.int .i64 0), .v
  (.int .i64 0), .v (.int .i64 0)]), m1 7 29, sT 3 8 31]) (sq (rF [lT 32 3 2, lT 33 3 8, o1 34 (cF 49 [t1 32, t1 33]), m1 9 34]) (sq (rF [m1 35 9, o1 36 (aK .neq 35 0)]) (cn 36 (sq (rF [m1 37 7, m1 38
  9, m1 4 37, m1 5 38]) .ret) .skip))))) (rF [o1 39 (aK .add 27 1), m1 27 39]))))
def b_command_CheckFile : ACode := (sq (rF [o1 2 (.box 3 (t1 0)), o1 4 (mI 0), o1 5 (mI 0)]) (sq (sq (rF [lT 10 3 2, o1 11 (cF 30 [t1 10]), m1 12 1, o1 13 (nX 12), o1 14 (aK .gtr 13 0), o1 15 (cF 31
  [t1 14, i1 10]), m1 16 1, o1 17 (nX 16), o1 18 (aK .leq 17 12), o1 19 (cF 31 [t1 18, i1 8]), o1 20 (.buildSlice 1 [[.v (.int .i64 0)], [.v (.int .i64 0)], [.v (.int .i64 0)]] [(0, (t1 11)), (1, (t1
  15)), (2, (t1 19))]), o1 21 (cF 24 [t1 20]), m1 6 21]) (sq (rF [m1 22 6, o1 23 (aK .neq 22 0)]) (cn 23 (sq (rF [m1 24 6, o1 4 (mI 0), m1 5 24]) .ret) .skip))) (sq (sq (rF [m1 25 1, o1 26 (nX 25), o1
  27 (mI 0)]) (.block 0 (.loop b_command_CheckFile_l0))) b_command_CheckFile_r0)))
abbrev k_command_CheckFile_0 : List K := [.blk 0, .c b_command_CheckFile_r0]
abbrev f_command_CheckFile := finF [(.tmp 4), (.tmp 5)] false
def c_command_CheckFile : AFn := .code 2 40 b_command_CheckFile [(.tmp 4), (.tmp 5)] false
-- 37
def b_command_newProbe : ACode := (sq (rF [o1 1 (.box 3 (t1 0)), o1 2 (.move (.const (.v (.pointer none))))]) (sq (rT [lT 3 3 1, o1 4 (.buildSlice 1 [[.v (.int .i64 0)]] [(0, (i1 (-1)))]), fA 5 1 1,
  lF 6 1 5, o1 7 (nX 6), o1 8 (.callb 50 [t1 4, t1 7]), o1 9 (.build [.v (.int .i64 0), .v (.int .i64 0), .slice .nilS 0 []] [(2, (1, (t1 8)))]), o1 10 (.build [.slice .nilS 0 [], .slice .nilS 0 [],
  .slice .nilS 0 [], .v (.int .i64 0), .v (.int .i64 0), .slice .nilS 0 []] [(0, (3, (t1 3))), (3, (3, (t1 9)))]), o1 11 (.box 6 (t1 10)), m1 2 11]) .ret))
abbrev f_command_newProbe := finF [(.tmp 2)] false
def c_command_newProbe : AFn := .code 1 12 b_command_newProbe [(.tmp 2)] false
-- 38
def b_command_probe_execute : ACode := (sq (rF [o1 3 (.box 3 (t1 1))]) (sq (rT [m1 5 0, o1 6 (.nilCheck (t1 5)), fA 7 3 6, fA 8 2 7, lF 9 1 8, fA 10 0 3, lF 11 1 10, m1 12 0, o1 13 (.nilCheck (t1
  12)), fA 14 3 13, fA 15 1 14, lF 16 1 15, o1 17 (iX 1 9 11), sT 1 17 16]) (sq (rT [m1 18 0, o1 19 (.nilCheck (t1 18)), fA 20 0 19, fA 21 1 20, lF 22 1 21, fA 23 0 3, lF 24 1 23, o1 25 (iX 2 22 24),
  fA 26 1 25, lF 27 1 26, m1 4 27]) (sq (rF [m1 28 4, o1 29 (aK .neq 28 (-1))]) (cn 29 (rF [m1 30 0, m1 31 4, o1 32 (.nilCheck (t1 30)), fA 33 3 32, fA 34 0 33, sT 1 34 31]) .skip)))))
abbrev f_command_probe_execute := finF [] false
def c_command_probe_execute : AFn := .code 2 35 b_command_probe_execute [] false
-- 39
def b_command_Replay_r0 : ACode := (sq (rF [m1 46 8, o1 47 (.nilCheck (t1 46)), fA 48 6 47, lT 49 8 48, sT 8 4 49, o1 5 (mI 0), o1 6 (mI 0)]) .ret)
def b_command_Replay_l0 : ACode := (sq (rF [o1 29 (aX .lss 28 27)]) (sq (cn 29 .skip (.exit 0)) (sq (.block 1 (sq (rF [m1 30 28, o1 31 (iX 2 26 28), lT 32 2 31, o1 10 (.alloc [.v (.int .i64 0), .v
  (.int .i64 0)]), m1 9 30, sT 2 10 32]) (sq (rF [lT 33 2 10, o1 34 (cF 25 [t1 33]), m1 11 34]) (sq (sq (rF [m1 35 11, o1 36 (aK .eql 35 0)]) (cn 36 (rF [m1 37 8, lT 38 2 10, o1 39 (cF 26 [t1 37, t1
  38]), m1 11 39]) .skip)) (sq (rF [m1 40 11, o1 41 (aK .neq 40 0)]) (cn 41 (sq (rF [o1 42 (.build [.v (.int .i64 0), .v (.int .i64 0), .slice .nilS 0 [], .v (.bool false), .v (.int .i64 0), .v (.bool
  false), .slice .nilS 0 [], .slice .nilS 0 []] []), m1 43 9, m1 44 11, sT 8 4 42, m1 5 43, m1 6 44]) .ret) .skip)))))) (rF [o1 45 (aK .add 28 1), m1 28 45]))))
def b_command_Replay : ACode := (sq (rF [o1 2 (.box 6 (t1 0)), o1 4 (.alloc [.v (.int .i64 0), .v (.int .i64 0), .slice .nilS 0 [], .v (.bool false), .v (.int .i64 0), .v (.bool false), .slice .nilS 0
  [], .slice .nilS 0 []]), o1 5 (mI 0), o1 6 (mI 0)]) (sq (sq (rF [lT 12 6 2, o1 13 (cF 21 [t1 12]), m1 14 1, o1 15 (nX 14), o1 16 (aK .leq 15 200), o1 17 (cF 31 [t1 16, i1 8]), o1 18 (.buildSlice 1
  [[.v (.int .i64 0)], [.v (.int .i64 0)]] [(0, (t1 13)), (1, (t1 17))]), o1 19 (cF 24 [t1 18]), m1 7 19]) (sq (rF [m1 20 7, o1 21 (aK .neq 20 0)]) (cn 21 (sq (rF [o1 22 (.build [.v (.int .i64 0), .v
  (.int .i64 0), .slice .nilS 0 [], .v (.bool false), .v (.int .i64 0), .v (.bool false), .slice .nilS 0 [], .slice .nilS 0 []] []), m1 23 7, sT 8 4 22, o1 5 (mI 0), m1 6 23]) .ret) .skip))) (sq (rF
  [lT 24 6 2, o1 25 (.calli 41 [t1 24]), m1 8 25]) (sq (sq (rF [m1 26 1, o1 27 (nX 26), o1 28 (mI 0)]) (.block 0 (.loop b_command_Replay_l0))) b_command_Replay_r0))))
abbrev k_command_Replay_0 : List K := [.blk 0, .c b_command_Replay_r0]
abbrev f_command_Replay := finF [(.cell true 8 4), (.tmp 5), (.tmp 6)] false
def c_command_Replay : AFn := .code 2 50 b_command_Replay [(.cell true 8 4), (.tmp 5), (.tmp 6)] false
-- 40
def b_r_FileErr : ACode := (sq (rF [o1 2 (.box 3 (t1 0)), o1 4 (mI 0)]) (sq (sq (rF [lT 8 3 2, o1 9 (cF 51 [t1 8]), m1 5 9]) (sq (rF [m1 10 5, o1 11 (aK .neq 10 0)]) (cn 11 (sq (rF [m1 12 5, m1 4 12])
  .ret) .skip))) (sq (rF [lT 14 3 2, m1 15 1, o1 16 (cF 52 [t1 14, t1 15]), m1 13 16, o1 17 (eX 0 13), o1 18 (eX 1 13), m1 6 17, m1 7 18]) (sq (rF [m1 19 7, m1 4 19]) .ret))))
abbrev f_r_FileErr := finF [(.tmp 4)] false
def c_r_FileErr : AFn := .code 2 20 b_r_FileErr [(.tmp 4)] false
-- 41
def b_command_begin : ACode := (sq (rF [o1 1 (.box 6 (t1 0)), o1 2 (.move (.const (.v (.pointer none))))]) (sq (rT [lT 3 6 1, fA 4 0 1, lT 5 3 4, o1 6 (.calliq 37 [t1 5] [(true, (6, 1))]), o1 7
  (.build [.slice .nilS 0 [], .slice .nilS 0 [], .slice .nilS 0 [], .slice .nilS 0 [], .v (.int .i64 0), .v (.int .i64 0), .v (.int .i64 0), .v (.int .i64 0), .slice .nilS 0 [], .v (.bool false), .v
  (.int .i64 0), .v (.bool false), .slice .nilS 0 [], .slice .nilS 0 [], .v (.pointer none)] [(0, (6, (t1 3))), (14, (1, (t1 6)))]), o1 8 (.box 15 (t1 7)), m1 2 8]) .ret))
abbrev f_command_begin := finF [(.tmp 2)] false
def c_command_begin : AFn := .code 1 9 b_command_begin [(.tmp 2)] false
-- 42
def b_command_link_state : ACode := (sq (rF [o1 2 (.alloc [.v (.int .i64 0), .v (.int .i64 0), .slice .nilS 0 [], .v (.bool false), .v (.int .i64 0), .v (.bool false), .slice .nilS 0 [], .slice .nilS
  0 []])]) (sq (rF [m1 4 0, o1 5 (.nilCheck (t1 4)), fA 6 6 5, lT 7 8 6, o1 3 (.alloc [.v (.int .i64 0), .v (.int .i64 0), .slice .nilS 0 [], .v (.bool false), .v (.int .i64 0), .v (.bool false),
  .slice .nilS 0 [], .slice .nilS 0 []]), sT 8 3 7]) (sq (sq (rF [⟨none, none, (.reserve 1)⟩]) (rT [fA 8 2 3, o1 9 (.loadd false 1 (t1 8)), o1 10 (.callb 53 [t1 9]), fA 11 6 3, o1 12 (.loadd false 1
  (t1 11)), o1 13 (.callb 54 [t1 12]), fA 14 7 3, o1 15 (.loadd false 1 (t1 14)), o1 16 (.callb 55 [t1 15]), fA 17 2 3, sT 1 17 10, fA 18 6 3, sT 1 18 13, fA 19 7 3, sT 1 19 16])) (sq (rF [lT 20 8 3,
  sT 8 2 20]) .ret))))
abbrev f_command_link_state := finF [(.cell true 8 2)] false
def c_command_link_state : AFn := .code 1 21 b_command_link_state [(.cell true 8 2)] false
-- 43
def b_command_probe_accepts : ACode := (sq (rF [o1 3 (.box 3 (t1 1)), o1 4 (mB false)]) (sq (rT [m1 5 0, o1 6 (.nilCheck (t1 5)), fA 7 3 6, fA 8 1 7, lF 9 1 8, fA 10 1 3, fA 11 0 10, lF 12 1 11, fA 13
  1 3, fA 14 1 13, lF 15 1 14, o1 16 (cF 29 [t1 9, t1 12, t1 15]), m1 17 16, gT 18 17 (mX 0), gT 19 17 (fX 0 3), gT 20 17 (lX 1 19), gT 21 17 (cF 34 [t1 18, t1 20]), gT 22 17 (.eqv false .ptr (t1 21)
  (.const (.v (.pointer none)))), o1 23 (pA 17 22), m1 4 23]) .ret))
abbrev f_command_probe_accepts := finF [(.tmp 4)] false
def c_command_probe_accepts : AFn := .code 2 24 b_command_probe_accepts [(.tmp 4)] false
-- 44
def b_command_resume_1 : ACode := (sq (rF [o1 3 (mB false)]) (sq (rF [m1 4 0, fA 5 3 1, lF 6 1 5, o1 7 (nX 6), o1 8 (aK .sub 7 1), o1 9 (cF 29 [t1 4, i1 0, t1 8]), o1 10 (uX 9), m1 3 10]) .ret))
abbrev f_command_resume_1 := finF [(.tmp 3)] false
def c_command_resume_1 : AFn := .code 2 11 b_command_resume_1 [(.tmp 3)] false
-- 45
def b_command_kinds : ACode := (sq (rF [o1 0 (.alloc [.v (.string ⟨#[]⟩), .v (.int .i64 0), .v (.int .i64 0), .v .nilFunc, .v (.string ⟨#[]⟩), .v (.int .i64 0), .v (.int .i64 0), .v .nilFunc, .v
  (.string ⟨#[]⟩), .v (.int .i64 0), .v (.int .i64 0), .v .nilFunc, .v (.string ⟨#[]⟩), .v (.int .i64 0), .v (.int .i64 0), .v .nilFunc, .v (.string ⟨#[]⟩), .v (.int .i64 0), .v (.int .i64 0), .v
  .nilFunc, .v (.string ⟨#[]⟩), .v (.int .i64 0), .v (.int .i64 0), .v .nilFunc, .v (.string ⟨#[]⟩), .v (.int .i64 0), .v (.int .i64 0), .v .nilFunc, .v (.string ⟨#[]⟩), .v (.int .i64 0), .v (.int
  .i64 0), .v .nilFunc, .v (.string ⟨#[]⟩), .v (.int .i64 0), .v (.int .i64 0), .v .nilFunc])]) (sq (rF [o1 1 (.build [.v (.string ⟨#[]⟩), .v (.int .i64 0), .v (.int .i64 0), .v .nilFunc] [(0, (1,
  (.const (.v (.string ⟨#[112, 97, 115, 115]⟩))))), (1, (1, (i1 1))), (2, (1, (i1 1000000000000))), (3, (1, (.const (.fn 56 [] []))))]), o1 2 (.build [.v (.string ⟨#[]⟩), .v (.int .i64 0), .v (.int
  .i64 0), .v .nilFunc] [(0, (1, (.const (.v (.string ⟨#[115, 101, 110, 100]⟩))))), (1, (1, (i1 0))), (2, (1, (i1 11))), (3, (1, (.const (.fn 57 [] []))))]), o1 3 (.build [.v (.string ⟨#[]⟩), .v (.int
  .i64 0), .v (.int .i64 0), .v .nilFunc] [(0, (1, (.const (.v (.string ⟨#[97, 114, 114, 105, 118, 101]⟩))))), (1, (1, (i1 0))), (2, (1, (i1 5))), (3, (1, (.const (.fn 58 [] []))))]), o1 4 (.build [.v
  (.string ⟨#[]⟩), .v (.int .i64 0), .v (.int .i64 0), .v .nilFunc] [(0, (1, (.const (.v (.string ⟨#[104, 101, 97, 114]⟩))))), (1, (1, (i1 0))), (2, (1, (i1 5))), (3, (1, (.const (.fn 59 [] []))))]),
  o1 5 (.build [.v (.string ⟨#[]⟩), .v (.int .i64 0), .v (.int .i64 0), .v .nilFunc] [(0, (1, (.const (.v (.string ⟨#[108, 111, 115, 101]⟩))))), (1, (1, (i1 0))), (2, (1, (i1 5))), (3, (1, (.const
  (.fn 60 [] []))))]), o1 6 (.build [.v (.string ⟨#[]⟩), .v (.int .i64 0), .v (.int .i64 0), .v .nilFunc] [(0, (1, (.const (.v (.string ⟨#[100, 114, 111, 112]⟩))))), (1, (1, (i1 0))), (2, (1, (i1
  5))), (3, (1, (.const (.fn 61 [] []))))]), o1 7 (.build [.v (.string ⟨#[]⟩), .v (.int .i64 0), .v (.int .i64 0), .v .nilFunc] [(0, (1, (.const (.v (.string ⟨#[114, 101, 112, 101, 97, 116]⟩))))), (1,
  (1, (i1 0))), (2, (1, (i1 5))), (3, (1, (.const (.fn 62 [] []))))]), o1 8 (.build [.v (.string ⟨#[]⟩), .v (.int .i64 0), .v (.int .i64 0), .v .nilFunc] [(0, (1, (.const (.v (.string ⟨#[114, 101,
  115, 116, 97, 114, 116]⟩))))), (1, (1, (i1 0))), (2, (1, (i1 0))), (3, (1, (.const (.fn 63 [] []))))]), o1 9 (.build [.v (.string ⟨#[]⟩), .v (.int .i64 0), .v (.int .i64 0), .v .nilFunc] [(0, (1,
  (.const (.v (.string ⟨#[114, 101, 98, 111, 111, 116]⟩))))), (1, (1, (i1 0))), (2, (1, (i1 0))), (3, (1, (.const (.fn 64 [] []))))]), o1 10 (.build [.v (.string ⟨#[]⟩), .v (.int .i64 0), .v (.int
  .i64 0), .v .nilFunc, .v (.string ⟨#[]⟩), .v (.int .i64 0), .v (.int .i64 0), .v .nilFunc, .v (.string ⟨#[]⟩), .v (.int .i64 0), .v (.int .i64 0), .v .nilFunc, .v (.string ⟨#[]⟩), .v (.int .i64 0),
  .v (.int .i64 0), .v .nilFunc, .v (.string ⟨#[]⟩), .v (.int .i64 0), .v (.int .i64 0), .v .nilFunc, .v (.string ⟨#[]⟩), .v (.int .i64 0), .v (.int .i64 0), .v .nilFunc, .v (.string ⟨#[]⟩), .v (.int
  .i64 0), .v (.int .i64 0), .v .nilFunc, .v (.string ⟨#[]⟩), .v (.int .i64 0), .v (.int .i64 0), .v .nilFunc, .v (.string ⟨#[]⟩), .v (.int .i64 0), .v (.int .i64 0), .v .nilFunc] [(0, (4, (t1 1))),
  (4, (4, (t1 2))), (8, (4, (t1 3))), (12, (4, (t1 4))), (16, (4, (t1 5))), (20, (4, (t1 6))), (24, (4, (t1 7))), (28, (4, (t1 8))), (32, (4, (t1 9)))]), sT 36 0 10]) .ret))
abbrev f_command_kinds := finF [(.cell true 36 0)] false
def c_command_kinds : AFn := .code 0 11 b_command_kinds [(.cell true 36 0)] false
-- 46
def b_command_CheckModel : ACode := (sq (rF [o1 1 (.box 3 (t1 0)), o1 2 (.alloc [.v (.int .i64 0), .v (.int .i64 0)]), o1 3 (mI 0)]) (sq (rF [o1 4 (.alloc [.v (.int .i64 0), .v (.int .i64 0), .v (.int
  .i64 0)])]) (sq (rF [o1 5 (.alloc [.v .nilFunc]), ⟨none, none, (.store 1 (t1 5) (.const (.fn 65 [] [])))⟩]) (sq (sq (rF [⟨none, none, (.reserve 2)⟩]) (rT [fA 8 0 1, o1 9 (.loadr 2 false 1 (t1 8)),
  o1 10 (nX 9), fA 11 1 1, o1 12 (.loadr 2 false 1 (t1 11)), o1 13 (nX 12), o1 6 (.slot 2 [.v (.int .i64 0)]), o1 7 (.slot 1 [.v (.int .i64 0)]), ⟨none, none, (.fill 2 1 (t1 6) (t1 10))⟩, ⟨none, none,
  (.fill 1 1 (t1 7) (t1 13))⟩])) (sq (rF [lF 14 1 6, o1 15 (.mkFn 67 [] [t1 1]), o1 16 (cF 66 [t1 4, i1 1, t1 14, i1 1, i1 6, t1 15, .const (.fn 68 [] [])])]) (sq (rF [lF 17 1 7, o1 18 (.mkFn 69 []
  [t1 1]), o1 19 (.mkFn 70 [] [t1 5, t1 1, t1 6]), o1 20 (cF 66 [t1 4, i1 2, t1 17, i1 1, i1 8, t1 18, t1 19])]) (sq (rF [fA 21 2 1, lF 22 1 21, o1 23 (nX 22), o1 24 (.mkFn 71 [] [t1 1]), o1 25 (.mkFn
  72 [] [t1 1, t1 7, t1 5, t1 6]), o1 26 (cF 66 [t1 4, i1 3, t1 23, i1 0, i1 10, t1 24, t1 25])]) (sq (rT [fA 27 0 4, o1 28 (.loadq true 2 (t1 27) 0 4), fA 29 2 4, o1 30 (.loadq false 1 (t1 29) 2 4),
  ⟨none, none, (.storeq 2 (t1 2) (t1 28) [(false, (1, (2, 4)))])⟩, m1 3 30]) .ret))))))))
abbrev f_command_CheckModel := finF [(.cell true 2 2), (.tmp 3)] false
def c_command_CheckModel : AFn := .code 1 31 b_command_CheckModel [(.cell true 2 2), (.tmp 3)] false
-- 47
def b_z_IndexFunc_int_r0 : ACode := (sq (rF [o1 4 (mI (-1))]) .ret)
def b_z_IndexFunc_int_l0 : ACode := (sq (rF [o1 9 (aX .lss 8 7)]) (sq (cn 9 .skip (.exit 0)) (sq (.block 1 (sq (rF [m1 10 8, m1 5 10]) (sq (rF [m1 11 1, m1 12 0, m1 13 5, o1 14 (iX 1 12 13), lF 15 1
  14, o1 16 (.callv false (t1 11) [t1 15])]) (cn 16 (sq (rF [m1 17 5, m1 4 17]) .ret) .skip)))) (rF [o1 18 (aK .add 8 1), m1 8 18]))))
def b_z_IndexFunc_int : ACode := (sq (rF [o1 4 (mI 0)]) (sq (sq (rF [m1 6 0, o1 7 (nX 6), o1 8 (mI 0)]) (.block 0 (.loop b_z_IndexFunc_int_l0))) b_z_IndexFunc_int_r0))
abbrev k_z_IndexFunc_int_0 : List K := [.blk 0, .c b_z_IndexFunc_int_r0]
abbrev f_z_IndexFunc_int := finF [(.tmp 4)] false
def c_z_IndexFunc_int : AFn := .code 2 19 b_z_IndexFunc_int [(.tmp 4)] false
-- 48
def b_command_probe_concerns : ACode := (sq (rF [o1 4 (.box 5 (t1 1)), o1 6 (mB false)]) (sq (rT [fA 7 1 4, lF 8 1 7, m1 9 2, o1 10 (aX .eql 8 9), m1 11 10, gT 12 11 (fX 2 4), gT 13 11 (lX 1 12), gT
  14 11 (aK .eql 13 (-1)), gT 15 11 (mX 14), gF 16 15 (fX 2 4), gF 17 15 (lX 1 16), gF 18 15 (mX 0), gF 19 15 (.nilCheck (t1 18)), gF 20 15 (fX 3 19), gF 21 15 (fX 0 20), gF 22 15 (lX 1 21), gF 23 15
  (aX .eql 17 22), gT 24 11 (pB 15 23), o1 25 (pA 11 24), m1 6 25]) .ret))
abbrev f_command_probe_concerns := finF [(.tmp 6)] false
def c_command_probe_concerns : AFn := .code 3 26 b_command_probe_concerns [(.tmp 6)] false
-- 49
def b_command_actErr : ACode := (sq (rF [o1 2 (.box 3 (t1 0)), o1 3 (.box 3 (t1 1)), o1 4 (mI 0)]) (sq (rT [fA 5 0 3, lF 6 1 5, fA 7 1 2, lF 8 1 7, o1 9 (nX 8), o1 10 (aK .sub 9 1), o1 11 (.call true
  29 [t1 6, i1 0, t1 10]), o1 12 (.call true 31 [t1 11, i1 15]), fA 13 1 3, fA 14 0 13, lF 15 1 14, o1 16 (.call true 32 [t1 15]), m1 17 16, gT 18 17 (fX 1 3), gT 19 17 (fX 1 18), gT 20 17 (lX 1 19),
  gT 21 17 (.call true 32 [t1 20]), o1 22 (pA 17 21), o1 23 (.call true 31 [t1 22, i1 2]), fA 24 1 3, fA 25 0 24, lF 26 1 25, fA 27 1 3, fA 28 1 27, lF 29 1 28, o1 30 (aX .leq 26 29), o1 31 (cF 31 [t1
  30, i1 9]), o1 32 (.buildSlice 1 [[.v (.int .i64 0)], [.v (.int .i64 0)], [.v (.int .i64 0)]] [(0, (t1 12)), (1, (t1 23)), (2, (t1 31))]), o1 33 (cF 24 [t1 32]), m1 4 33]) .ret))
abbrev f_command_actErr := finF [(.tmp 4)] false
def c_command_actErr : AFn := .code 2 34 b_command_actErr [(.tmp 4)] false
-- 50
def b_z_Repeat_int_r0 : ACode := (sq (rF [m1 47 7, m1 4 47]) .ret)
def b_z_Repeat_int_l0 : ACode := (sq (sq (rF [m1 34 8, m1 35 7, o1 36 (nX 35), o1 37 (aX .lss 34 36)]) (cn 37 .skip (.exit 0))) (.block 1 (rT [m1 38 8, m1 39 7, m1 40 8, o1 41 (.slice (.sl 1) (t1 39)
  (some (t1 40)) none none), m1 42 7, m1 43 8, o1 44 (.slice (.sl 1) (t1 42) none (some (t1 43)) none), o1 45 (.copy (t1 41) (t1 44)), o1 46 (aX .add 38 45), m1 8 46])))
def b_z_Repeat_int : ACode := (sq (rF [o1 4 (.move (.const (.slice .nilS 0 [])))]) (sq (sq (rF [m1 9 1, o1 10 (aK .lss 9 0)]) (cn 10 (rF [o1 11 (.mkIface 9 (.const (.v (.string ⟨#[99, 97, 110, 110,
  111, 116, 32, 98, 101, 32, 110, 101, 103, 97, 116, 105, 118, 101]⟩)))), ⟨none, none, (.nilCheck (.const (.v (.tuple (.mk [])))))⟩]) .skip)) (sq (rF [m1 13 0, o1 14 (nX 13), o1 15 (.conv (.int .u64)
  (t1 14)), m1 16 1, o1 17 (.conv (.int .u64) (t1 16)), o1 18 (cF 73 [t1 15, t1 17]), m1 12 18, o1 19 (eX 0 12), o1 20 (eX 1 12), m1 5 19, m1 6 20]) (sq (sq (rF [m1 21 5, o1 22 (.arith .gtr (t1 21)
  (.const (.v (.int .u64 0)))), m1 23 22, gF 24 23 (mX 6), gF 25 23 (.arith .gtr (t1 24) (.const (.v (.int .u64 9223372036854775807)))), o1 26 (pB 23 25)]) (cn 26 (rF [o1 27 (.mkIface 9 (.const (.v
  (.string ⟨#[116, 104, 101, 32, 114, 101, 115, 117, 108, 116, 32, 111, 102, 32, 40, 108, 101, 110, 40, 120, 41, 32, 42, 32, 99, 111, 117, 110, 116, 41, 32, 111, 118, 101, 114, 102, 108, 111, 119,
  115]⟩)))), ⟨none, none, (.nilCheck (.const (.v (.tuple (.mk [])))))⟩]) .skip)) (sq (rF [m1 28 6, o1 29 (.conv (.int .i64) (t1 28)), o1 30 (.mkSlicem 1 [.v (.int .i64 0)] (t1 29) (t1 29)), m1 7 30])
  (sq (rF [m1 31 7, m1 32 0, o1 33 (.copy (t1 31) (t1 32)), m1 8 33]) (sq (.block 0 (.loop b_z_Repeat_int_l0)) b_z_Repeat_int_r0)))))))
abbrev k_z_Repeat_int_0 : List K := [.blk 0, .c b_z_Repeat_int_r0]
abbrev f_z_Repeat_int := finF [(.tmp 4)] true
def c_z_Repeat_int : AFn := .code 2 48 b_z_Repeat_int [(.tmp 4)] true
-- 51
def b_r_ModelErr : ACode := (sq (rF [o1 1 (.box 3 (t1 0)), o1 2 (mI 0)]) (sq (rF [lT 6 3 1, o1 7 (cF 74 [t1 6]), m1 5 7, o1 8 (eX 0 5), o1 9 (eX 1 5), o1 3 (.alloc [.v (.int .i64 0), .v (.int .i64
  0)]), sT 2 3 8, m1 4 9]) (sq (rF [m1 10 4, m1 2 10]) .ret)))
abbrev f_r_ModelErr := finF [(.tmp 2)] false
def c_r_ModelErr : AFn := .code 1 11 b_r_ModelErr [(.tmp 2)] false
-- 52
def b_r_CheckFile_r0 : ACode := (sq (rF [o1 4 (mI 0), o1 5 (mI 0)]) .ret)
def b_r_CheckFile_l0 : ACode := (sq (sq (rF [m1 13 6, m1 14 1, o1 15 (nX 14), o1 16 (aX .lss 13 15)]) (cn 16 .skip (.exit 0))) (sq (.block 1 (sq (sq (rT [m1 19 1, m1 20 6, o1 21 (iX 3 19 20), fA 22 0
  21, lF 23 1 22, fA 24 1 2, lF 25 1 24, o1 26 (nX 25), o1 27 (aK .sub 26 1), o1 28 (cF 10 [t1 23, i1 0, t1 27]), o1 29 (uX 28)]) (cn 29 (sq (rF [m1 30 6, m1 4 30, o1 5 (mI 15)]) .ret) .skip)) (sq (sq
  (rF [m1 31 1, m1 32 6, o1 33 (iX 3 31 32), fA 34 1 33, fA 35 0 34, lF 36 1 35, o1 37 (cF 10 [t1 36, i1 0, i1 1000000000000]), o1 38 (uX 37), m1 39 38, gF 40 39 (mX 1), gF 41 39 (mX 6), gF 42 39 (iX
  3 40 41), gF 43 39 (fX 1 42), gF 44 39 (fX 1 43), gF 45 39 (lX 1 44), gF 46 39 (cF 10 [t1 45, i1 0, i1 1000000000000]), gF 47 39 (uX 46), o1 48 (pB 39 47)]) (cn 48 (sq (rF [m1 49 6, m1 4 49, o1 5
  (mI 2)]) .ret) .skip)) (sq (rT [m1 50 1, m1 51 6, o1 52 (iX 3 50 51), fA 53 1 52, fA 54 0 53, lF 55 1 54, m1 56 1, m1 57 6, o1 58 (iX 3 56 57), fA 59 1 58, fA 60 1 59, lF 61 1 60, o1 62 (aX .gtr 55
  61)]) (cn 62 (sq (rF [m1 63 6, m1 4 63, o1 5 (mI 9)]) .ret) .skip))))) (rF [m1 17 6, o1 18 (aK .add 17 1), m1 6 18])))
def b_r_CheckFile : ACode := (sq (rF [o1 2 (.box 3 (t1 0)), o1 4 (mI 0), o1 5 (mI 0)]) (sq (sq (rF [m1 7 1, o1 8 (nX 7), o1 9 (aK .eql 8 0)]) (cn 9 (sq (rF [o1 4 (mI 0), o1 5 (mI 10)]) .ret) .skip))
  (sq (sq (rF [m1 10 1, o1 11 (nX 10), o1 12 (aK .gtr 11 12)]) (cn 12 (sq (rF [o1 4 (mI 0), o1 5 (mI 8)]) .ret) .skip)) (sq (sq (rF [o1 6 (mI 0)]) (.block 0 (.loop b_r_CheckFile_l0)))
  b_r_CheckFile_r0))))
abbrev k_r_CheckFile_0 : List K := [.blk 0, .c b_r_CheckFile_r0]
abbrev f_r_CheckFile := finF [(.tmp 4), (.tmp 5)] false
def c_r_CheckFile : AFn := .code 2 64 b_r_CheckFile [(.tmp 4), (.tmp 5)] false
-- 53
def b_z_Clone_CommandDone : ACode := (sq (rF [o1 2 (.move (.const (.slice .nilS 0 [])))]) (sq (sq (rF [m1 3 0, o1 4 (.eqv false .slice (t1 3) (.const (.slice .nilS 0 [])))]) (cn 4 (sq (rF [o1 2 (.move
  (.const (.slice .nilS 0 [])))]) .ret) .skip)) (sq (rF [o1 5 (.buildSlice 2 [] []), m1 6 0, o1 7 (.appendi 2 (t1 5) (t1 6)), m1 2 7]) .ret)))
abbrev f_z_Clone_CommandDone := finF [(.tmp 2)] true
def c_z_Clone_CommandDone : AFn := .code 1 8 b_z_Clone_CommandDone [(.tmp 2)] true
-- 54
def b_z_Clone_int : ACode := (sq (rF [o1 2 (.move (.const (.slice .nilS 0 [])))]) (sq (sq (rF [m1 3 0, o1 4 (.eqv false .slice (t1 3) (.const (.slice .nilS 0 [])))]) (cn 4 (sq (rF [o1 2 (.move (.const
  (.slice .nilS 0 [])))]) .ret) .skip)) (sq (rF [o1 5 (.buildSlice 1 [] []), m1 6 0, o1 7 (.appendi 1 (t1 5) (t1 6)), m1 2 7]) .ret)))
abbrev f_z_Clone_int := finF [(.tmp 2)] true
def c_z_Clone_int : AFn := .code 1 8 b_z_Clone_int [(.tmp 2)] true
-- 55
def b_z_Clone_CommandReport : ACode := (sq (rF [o1 2 (.move (.const (.slice .nilS 0 [])))]) (sq (sq (rF [m1 3 0, o1 4 (.eqv false .slice (t1 3) (.const (.slice .nilS 0 [])))]) (cn 4 (sq (rF [o1 2
  (.move (.const (.slice .nilS 0 [])))]) .ret) .skip)) (sq (rF [o1 5 (.buildSlice 2 [] []), m1 6 0, o1 7 (.appendi 2 (t1 5) (t1 6)), m1 2 7]) .ret)))
abbrev f_z_Clone_CommandReport := finF [(.tmp 2)] true
def c_z_Clone_CommandReport : AFn := .code 1 8 b_z_Clone_CommandReport [(.tmp 2)] true
-- 56
def b_command_link_pass : ACode := (sq (rF [o1 4 (mI 0)]) (sq (sq (rF [m1 5 0, o1 6 (.nilCheck (t1 5)), fA 7 6 6, fA 8 0 7, lF 9 1 8, m1 10 1, o1 11 (aX .add 9 10), o1 12 (aK .gtr 11 1000000000000)])
  (cn 12 (sq (rF [o1 4 (mI 2)]) .ret) .skip)) (sq (rF [m1 13 0, o1 14 (.nilCheck (t1 13)), fA 15 6 14, fA 16 0 15, lF 17 1 16, m1 18 1, o1 19 (aX .add 17 18), o1 20 (.nilCheck (t1 13)), fA 21 6 20, fA
  22 0 21, sT 1 22 19]) (sq (rT [m1 23 0, o1 24 (.nilCheck (t1 23)), fA 25 14 24, lF 26 1 25, m1 27 0, o1 28 (.nilCheck (t1 27)), fA 29 6 28, fA 30 0 29, lF 31 1 30, o1 32 (.nilCheck (t1 26)), fA 33 3
  32, fA 34 1 33, sT 1 34 31]) (sq (rF [o1 4 (mI 0)]) .ret)))))
abbrev f_command_link_pass := finF [(.tmp 4)] false
def c_command_link_pass : AFn := .code 2 35 b_command_link_pass [(.tmp 4)] false
-- 57
def b_command_link_send : ACode := (sq (rF [o1 4 (mI 0)]) (sq (rT [m1 6 1, m1 7 0, o1 8 (.nilCheck (t1 7)), fA 9 0 8, fA 10 3 9, lF 11 1 10, o1 12 (nX 11), o1 13 (aX .lss 6 12), o1 14 (.call true 31
  [t1 13, i1 6]), m1 15 0, o1 16 (.nilCheck (t1 15)), fA 17 6 16, fA 18 5 17, lF 19 1 18, o1 20 (uX 19), o1 21 (.call true 31 [t1 20, i1 21]), m1 22 1, m1 23 0, o1 24 (.nilCheck (t1 23)), fA 25 6 24,
  fA 26 4 25, lF 27 1 26, m1 28 0, o1 29 (.nilCheck (t1 28)), fA 30 6 29, fA 31 4 30, lF 32 1 31, m1 33 0, o1 34 (.nilCheck (t1 33)), fA 35 0 34, fA 36 4 35, lF 37 1 36, o1 38 (aX .add 32 37), o1 39
  (aK .sub 38 1), o1 40 (.call true 29 [t1 22, t1 27, t1 39]), o1 41 (.call true 31 [t1 40, i1 26]), m1 42 0, o1 43 (.nilCheck (t1 42)), fA 44 6 43, fA 45 6 44, lF 46 1 45, o1 47 (nX 46), m1 48 0, o1
  49 (.nilCheck (t1 48)), fA 50 0 49, fA 51 5 50, lF 52 1 51, o1 53 (aX .lss 47 52), o1 54 (cF 31 [t1 53, i1 16]), o1 55 (.buildSlice 1 [[.v (.int .i64 0)], [.v (.int .i64 0)], [.v (.int .i64 0)], [.v
  (.int .i64 0)]] [(0, (t1 14)), (1, (t1 21)), (2, (t1 41)), (3, (t1 54))]), o1 56 (cF 24 [t1 55]), m1 5 56]) (sq (sq (rF [m1 57 5, o1 58 (aK .eql 57 0)]) (cn 58 (rF [m1 59 0, m1 60 0, o1 61
  (.nilCheck (t1 60)), fA 62 6 61, fA 63 6 62, lF 64 1 63, m1 65 1, o1 66 (.rowBox 1 (t1 65)), o1 67 (.appendh 1 (t1 64) (t1 66) (t1 63)), o1 68 (.nilCheck (t1 59)), fA 69 6 68, fA 70 6 69, sT 1 70
  67]) .skip)) (sq (rF [m1 71 5, m1 4 71]) .ret))))
abbrev f_command_link_send := finF [(.tmp 4)] false
def c_command_link_send : AFn := .code 2 72 b_command_link_send [(.tmp 4)] false
-- 58
def b_command_link_arrive : ACode := (sq (rF [o1 4 (mI 0)]) (sq (rF [m1 9 0, o1 10 (.nilCheck (t1 9)), fA 11 6 10, fA 12 6 11, m1 13 1, o1 14 (cF 75 [t1 12, t1 13]), m1 8 14, o1 15 (eX 0 8), o1 16 (eX
  1 8), m1 5 15, m1 6 16]) (sq (sq (rF [m1 17 6, o1 18 (uX 17)]) (cn 18 (sq (rF [o1 4 (mI 6)]) .ret) .skip)) (sq (sq (rF [m1 19 0, o1 20 (.nilCheck (t1 19)), fA 21 6 20, fA 22 3 21, lF 23 1 22, o1 24
  (uX 23), m1 25 24, gT 26 25 (mX 5), gT 27 25 (mX 0), gT 28 25 (.nilCheck (t1 27)), gT 29 25 (fX 6 28), gT 30 25 (fX 2 29), gT 31 25 (lX 1 30), gT 32 25 (nX 31), gT 33 25 (aX .eql 26 32), o1 34 (pA
  25 33)]) (cn 34 (sq (rF [m1 35 0, o1 36 (.nilCheck (t1 35)), fA 37 0 36, fA 38 3 37, lF 39 1 38, m1 40 5, o1 41 (iX 3 39 40), lT 42 3 41, o1 7 (.alloc [.v (.int .i64 0), .v (.int .i64 0), .v (.int
  .i64 0)]), sT 3 7 42]) (sq (rT [m1 43 0, o1 44 (.nilCheck (t1 43)), fA 45 14 44, lF 46 1 45, lT 47 3 7, o1 48 (cF 43 [t1 46, t1 47])]) (cn 48 (sq (rT [m1 49 0, o1 50 (.nilCheck (t1 49)), fA 51 14
  50, lF 52 1 51, lT 53 3 7, o1 54 (cF 38 [t1 52, t1 53])]) (sq (rF [m1 55 0, m1 56 0, o1 57 (.nilCheck (t1 56)), fA 58 14 57, lF 59 1 58, o1 60 (.nilCheck (t1 59)), fA 61 3 60, fA 62 0 61, lF 63 1
  62, o1 64 (.nilCheck (t1 55)), fA 65 6 64, fA 66 1 65, sT 1 66 63]) (rT [m1 67 0, m1 68 0, o1 69 (.nilCheck (t1 68)), fA 70 6 69, fA 71 2 70, lF 72 1 71, m1 73 5, m1 74 0, o1 75 (.nilCheck (t1 74)),
  fA 76 6 75, fA 77 0 76, lF 78 1 77, o1 79 (.build [.v (.int .i64 0), .v (.int .i64 0)] [(0, (1, (t1 73))), (1, (1, (t1 78)))]), o1 80 (.rowBox 2 (t1 79)), o1 81 (.appendh 2 (t1 72) (t1 80) (t1 71)),
  o1 82 (.nilCheck (t1 67)), fA 83 6 82, fA 84 2 83, sT 1 84 81]))) (rF [m1 85 0, o1 86 (.nilCheck (t1 85)), fA 87 6 86, fA 88 3 87, ⟨none, none, (.store 1 (t1 88) bT)⟩])))) .skip)) (sq (rF [m1 89 0,
  o1 90 (cF 76 [t1 89])]) (sq (rF [o1 4 (mI 0)]) .ret))))))
abbrev f_command_link_arrive := finF [(.tmp 4)] false
def c_command_link_arrive : AFn := .code 2 91 b_command_link_arrive [(.tmp 4)] false
-- 59
def b_command_link_hear : ACode := (sq (rF [o1 4 (mI 0)]) (sq (rF [m1 8 0, o1 9 (.nilCheck (t1 8)), fA 10 6 9, fA 11 7 10, m1 12 1, o1 13 (cF 77 [t1 11, t1 12]), m1 7 13, o1 14 (eX 0 7), o1 15 (eX 1
  7), o1 5 (.alloc [.v (.int .i64 0), .v (.bool false)]), sT 2 5 14, m1 6 15]) (sq (sq (rF [m1 16 6, o1 17 (uX 16)]) (cn 17 (sq (rF [o1 4 (mI 6)]) .ret) .skip)) (sq (rT [m1 18 0, m1 19 0, o1 20
  (.nilCheck (t1 19)), fA 21 6 20, fA 22 4 21, lF 23 1 22, fA 24 0 5, lF 25 1 24, o1 26 (.minmax true [t1 23, t1 25]), o1 27 (.nilCheck (t1 18)), fA 28 6 27, fA 29 4 28, sT 1 29 26]) (sq (rF [m1 30 0,
  m1 31 0, o1 32 (.nilCheck (t1 31)), fA 33 6 32, fA 34 5 33, lF 35 1 34, m1 36 35, gF 37 36 (fX 1 5), gF 38 36 (lX 1 37), o1 39 (pB 36 38), o1 40 (.nilCheck (t1 30)), fA 41 6 40, fA 42 5 41, sT 1 42
  39]) (sq (rF [o1 4 (mI 0)]) .ret))))))
abbrev f_command_link_hear := finF [(.tmp 4)] false
def c_command_link_hear : AFn := .code 2 43 b_command_link_hear [(.tmp 4)] false
-- 60
def b_command_link_lose : ACode := (sq (rF [o1 4 (mI 0)]) (sq (rF [m1 8 0, o1 9 (.nilCheck (t1 8)), fA 10 6 9, fA 11 6 10, m1 12 1, o1 13 (cF 75 [t1 11, t1 12]), m1 7 13, o1 14 (eX 0 7), o1 15 (eX 1
  7), m1 5 14, m1 6 15]) (sq (rF [m1 16 6, o1 17 (cF 31 [t1 16, i1 6]), m1 4 17]) .ret)))
abbrev f_command_link_lose := finF [(.tmp 4)] false
def c_command_link_lose : AFn := .code 2 18 b_command_link_lose [(.tmp 4)] false
-- 61
def b_command_link_drop : ACode := (sq (rF [o1 4 (mI 0)]) (sq (rF [m1 8 0, o1 9 (.nilCheck (t1 8)), fA 10 6 9, fA 11 7 10, m1 12 1, o1 13 (cF 77 [t1 11, t1 12]), m1 7 13, o1 14 (eX 0 7), o1 15 (eX 1
  7), o1 5 (.alloc [.v (.int .i64 0), .v (.bool false)]), sT 2 5 14, m1 6 15]) (sq (rF [m1 16 6, o1 17 (cF 31 [t1 16, i1 6]), m1 4 17]) .ret)))
abbrev f_command_link_drop := finF [(.tmp 4)] false
def c_command_link_drop : AFn := .code 2 18 b_command_link_drop [(.tmp 4)] false
-- 62
def b_command_link_repeat : ACode := (sq (rF [o1 4 (mI 0)]) (sq (rT [m1 7 1, m1 8 0, o1 9 (.nilCheck (t1 8)), fA 10 6 9, fA 11 6 10, lF 12 1 11, o1 13 (nX 12), o1 14 (aX .lss 7 13), o1 15 (.call true
  31 [t1 14, i1 6]), m1 16 0, o1 17 (.nilCheck (t1 16)), fA 18 6 17, fA 19 6 18, lF 20 1 19, o1 21 (nX 20), m1 22 0, o1 23 (.nilCheck (t1 22)), fA 24 0 23, fA 25 5 24, lF 26 1 25, o1 27 (aX .lss 21
  26), o1 28 (cF 31 [t1 27, i1 16]), o1 29 (.buildSlice 1 [[.v (.int .i64 0)], [.v (.int .i64 0)]] [(0, (t1 15)), (1, (t1 28))]), o1 30 (cF 24 [t1 29]), m1 5 30]) (sq (sq (rF [m1 31 5, o1 32 (aK .eql
  31 0)]) (cn 32 (sq (rF [m1 33 0, o1 34 (.nilCheck (t1 33)), fA 35 6 34, fA 36 6 35, lF 37 1 36, m1 38 1, o1 39 (iX 1 37 38), lF 40 1 39, m1 6 40]) (rF [m1 41 0, m1 42 0, o1 43 (.nilCheck (t1 42)),
  fA 44 6 43, fA 45 6 44, lF 46 1 45, m1 47 6, o1 48 (.rowBox 1 (t1 47)), o1 49 (.appendh 1 (t1 46) (t1 48) (t1 45)), o1 50 (.nilCheck (t1 41)), fA 51 6 50, fA 52 6 51, sT 1 52 49])) .skip)) (sq (rF
  [m1 53 5, m1 4 53]) .ret))))
abbrev f_command_link_repeat := finF [(.tmp 4)] false
def c_command_link_repeat : AFn := .code 2 54 b_command_link_repeat [(.tmp 4)] false
-- 63
def b_command_link_restart : ACode := (sq (rF [o1 4 (mI 0)]) (sq (rF [m1 5 0, m1 6 0, o1 7 (.nilCheck (t1 5)), fA 8 6 7, fA 9 4 8, ⟨none, none, (.store 1 (t1 9) (i1 0))⟩, o1 10 (.nilCheck (t1 6)), fA
  11 6 10, fA 12 5 11, ⟨none, none, (.store 1 (t1 12) bF)⟩]) (sq (rF [o1 4 (mI 0)]) .ret)))
abbrev f_command_link_restart := finF [(.tmp 4)] false
def c_command_link_restart : AFn := .code 2 13 b_command_link_restart [(.tmp 4)] false
-- 64
def b_command_link_reboot : ACode := (sq (rF [o1 4 (mI 0)]) (sq (rF [m1 5 0, o1 6 (cF 76 [t1 5])]) (sq (rF [o1 4 (mI 0)]) .ret)))
abbrev f_command_link_reboot := finF [(.tmp 4)] false
def c_command_link_reboot : AFn := .code 2 7 b_command_link_reboot [(.tmp 4)] false
-- 65
def b_command_CheckModel_1 : ACode := (sq (rF [o1 4 (mB false)]) (sq (rF [m1 5 0, o1 6 (aK .eql 5 (-1)), m1 7 6, gF 8 7 (mX 0), gF 9 7 (mX 1), gF 10 7 (aK .sub 9 1), gF 11 7 (cF 29 [t1 8, i1 0, t1
  10]), o1 12 (pB 7 11), m1 4 12]) .ret))
abbrev f_command_CheckModel_1 := finF [(.tmp 4)] false
def c_command_CheckModel_1 : AFn := .code 2 13 b_command_CheckModel_1 [(.tmp 4)] false
-- 66
def b_command_checker_list_l0 : ACode := (sq (rF [o1 47 (aX .lss 46 45)]) (sq (cn 47 .skip (.exit 0)) (sq (.block 1 (sq (rF [m1 48 46, m1 16 48]) (sq (sq (rF [m1 49 5, m1 50 16, o1 51 (.callv false
  (t1 49) [t1 50]), o1 52 (cF 78 [t1 51]), o1 53 (cF 31 [t1 52, i1 4]), m1 54 15, m1 55 5, m1 56 16, o1 57 (.callv false (t1 55) [t1 56]), o1 58 (.mapHas (t1 54) (t1 57)), o1 59 (uX 58), o1 60 (cF 31
  [t1 59, i1 5]), m1 61 6, m1 62 16, o1 63 (.callv false (t1 61) [t1 62]), o1 64 (.buildSlice 1 [[.v (.int .i64 0)], [.v (.int .i64 0)], [.v (.int .i64 0)]] [(0, (t1 53)), (1, (t1 60)), (2, (t1
  63))]), o1 65 (cF 24 [t1 64]), m1 17 65]) (sq (rF [m1 66 17, o1 67 (aK .neq 66 0)]) (cn 67 (sq (rF [m1 68 0, m1 69 0, m1 70 1, m1 71 16, o1 72 (.build [.v (.int .i64 0), .v (.int .i64 0)] [(0, (1,
  (t1 70))), (1, (1, (t1 71)))]), m1 73 17, o1 74 (.nilCheck (t1 68)), fA 75 0 74, sT 2 75 72, o1 76 (.nilCheck (t1 69)), fA 77 2 76, sT 1 77 73]) .ret) .skip))) (rF [m1 78 15, m1 79 5, m1 80 16, o1
  81 (.callv false (t1 79) [t1 80]), ⟨none, none, (.mapAdd (t1 78) (t1 81) bT)⟩])))) (rF [o1 82 (aK .add 46 1), m1 46 82]))))
def b_command_checker_list : ACode := (sq (sq (rF [m1 18 0, o1 19 (.nilCheck (t1 18)), fA 20 2 19, lF 21 1 20, o1 22 (aK .neq 21 0)]) (cn 22 .ret .skip)) (sq (sq (rF [m1 23 2, m1 24 3, o1 25 (aX .geq
  23 24), o1 26 (cF 31 [t1 25, i1 10]), m1 27 2, m1 28 4, o1 29 (aX .leq 27 28), o1 30 (cF 31 [t1 29, i1 8]), o1 31 (.buildSlice 1 [[.v (.int .i64 0)], [.v (.int .i64 0)]] [(0, (t1 26)), (1, (t1
  30))]), o1 32 (cF 24 [t1 31]), m1 14 32]) (sq (rF [m1 33 14, o1 34 (aK .neq 33 0)]) (cn 34 (sq (rF [m1 35 0, m1 36 0, m1 37 1, o1 38 (.build [.v (.int .i64 0), .v (.int .i64 0)] [(0, (1, (t1
  37)))]), m1 39 14, o1 40 (.nilCheck (t1 35)), fA 41 0 40, sT 2 41 38, o1 42 (.nilCheck (t1 36)), fA 43 2 42, sT 1 43 39]) .ret) .skip))) (sq (rF [o1 44 .mkMap, m1 15 44]) (sq (rF [m1 45 2, o1 46 (mI
  0)]) (.block 0 (.loop b_command_checker_list_l0))))))
abbrev k_command_checker_list_0 : List K := [.blk 0]
abbrev f_command_checker_list := finF [] false
def c_command_checker_list : AFn := .code 7 83 b_command_checker_list [] false
-- 67
def b_command_CheckModel_2 : ACode := (sq (rF [o1 3 (.move (.const (.v (.string ⟨#[]⟩))))]) (sq (rF [fA 4 0 1, lF 5 1 4, m1 6 0, o1 7 (iX 1 5 6), lF 8 1 7, m1 3 8]) .ret))
abbrev f_command_CheckModel_2 := finF [(.tmp 3)] false
def c_command_CheckModel_2 : AFn := .code 2 9 b_command_CheckModel_2 [(.tmp 3)] false
-- 68
def b_command_CheckModel_3 : ACode := (sq (rF [o1 2 (mI 0)]) (sq (rF [o1 2 (mI 0)]) .ret))
abbrev f_command_CheckModel_3 := finF [(.tmp 2)] false
def c_command_CheckModel_3 : AFn := .code 1 3 b_command_CheckModel_3 [(.tmp 2)] false
-- 69
def b_command_CheckModel_4 : ACode := (sq (rF [o1 3 (.move (.const (.v (.string ⟨#[]⟩))))]) (sq (rF [fA 4 1 1, lF 5 1 4, m1 6 0, o1 7 (iX 2 5 6), fA 8 0 7, lF 9 1 8, m1 3 9]) .ret))
abbrev f_command_CheckModel_4 := finF [(.tmp 3)] false
def c_command_CheckModel_4 : AFn := .code 2 10 b_command_CheckModel_4 [(.tmp 3)] false
-- 70
def b_command_CheckModel_5 : ACode := (sq (rF [o1 5 (mI 0)]) (sq (rT [lF 6 1 1, fA 7 1 2, lF 8 1 7, m1 9 0, o1 10 (iX 2 8 9), fA 11 1 10, lF 12 1 11, lF 13 1 3, o1 14 (.callv false (t1 6) [t1 12, t1
  13]), o1 15 (cF 31 [t1 14, i1 6]), m1 5 15]) .ret))
abbrev f_command_CheckModel_5 := finF [(.tmp 5)] false
def c_command_CheckModel_5 : AFn := .code 4 16 b_command_CheckModel_5 [(.tmp 5)] false
-- 71
def b_command_CheckModel_6 : ACode := (sq (rF [o1 3 (.move (.const (.v (.string ⟨#[]⟩))))]) (sq (rF [fA 4 2 1, lF 5 1 4, m1 6 0, o1 7 (iX 5 5 6), fA 8 0 7, lF 9 1 8, m1 3 9]) .ret))
abbrev f_command_CheckModel_6 := finF [(.tmp 3)] false
def c_command_CheckModel_6 : AFn := .code 2 10 b_command_CheckModel_6 [(.tmp 3)] false
-- 72
def b_command_CheckModel_7 : ACode := (sq (rF [o1 6 (mI 0)]) (sq (rF [fA 8 2 1, lF 9 1 8, m1 10 0, o1 11 (iX 5 9 10), lT 12 5 11, o1 7 (.alloc [.v (.string ⟨#[]⟩), .v (.int .i64 0), .v (.int .i64 0),
  .v (.int .i64 0), .v (.int .i64 0)]), sT 5 7 12]) (sq (rT [fA 13 1 7, lF 14 1 13, lF 15 1 2, o1 16 (aK .sub 15 1), o1 17 (.call true 29 [t1 14, i1 0, t1 16]), m1 18 17, gT 19 18 (lX 1 3), gT 20 18
  (fX 2 7), gT 21 18 (lX 1 20), gT 22 18 (lX 1 4), gT 23 18 (.callv true (t1 19) [t1 21, t1 22]), o1 24 (pA 18 23), m1 25 24, gT 26 25 (lX 1 3), gT 27 25 (fX 3 7), gT 28 25 (lX 1 27), gT 29 25 (lX 1
  2), gT 30 25 (.callv true (t1 26) [t1 28, t1 29]), o1 31 (pA 25 30), o1 32 (.call true 31 [t1 31, i1 6]), fA 33 4 7, lF 34 1 33, o1 35 (.call true 29 [t1 34, i1 1, i1 1000000]), o1 36 (.call true 31
  [t1 35, i1 2]), fA 37 3 7, lF 38 1 37, o1 39 (aK .neq 38 (-1)), m1 40 39, gF 41 40 (fX 4 7), gF 42 40 (lX 1 41), gF 43 40 (aK .eql 42 1), o1 44 (pB 40 43), o1 45 (cF 31 [t1 44, i1 3]), o1 46
  (.buildSlice 1 [[.v (.int .i64 0)], [.v (.int .i64 0)], [.v (.int .i64 0)]] [(0, (t1 32)), (1, (t1 36)), (2, (t1 45))]), o1 47 (cF 24 [t1 46]), m1 6 47]) .ret)))
abbrev f_command_CheckModel_7 := finF [(.tmp 6)] false
def c_command_CheckModel_7 : AFn := .code 5 48 b_command_CheckModel_7 [(.tmp 6)] false
-- 73
def b_math_bits_Mul : ACode := (sq (rF [o1 4 (.move (.const (.v (.int .u64 0)))), o1 5 (.move (.const (.v (.int .u64 0))))]) (sq (.cond bF (sq (rF [m1 11 0, o1 12 (.conv (.int .u32) (t1 11)), m1 13 1,
  o1 14 (.conv (.int .u32) (t1 13)), o1 15 (cF 79 [t1 12, t1 14]), m1 10 15, o1 16 (eX 0 10), o1 17 (eX 1 10), m1 6 16, m1 7 17]) (sq (rF [m1 18 6, o1 19 (.conv (.int .u64) (t1 18)), m1 20 7, o1 21
  (.conv (.int .u64) (t1 20)), m1 4 19, m1 5 21]) .ret)) .skip) (sq (rF [m1 23 0, m1 24 1, o1 25 (cF 80 [t1 23, t1 24]), m1 22 25, o1 26 (eX 0 22), o1 27 (eX 1 22), m1 8 26, m1 9 27]) (sq (rF [m1 28
  8, m1 29 9, m1 4 28, m1 5 29]) .ret))))
abbrev f_math_bits_Mul := finF [(.tmp 4), (.tmp 5)] false
def c_math_bits_Mul : AFn := .code 2 30 b_math_bits_Mul [(.tmp 4), (.tmp 5)] false
-- 74
def b_r_CheckModel_r0 : ACode := (sq (rF [o1 187 (.build [.v (.int .i64 0), .v (.int .i64 0)] []), sT 2 2 187, o1 3 (mI 0)]) .ret)
def b_r_CheckModel_l0 : ACode := (sq (sq (rF [m1 112 7, fA 113 2 1, lF 114 1 113, o1 115 (nX 114), o1 116 (aX .lss 112 115)]) (cn 116 .skip (.exit 4))) (sq (.block 5 (sq (rF [fA 119 2 1, lF 120 1 119,
  m1 121 7, o1 122 (iX 5 120 121), lT 123 5 122, o1 8 (.alloc [.v (.string ⟨#[]⟩), .v (.int .i64 0), .v (.int .i64 0), .v (.int .i64 0), .v (.int .i64 0)]), sT 5 8 123]) (sq (sq (rF [fA 124 0 8, lF
  125 1 124, o1 126 (cF 82 [t1 125]), o1 127 (uX 126)]) (cn 127 (sq (rF [m1 128 7, o1 129 (cF 81 [i1 3, t1 128]), sT 2 2 129, o1 3 (mI 4)]) .ret) .skip)) (sq (sq (rF [m1 130 5, fA 131 0 8, lF 132 1
  131, o1 133 (cF 83 [t1 130, t1 132])]) (cn 133 (sq (rF [m1 134 7, o1 135 (cF 81 [i1 3, t1 134]), sT 2 2 135, o1 3 (mI 5)]) .ret) .skip)) (sq (rF [m1 136 5, fA 137 0 8, lF 138 1 137, o1 139
  (.buildSlice 1 [[.v (.string ⟨#[]⟩)]] [(0, (t1 138))]), o1 140 (.append 1 (t1 136) (t1 139)), m1 5 140]) (sq (sq (rF [fA 141 1 8, lF 142 1 141, fA 143 1 1, lF 144 1 143, o1 145 (nX 144), o1 146 (aK
  .sub 145 1), o1 147 (cF 10 [t1 142, i1 0, t1 146]), o1 148 (uX 147), m1 149 148, gF 150 149 (fX 2 8), gF 151 149 (lX 1 150), gF 152 149 (fX 0 1), gF 153 149 (lX 1 152), gF 154 149 (nX 153), gF 155
  149 (aK .sub 154 1), gF 156 149 (cF 10 [t1 151, i1 (-1), t1 155]), gF 157 149 (uX 156), o1 158 (pB 149 157), m1 159 158, gF 160 159 (fX 3 8), gF 161 159 (lX 1 160), gF 162 159 (fX 1 1), gF 163 159
  (lX 1 162), gF 164 159 (nX 163), gF 165 159 (aK .sub 164 1), gF 166 159 (cF 10 [t1 161, i1 (-1), t1 165]), gF 167 159 (uX 166), o1 168 (pB 159 167)]) (cn 168 (sq (rF [m1 169 7, o1 170 (cF 81 [i1 3,
  t1 169]), sT 2 2 170, o1 3 (mI 6)]) .ret) .skip)) (sq (sq (rF [fA 171 4 8, lF 172 1 171, o1 173 (cF 10 [t1 172, i1 1, i1 1000000]), o1 174 (uX 173)]) (cn 174 (sq (rF [m1 175 7, o1 176 (cF 81 [i1 3,
  t1 175]), sT 2 2 176, o1 3 (mI 2)]) .ret) .skip)) (sq (rF [fA 177 3 8, lF 178 1 177, o1 179 (aK .eql 178 (-1)), m1 180 179, gT 181 180 (fX 4 8), gT 182 180 (lX 1 181), gT 183 180 (aK .neq 182 1), o1
  184 (pA 180 183)]) (cn 184 (sq (rF [m1 185 7, o1 186 (cF 81 [i1 3, t1 185]), sT 2 2 186, o1 3 (mI 3)]) .ret) .skip))))))))) (rF [m1 117 7, o1 118 (aK .add 117 1), m1 7 118])))
def b_r_CheckModel_r1 : ACode := (sq (sq (rF [fA 107 2 1, lF 108 1 107, o1 109 (nX 108), o1 110 (aK .gtr 109 10)]) (cn 110 (sq (rF [o1 111 (cF 81 [i1 3, i1 0]), sT 2 2 111, o1 3 (mI 8)]) .ret) .skip))
  (sq (rF [o1 5 (.move (.const (.slice .nilS 0 [])))]) (sq (sq (rF [o1 7 (mI 0)]) (.block 4 (.loop b_r_CheckModel_l0))) b_r_CheckModel_r0)))
def b_r_CheckModel_l1 : ACode := (sq (sq (rF [m1 57 6, fA 58 1 1, lF 59 1 58, o1 60 (nX 59), o1 61 (aX .lss 57 60)]) (cn 61 .skip (.exit 2))) (sq (.block 3 (sq (sq (rF [fA 64 1 1, lF 65 1 64, m1 66 6,
  o1 67 (iX 2 65 66), fA 68 0 67, lF 69 1 68, o1 70 (cF 82 [t1 69]), o1 71 (uX 70)]) (cn 71 (sq (rF [m1 72 6, o1 73 (cF 81 [i1 2, t1 72]), sT 2 2 73, o1 3 (mI 4)]) .ret) .skip)) (sq (sq (rF [m1 74 5,
  fA 75 1 1, lF 76 1 75, m1 77 6, o1 78 (iX 2 76 77), fA 79 0 78, lF 80 1 79, o1 81 (cF 83 [t1 74, t1 80])]) (cn 81 (sq (rF [m1 82 6, o1 83 (cF 81 [i1 2, t1 82]), sT 2 2 83, o1 3 (mI 5)]) .ret)
  .skip)) (sq (rF [m1 84 5, fA 85 1 1, lF 86 1 85, m1 87 6, o1 88 (iX 2 86 87), fA 89 0 88, lF 90 1 89, o1 91 (.buildSlice 1 [[.v (.string ⟨#[]⟩)]] [(0, (t1 90))]), o1 92 (.append 1 (t1 84) (t1 91)),
  m1 5 92]) (sq (rT [fA 93 1 1, lF 94 1 93, m1 95 6, o1 96 (iX 2 94 95), fA 97 1 96, lF 98 1 97, fA 99 0 1, lF 100 1 99, o1 101 (nX 100), o1 102 (aK .sub 101 1), o1 103 (cF 10 [t1 98, i1 (-1), t1
  102]), o1 104 (uX 103)]) (cn 104 (sq (rF [m1 105 6, o1 106 (cF 81 [i1 2, t1 105]), sT 2 2 106, o1 3 (mI 6)]) .ret) .skip)))))) (rF [m1 62 6, o1 63 (aK .add 62 1), m1 6 63])))
def b_r_CheckModel_r2 : ACode := (sq (sq (rF [fA 47 1 1, lF 48 1 47, o1 49 (nX 48), o1 50 (aK .eql 49 0)]) (cn 50 (sq (rF [o1 51 (cF 81 [i1 2, i1 0]), sT 2 2 51, o1 3 (mI 10)]) .ret) .skip)) (sq (sq
  (rF [fA 52 1 1, lF 53 1 52, o1 54 (nX 53), o1 55 (aK .gtr 54 8)]) (cn 55 (sq (rF [o1 56 (cF 81 [i1 2, i1 0]), sT 2 2 56, o1 3 (mI 8)]) .ret) .skip)) (sq (rF [o1 5 (.move (.const (.slice .nilS 0
  [])))]) (sq (sq (rF [o1 6 (mI 0)]) (.block 2 (.loop b_r_CheckModel_l1))) b_r_CheckModel_r1))))
def b_r_CheckModel_l2 : ACode := (sq (sq (rF [m1 19 4, fA 20 0 1, lF 21 1 20, o1 22 (nX 21), o1 23 (aX .lss 19 22)]) (cn 23 .skip (.exit 0))) (sq (.block 1 (sq (sq (rF [fA 26 0 1, lF 27 1 26, m1 28 4,
  o1 29 (iX 1 27 28), lF 30 1 29, o1 31 (cF 82 [t1 30]), o1 32 (uX 31)]) (cn 32 (sq (rF [m1 33 4, o1 34 (cF 81 [i1 1, t1 33]), sT 2 2 34, o1 3 (mI 4)]) .ret) .skip)) (sq (rT [fA 35 0 1, lF 36 1 35, m1
  37 4, o1 38 (.slice (.sl 1) (t1 36) none (some (t1 37)) none), fA 39 0 1, lF 40 1 39, m1 41 4, o1 42 (iX 1 40 41), lF 43 1 42, o1 44 (cF 83 [t1 38, t1 43])]) (cn 44 (sq (rF [m1 45 4, o1 46 (cF 81
  [i1 1, t1 45]), sT 2 2 46, o1 3 (mI 5)]) .ret) .skip)))) (rF [m1 24 4, o1 25 (aK .add 24 1), m1 4 25])))
def b_r_CheckModel : ACode := (sq (rF [o1 1 (.box 3 (t1 0)), o1 2 (.alloc [.v (.int .i64 0), .v (.int .i64 0)]), o1 3 (mI 0)]) (sq (sq (rF [fA 9 0 1, lF 10 1 9, o1 11 (nX 10), o1 12 (aK .eql 11 0)])
  (cn 12 (sq (rF [o1 13 (cF 81 [i1 1, i1 0]), sT 2 2 13, o1 3 (mI 10)]) .ret) .skip)) (sq (sq (rF [fA 14 0 1, lF 15 1 14, o1 16 (nX 15), o1 17 (aK .gtr 16 6)]) (cn 17 (sq (rF [o1 18 (cF 81 [i1 1, i1
  0]), sT 2 2 18, o1 3 (mI 8)]) .ret) .skip)) (sq (sq (rF [o1 4 (mI 0)]) (.block 0 (.loop b_r_CheckModel_l2))) b_r_CheckModel_r2))))
abbrev k_r_CheckModel_0 : List K := [.blk 4, .c b_r_CheckModel_r0]
abbrev k_r_CheckModel_1 : List K := [.blk 2, .c b_r_CheckModel_r1]
abbrev k_r_CheckModel_2 : List K := [.blk 0, .c b_r_CheckModel_r2]
abbrev f_r_CheckModel := finF [(.cell true 2 2), (.tmp 3)] false
def c_r_CheckModel : AFn := .code 1 188 b_r_CheckModel [(.cell true 2 2), (.tmp 3)] false
-- 75
def b_command_take_int : ACode := (sq (rF [o1 4 (mI 0), o1 5 (mB false)]) (sq (rF [o1 6 (mI 0)]) (sq (sq (rF [m1 7 1, m1 8 0, o1 9 (.nilCheck (t1 8)), lF 10 1 9, o1 11 (nX 10), o1 12 (aX .geq 7 11)])
  (cn 12 (sq (rF [m1 13 6, m1 4 13, o1 5 (mB false)]) .ret) .skip)) (sq (rF [m1 14 0, o1 15 (.nilCheck (t1 14)), lF 16 1 15, m1 17 1, o1 18 (iX 1 16 17), lF 19 1 18, m1 6 19]) (sq (rF [m1 20 0, m1 21
  0, o1 22 (.nilCheck (t1 21)), lF 23 1 22, m1 24 1, m1 25 1, o1 26 (aK .add 25 1), o1 27 (cF 84 [t1 23, t1 24, t1 26]), o1 28 (.nilCheck (t1 20)), sT 1 28 27]) (sq (rF [m1 29 6, m1 4 29, o1 5 (mB
  true)]) .ret))))))
abbrev f_command_take_int := finF [(.tmp 4), (.tmp 5)] false
def c_command_take_int : AFn := .code 2 30 b_command_take_int [(.tmp 4), (.tmp 5)] false
-- 76
def b_command_link_report : ACode := (sq (rT [m1 2 0, o1 3 (.nilCheck (t1 2)), fA 4 6 3, fA 5 7 4, lF 6 1 5, o1 7 (nX 6), m1 8 0, o1 9 (.nilCheck (t1 8)), fA 10 0 9, fA 11 5 10, lF 12 1 11, o1 13 (aX
  .lss 7 12)]) (cn 13 (rT [m1 14 0, m1 15 0, o1 16 (.nilCheck (t1 15)), fA 17 6 16, fA 18 7 17, lF 19 1 18, m1 20 0, o1 21 (.nilCheck (t1 20)), fA 22 6 21, fA 23 2 22, lF 24 1 23, o1 25 (nX 24), m1 26
  0, o1 27 (.nilCheck (t1 26)), fA 28 6 27, fA 29 3 28, lF 30 1 29, o1 31 (.build [.v (.int .i64 0), .v (.bool false)] [(0, (1, (t1 25))), (1, (1, (t1 30)))]), o1 32 (.rowBox 2 (t1 31)), o1 33
  (.appendh 2 (t1 19) (t1 32) (t1 18)), o1 34 (.nilCheck (t1 14)), fA 35 6 34, fA 36 7 35, sT 1 36 33]) .skip))
abbrev f_command_link_report := finF [] false
def c_command_link_report : AFn := .code 1 37 b_command_link_report [] false
-- 77
def b_command_take_api_CommandReport : ACode := (sq (rF [o1 4 (.alloc [.v (.int .i64 0), .v (.bool false)]), o1 5 (mB false)]) (sq (rF [o1 6 (.alloc [.v (.int .i64 0), .v (.bool false)])]) (sq (sq (rF
  [m1 7 1, m1 8 0, o1 9 (.nilCheck (t1 8)), lF 10 1 9, o1 11 (nX 10), o1 12 (aX .geq 7 11)]) (cn 12 (sq (rF [lT 13 2 6, sT 2 4 13, o1 5 (mB false)]) .ret) .skip)) (sq (rF [m1 14 0, o1 15 (.nilCheck
  (t1 14)), lF 16 1 15, m1 17 1, o1 18 (iX 2 16 17), lT 19 2 18, sT 2 6 19]) (sq (rF [m1 20 0, m1 21 0, o1 22 (.nilCheck (t1 21)), lF 23 1 22, m1 24 1, m1 25 1, o1 26 (aK .add 25 1), o1 27 (cF 85 [t1
  23, t1 24, t1 26]), o1 28 (.nilCheck (t1 20)), sT 1 28 27]) (sq (rF [lT 29 2 6, sT 2 4 29, o1 5 (mB true)]) .ret))))))
abbrev f_command_take_api_CommandReport := finF [(.cell true 2 4), (.tmp 5)] false
def c_command_take_api_CommandReport : AFn := .code 2 30 b_command_take_api_CommandReport [(.cell true 2 4), (.tmp 5)] false
-- 78
def b_command_isName_r0 : ACode := (sq (rF [m1 47 0, o1 48 (.arith .neq (t1 47) (.const (.v (.string ⟨#[]⟩)))), m1 49 48, gT 50 49 (mX 0), gT 51 49 (.len true (t1 50)), gT 52 49 (aK .leq 51 12), o1 53
  (pA 49 52), m1 2 53]) .ret)
def b_command_isName_l0 : ACode := (sq (rF [o1 10 (aX .lss 9 8)]) (sq (cn 10 .skip (.exit 0)) (sq (.block 1 (sq (rF [m1 11 9, o1 12 (iX 1 7 9), lF 13 1 12, m1 3 11, m1 4 13]) (sq (rF [m1 14 4, o1 15
  (.arith .geq (t1 14) (.const (.v (.int .u8 97)))), m1 16 15, gT 17 16 (mX 4), gT 18 16 (.arith .leq (t1 17) (.const (.v (.int .u8 122)))), o1 19 (pA 16 18), m1 20 19, gF 21 20 (mX 4), gF 22 20
  (.arith .geq (t1 21) (.const (.v (.int .u8 65)))), gF 23 20 (mX 22), gT 24 23 (mX 4), gT 25 23 (.arith .leq (t1 24) (.const (.v (.int .u8 90)))), gF 26 20 (pA 23 25), o1 27 (pB 20 26), m1 5 27]) (sq
  (rF [m1 28 5, o1 29 (uX 28), m1 30 29, gT 31 30 (mX 3), gT 32 30 (aK .eql 31 0), gT 33 30 (mX 32), gF 34 33 (mX 4), gF 35 33 (.arith .neq (t1 34) (.const (.v (.int .u8 45)))), gF 36 33 (mX 35), gT
  37 36 (mX 4), gT 38 36 (.arith .lss (t1 37) (.const (.v (.int .u8 48)))), gT 39 36 (mX 38), gF 40 39 (mX 4), gF 41 39 (.arith .gtr (t1 40) (.const (.v (.int .u8 57)))), gT 42 36 (pB 39 41), gF 43 33
  (pA 36 42), gT 44 30 (pB 33 43), o1 45 (pA 30 44)]) (cn 45 (sq (rF [o1 2 (mB false)]) .ret) .skip))))) (rF [o1 46 (aK .add 9 1), m1 9 46]))))
def b_command_isName : ACode := (sq (rF [o1 2 (mB false)]) (sq (sq (rF [m1 6 0, o1 7 (.conv .bytes (t1 6)), o1 8 (nX 7), o1 9 (mI 0)]) (.block 0 (.loop b_command_isName_l0))) b_command_isName_r0))
abbrev k_command_isName_0 : List K := [.blk 0, .c b_command_isName_r0]
abbrev f_command_isName := finF [(.tmp 2)] false
def c_command_isName : AFn := .code 1 54 b_command_isName [(.tmp 2)] false
-- 79
def b_math_bits_Mul32 : ACode := (sq (rF [o1 4 (.move (.const (.v (.int .u32 0)))), o1 5 (.move (.const (.v (.int .u32 0))))]) (sq (rF [m1 7 0, o1 8 (.conv (.int .u64) (t1 7)), m1 9 1, o1 10 (.conv
  (.int .u64) (t1 9)), o1 11 (aX .mul 8 10), m1 6 11]) (sq (rF [m1 12 6, o1 13 (.arith .shr (t1 12) (.const (.v (.int .u64 32)))), o1 14 (.conv (.int .u32) (t1 13)), m1 15 6, o1 16 (.conv (.int .u32)
  (t1 15)), m1 4 14, m1 5 16]) .ret)))
abbrev f_math_bits_Mul32 := finF [(.tmp 4), (.tmp 5)] false
def c_math_bits_Mul32 : AFn := .code 2 17 b_math_bits_Mul32 [(.tmp 4), (.tmp 5)] false
-- 80
def b_math_bits_Mul64 : ACode := (sq (rF [o1 4 (.move (.const (.v (.int .u64 0)))), o1 5 (.move (.const (.v (.int .u64 0))))]) (sq (rF [m1 14 0, o1 15 (.arith .and (t1 14) (.const (.v (.int .u64
  4294967295)))), m1 6 15]) (sq (rF [m1 16 0, o1 17 (.arith .shr (t1 16) (.const (.v (.int .u64 32)))), m1 7 17]) (sq (rF [m1 18 1, o1 19 (.arith .and (t1 18) (.const (.v (.int .u64 4294967295)))), m1
  8 19]) (sq (rF [m1 20 1, o1 21 (.arith .shr (t1 20) (.const (.v (.int .u64 32)))), m1 9 21]) (sq (rF [m1 22 6, m1 23 8, o1 24 (aX .mul 22 23), m1 10 24]) (sq (rF [m1 25 7, m1 26 8, o1 27 (aX .mul 25
  26), m1 28 10, o1 29 (.arith .shr (t1 28) (.const (.v (.int .u64 32)))), o1 30 (aX .add 27 29), m1 11 30]) (sq (rF [m1 31 11, o1 32 (.arith .and (t1 31) (.const (.v (.int .u64 4294967295)))), m1 12
  32]) (sq (rF [m1 33 11, o1 34 (.arith .shr (t1 33) (.const (.v (.int .u64 32)))), m1 13 34]) (sq (rF [m1 35 12, m1 36 6, m1 37 9, o1 38 (aX .mul 36 37), o1 39 (aX .add 35 38), m1 12 39]) (sq (rF [m1
  40 7, m1 41 9, o1 42 (aX .mul 40 41), m1 43 13, o1 44 (aX .add 42 43), m1 45 12, o1 46 (.arith .shr (t1 45) (.const (.v (.int .u64 32)))), o1 47 (aX .add 44 46), m1 4 47]) (sq (rF [m1 48 0, m1 49 1,
  o1 50 (aX .mul 48 49), m1 5 50]) .ret))))))))))))
abbrev f_math_bits_Mul64 := finF [(.tmp 4), (.tmp 5)] false
def c_math_bits_Mul64 : AFn := .code 2 51 b_math_bits_Mul64 [(.tmp 4), (.tmp 5)] false
-- 81
def b_r_mark : ACode := (sq (rF [o1 4 (.alloc [.v (.int .i64 0), .v (.int .i64 0)])]) (sq (rF [m1 5 0, m1 6 1, o1 7 (.build [.v (.int .i64 0), .v (.int .i64 0)] [(0, (1, (t1 5))), (1, (1, (t1 6)))]),
  sT 2 4 7]) .ret))
abbrev f_r_mark := finF [(.cell true 2 4)] false
def c_r_mark : AFn := .code 2 8 b_r_mark [(.cell true 2 4)] false
-- 82
def b_b_IsName_r0 : ACode := (sq (rF [o1 2 (mB true)]) .ret)
def b_b_IsName_l0 : ACode := (sq (sq (rF [m1 14 3, m1 15 0, o1 16 (.len true (t1 15)), o1 17 (aX .lss 14 16)]) (cn 17 .skip (.exit 0))) (sq (.block 1 (sq (rF [m1 20 0, m1 21 3, o1 22 (.indexStr (t1
  20) (t1 21)), m1 4 22]) (sq (rF [m1 23 4, o1 24 (.arith .geq (t1 23) (.const (.v (.int .u8 97)))), m1 25 24, gT 26 25 (mX 4), gT 27 25 (.arith .leq (t1 26) (.const (.v (.int .u8 122)))), o1 28 (pA
  25 27), m1 29 28, gF 30 29 (mX 4), gF 31 29 (.arith .geq (t1 30) (.const (.v (.int .u8 65)))), gF 32 29 (mX 31), gT 33 32 (mX 4), gT 34 32 (.arith .leq (t1 33) (.const (.v (.int .u8 90)))), gF 35 29
  (pA 32 34), o1 36 (pB 29 35), m1 5 36]) (sq (rF [m1 37 5, o1 38 (uX 37), m1 39 38, gT 40 39 (mX 3), gT 41 39 (aK .eql 40 0), gT 42 39 (mX 41), gF 43 42 (mX 4), gF 44 42 (.arith .neq (t1 43) (.const
  (.v (.int .u8 45)))), gF 45 42 (mX 44), gT 46 45 (mX 4), gT 47 45 (.arith .lss (t1 46) (.const (.v (.int .u8 48)))), gT 48 45 (mX 47), gF 49 48 (mX 4), gF 50 48 (.arith .gtr (t1 49) (.const (.v
  (.int .u8 57)))), gT 51 45 (pB 48 50), gF 52 42 (pA 45 51), gT 53 39 (pB 42 52), o1 54 (pA 39 53)]) (cn 54 (sq (rF [o1 2 (mB false)]) .ret) .skip))))) (rF [m1 18 3, o1 19 (aK .add 18 1), m1 3 19])))
def b_b_IsName : ACode := (sq (rF [o1 2 (mB false)]) (sq (sq (rF [m1 6 0, o1 7 (.len true (t1 6)), o1 8 (aK .lss 7 1), m1 9 8, gF 10 9 (mX 0), gF 11 9 (.len true (t1 10)), gF 12 9 (aK .gtr 11 12), o1
  13 (pB 9 12)]) (cn 13 (sq (rF [o1 2 (mB false)]) .ret) .skip)) (sq (sq (rF [o1 3 (mI 0)]) (.block 0 (.loop b_b_IsName_l0))) b_b_IsName_r0)))
abbrev k_b_IsName_0 : List K := [.blk 0, .c b_b_IsName_r0]
abbrev f_b_IsName := finF [(.tmp 2)] false
def c_b_IsName : AFn := .code 1 55 b_b_IsName [(.tmp 2)] false
-- 83
def b_b_HasText_r0 : ACode := (sq (rF [o1 4 (mB false)]) .ret)
def b_b_HasText_l0 : ACode := (sq (sq (rF [m1 6 5, m1 7 0, o1 8 (nX 7), o1 9 (aX .lss 6 8)]) (cn 9 .skip (.exit 0))) (sq (.block 1 (sq (rF [m1 12 0, m1 13 5, o1 14 (iX 1 12 13), lF 15 1 14, m1 16 1,
  o1 17 (aX .eql 15 16)]) (cn 17 (sq (rF [o1 4 (mB true)]) .ret) .skip))) (rF [m1 10 5, o1 11 (aK .add 10 1), m1 5 11])))
def b_b_HasText : ACode := (sq (rF [o1 4 (mB false)]) (sq (sq (rF [o1 5 (mI 0)]) (.block 0 (.loop b_b_HasText_l0))) b_b_HasText_r0))
abbrev k_b_HasText_0 : List K := [.blk 0, .c b_b_HasText_r0]
abbrev f_b_HasText := finF [(.tmp 4)] false
def c_b_HasText : AFn := .code 2 18 b_b_HasText [(.tmp 4)] false
-- 84
def b_z_Delete_int : ACode := (sq (rF [o1 6 (.move (.const (.slice .nilS 0 [])))]) (sq (rF [m1 8 0, m1 9 1, m1 10 2, m1 11 0, o1 12 (nX 11), o1 13 (.slice (.sl 1) (t1 8) (some (t1 9)) (some (t1 10))
  (some (t1 12)))]) (sq (sq (rF [m1 14 1, m1 15 2, o1 16 (aX .eql 14 15)]) (cn 16 (sq (rF [m1 17 0, m1 6 17]) .ret) .skip)) (sq (rF [m1 18 0, o1 19 (nX 18), m1 7 19]) (sq (rT [m1 20 0, m1 21 1, o1 22
  (.slice (.sl 1) (t1 20) none (some (t1 21)) none), m1 23 0, m1 24 2, o1 25 (.slice (.sl 1) (t1 23) (some (t1 24)) none none), o1 26 (.appendi 1 (t1 22) (t1 25)), m1 0 26]) (sq (rF [m1 27 0, m1 28 0,
  o1 29 (nX 28), m1 30 7, o1 31 (.slice (.sl 1) (t1 27) (some (t1 29)) (some (t1 30)) none), ⟨none, none, (.clear [.v (.int .i64 0)] (t1 31))⟩]) (sq (rF [m1 32 0, m1 6 32]) .ret)))))))
abbrev f_z_Delete_int := finF [(.tmp 6)] false
def c_z_Delete_int : AFn := .code 3 33 b_z_Delete_int [(.tmp 6)] false
-- 85
def b_z_Delete_CommandReport : ACode := (sq (rF [o1 6 (.move (.const (.slice .nilS 0 [])))]) (sq (rF [m1 8 0, m1 9 1, m1 10 2, m1 11 0, o1 12 (nX 11), o1 13 (.slice (.sl 2) (t1 8) (some (t1 9)) (some
  (t1 10)) (some (t1 12)))]) (sq (sq (rF [m1 14 1, m1 15 2, o1 16 (aX .eql 14 15)]) (cn 16 (sq (rF [m1 17 0, m1 6 17]) .ret) .skip)) (sq (rF [m1 18 0, o1 19 (nX 18), m1 7 19]) (sq (rT [m1 20 0, m1 21
  1, o1 22 (.slice (.sl 2) (t1 20) none (some (t1 21)) none), m1 23 0, m1 24 2, o1 25 (.slice (.sl 2) (t1 23) (some (t1 24)) none none), o1 26 (.appendi 2 (t1 22) (t1 25)), m1 0 26]) (sq (rF [m1 27 0,
  m1 28 0, o1 29 (nX 28), m1 30 7, o1 31 (.slice (.sl 2) (t1 27) (some (t1 29)) (some (t1 30)) none), ⟨none, none, (.clear [.v (.int .i64 0), .v (.bool false)] (t1 31))⟩]) (sq (rF [m1 32 0, m1 6 32])
  .ret)))))))
abbrev f_z_Delete_CommandReport := finF [(.tmp 6)] false
def c_z_Delete_CommandReport : AFn := .code 3 33 b_z_Delete_CommandReport [(.tmp 6)] false

def tab : List (Option AFn) := [none, none, none, some c_t_TopCommandNeverForbidden, some c_t_commandShown, some c_t_commandSmall, some c_command_Begin, some c_r_CopyUplink, some c_command_Apply, some
  c_r_Copy, some c_b_Within, some c_command_ForbiddenBy, some c_r_CopyModel, some c_r_CopyMoment, some c_r_SameDone, some c_l_Uplink, some c_command_ModesOf, some c_command_Executed, some c_b_Ints,
  some c_l_Few, some c_r_UplinkErr, some c_command_CheckUplink, some c_r_CopyFile, some c_command_resume, some c_command_first, some c_command_CheckEvent, some c_command_link_process, some
  c_b_CopyInts, some c_command_ForbiddenBy_1, some c_command_within, some c_command_modelErr, some c_command_unless, some c_command_isTick, some c_z_ContainsFunc_int, some c_command_probe_forbids,
  some c_b_CopyTexts, some c_command_CheckFile, some c_command_newProbe, some c_command_probe_execute, some c_command_Replay, some c_r_FileErr, some c_command_begin, some c_command_link_state, some
  c_command_probe_accepts, some c_command_resume_1, some c_command_kinds, some c_command_CheckModel, some c_z_IndexFunc_int, some c_command_probe_concerns, some c_command_actErr, some c_z_Repeat_int,
  some c_r_ModelErr, some c_r_CheckFile, some c_z_Clone_CommandDone, some c_z_Clone_int, some c_z_Clone_CommandReport, some c_command_link_pass, some c_command_link_send, some c_command_link_arrive,
  some c_command_link_hear, some c_command_link_lose, some c_command_link_drop, some c_command_link_repeat, some c_command_link_restart, some c_command_link_reboot, some c_command_CheckModel_1, some
  c_command_checker_list, some c_command_CheckModel_2, some c_command_CheckModel_3, some c_command_CheckModel_4, some c_command_CheckModel_5, some c_command_CheckModel_6, some c_command_CheckModel_7,
  some c_math_bits_Mul, some c_r_CheckModel, some c_command_take_int, some c_command_link_report, some c_command_take_api_CommandReport, some c_command_isName, some c_math_bits_Mul32, some
  c_math_bits_Mul64, some c_r_mark, some c_b_IsName, some c_b_HasText, some c_z_Delete_int, some c_z_Delete_CommandReport]
def AP : FuncId → Option AFn := fun f => (tab[f]?).join

end Go.Ax.Sx.Cm

namespace Go.Ax.Sx.Cm
open Go.Ax
set_option linter.unusedSimpArgs false
set_option linter.unusedVariables false
set_option maxRecDepth 100000
section
variable {s : Sig}
theorem loadr_ptr {r : Rec} {q : Nat} {g : Bool} {n b off : Nat} : loadrOp (s.push r) q g n (.ptr s.acts.length b off) = if r.boxes.length ≤ b + q then none else (s.push r).load g n (.ptr s.acts.length b off) := by
 unfold loadrOp
 simp only [cur_push, nbox_push, true_and]
theorem loadr_eptr {m : Sig} {q : Nat} {g : Bool} {n off : Nat} {cs : List AV} : loadrOp m q g n (.eptr cs off) = m.load g n (.eptr cs off) := rfl
theorem fill_ptr {r : Rec} {k n b off : Nat} {y : AV} : fillOp (s.push r) k n (.ptr s.acts.length b off) y = if b = r.boxes.length - k ∧ 0 < k then (s.push r).store n (.ptr s.acts.length b off) y else none := by
 unfold fillOp
 simp only [cur_push, nbox_push, true_and]
theorem loadd_ptr {r : Rec} {g : Bool} {n b off : Nat} (h : (r.boxes.drop (b + 1)).any List.isEmpty = true) : loaddOp (s.push r) g n (.ptr s.acts.length b off) = (s.push r).load g n (.ptr s.acts.length b off) := by
 unfold loaddOp
 have : (s.push r).deadAbove b = true := by
  unfold Sig.deadAbove
  rw [cur_push]
  simp [Sig.push, h]
 simp only [cur_push, this, true_and, Bool.true_eq_false, if_false]
theorem loadd_eptr {m : Sig} {g : Bool} {n off : Nat} {cs : List AV} : loaddOp m g n (.eptr cs off) = m.load g n (.eptr cs off) := rfl
attribute [go_sem] loadr_ptr loadr_eptr fill_ptr loadd_eptr
theorem onBool_undef {β : Type} {f : Bool → β} {d : β} : onBool AV.undef f d = d := rfl
attribute [go_sem] onBool_undef
theorem rep1 : List.replicate 1 ([] : List AV) = [[]] := rfl
theorem rep2 : List.replicate 2 ([] : List AV) = [[], []] := rfl
theorem modify_last {α : Type} {f : α → α} {x : α} : ∀ {L : List α}, (L ++ [x]).modify L.length f = L ++ [f x]
 | [] => rfl
 | a :: L => by simpa using modify_last (L := L)
section
variable {a b c d e f g r x : List AV} {z : AV}
theorem slot2 : slotL [a, []] [] 1 (z :: r) = some (1, [a, z :: r]) := rfl
theorem slot3 : slotL [a, b, []] [] 1 (z :: r) = some (2, [a, b, z :: r]) := rfl
theorem slot4 : slotL [a, b, c, []] [] 1 (z :: r) = some (3, [a, b, c, z :: r]) := rfl
theorem slot5 : slotL [a, b, c, d, []] [] 1 (z :: r) = some (4, [a, b, c, d, z :: r]) := rfl
theorem slot6 : slotL [a, b, c, d, e, []] [] 1 (z :: r) = some (5, [a, b, c, d, e, z :: r]) := rfl
theorem slot7 : slotL [a, b, c, d, e, f, []] [] 1 (z :: r) = some (6, [a, b, c, d, e, f, z :: r]) := rfl
theorem slot8 : slotL [a, b, c, d, e, f, g, []] [] 1 (z :: r) = some (7, [a, b, c, d, e, f, g, z :: r]) := rfl
theorem slot32 : slotL [a, [], []] [] 2 (z :: r) = some (1, [a, z :: r, []]) := rfl
theorem slot42 : slotL [a, b, [], []] [] 2 (z :: r) = some (2, [a, b, z :: r, []]) := rfl
theorem slot52 : slotL [a, b, c, [], []] [] 2 (z :: r) = some (3, [a, b, c, z :: r, []]) := rfl
theorem slot62 : slotL [a, b, c, d, [], []] [] 2 (z :: r) = some (4, [a, b, c, d, z :: r, []]) := rfl
theorem slot72 : slotL [a, b, c, d, e, [], []] [] 2 (z :: r) = some (5, [a, b, c, d, e, z :: r, []]) := rfl
end
attribute [go_sem] slot2 slot3 slot4 slot5 slot6 slot7 slot8 slot32 slot42 slot52 slot62 slot72
theorem tail_push {bx : List (List AV)} {tk : List (Option Nat)} {r : Nat} : (s.push ⟨bx, tk⟩).tail r = bx.drop (bx.length - r) := by
 unfold Sig.tail
 rw [cur_push]
 simp [Sig.push]
theorem setTail_ok {m : Sig} {r : Nat} {bx : List (List AV)} (h : Ok m) : Ok (m.setTail r bx) := ⟨by have := h.ro; simp only [Sig.setTail, Sig.onRec, List.length_modify]; exact this, h.lro⟩
theorem fc_keep {m : Sig} {ro : Bool} {zss : List (List AV)} {f : FuncId} {args : List AV} {v : AV} (hm : Ok m) (h : ∀ m, Ok m → callL AP (.fn f) args m = some (v, m)) (ht : m.tail zss.length ∈ fills zss) :
  fcallOp (callL AP) ro m zss (.fn f) args = some (v, m) := by
 have hd : ∀ m, Ok m → doCall (callL AP) ro m (.fn f) args = some (v, m) := fun m hm => by
  unfold doCall
  cases ro with
  | false => simp only [Bool.false_eq_true, if_false]; exact h m hm
  | true =>
   simp only [if_true]
   have := h (roS m) ok_roS
   rw [show ({ m with ro := m.acts.length, lro := m.loops.length } : Sig) = roS m from rfl, this]; rfl
 exact fcallOp_iff.2 ⟨hd m hm, ht, fun bx _ => hd _ (setTail_ok hm), rfl, rfl, rfl, fun _ => rfl, fun h => h⟩
theorem fc_push {bx : List (List AV)} {tk : List (Option Nat)} {ro : Bool} {zss : List (List AV)} {f : FuncId} {args : List AV} {v : AV} (pre : List (List AV)) (tl : List (List AV)) (hb : bx = pre ++ tl) (hl : tl.length = zss.length) (ht : tl ∈ fills zss)
  (h : ∀ m tl', m = (s.push ⟨pre ++ tl', tk⟩) ∨ m = roS (s.push ⟨pre ++ tl', tk⟩) → callL AP (.fn f) args m = some (v, m)) :
  fcallOp (callL AP) ro (s.push ⟨bx, tk⟩) zss (.fn f) args = some (v, s.push ⟨bx, tk⟩) := by
 have hd : ∀ tl', doCall (callL AP) ro (s.push ⟨pre ++ tl', tk⟩) (.fn f) args = some (v, s.push ⟨pre ++ tl', tk⟩) := fun tl' => by
  unfold doCall
  cases ro with
  | false => simp only [Bool.false_eq_true, if_false]; exact h _ tl' (.inl rfl)
  | true =>
   simp only [if_true]
   have := h (roS (s.push ⟨pre ++ tl', tk⟩)) tl' (.inr rfl)
   rw [show ({ (s.push ⟨pre ++ tl', tk⟩) with ro := (s.push ⟨pre ++ tl', tk⟩).acts.length, lro := (s.push ⟨pre ++ tl', tk⟩).loops.length } : Sig) = roS (s.push ⟨pre ++ tl', tk⟩) from rfl, this]; rfl
 subst hb
 have hset : ∀ b, (s.push ⟨pre ++ tl, tk⟩).setTail zss.length b = s.push ⟨pre ++ b, tk⟩ := fun b => by
  unfold Sig.setTail
  rw [cur_push]
  have : (s.acts ++ [(⟨pre ++ tl, tk⟩ : Rec)]).modify s.acts.length (fun q => { q with boxes := q.boxes.take (q.boxes.length - zss.length) ++ b }) = s.acts ++ [⟨pre ++ b, tk⟩] := by
   rw [modify_last]
   congr 3
   rw [List.length_append, hl, Nat.add_sub_cancel, List.take_left]
  simp only [Sig.onRec, Sig.push, this]
 refine fcallOp_iff.2 ⟨hd _, ?_, fun b _ => ?_, rfl, rfl, rfl, fun _ => rfl, fun h => h⟩
 ·rw [tail_push, List.length_append, hl, Nat.add_sub_cancel, List.drop_left]; exact ht
 ·rw [hset]; exact hd _
theorem callL_inlgo {f : FuncId} {np nt : Nat} {b : ACode} {rs : List ARes} {own : Bool} (hf : AP f = some (.code np nt b rs own)) {as : List AV} {m : Sig} (hl : as.length = np) (hm : m.ro < m.acts.length) :
  callL AP (.inl f) as m = go AP (fun e st => match e with | .exit _ => none | _ => (rawsOf st rs).map fun l => (packed l, st.sig)) [.c b] ⟨argsT as, m⟩ := by
 rw [callL_inl hf, if_pos ⟨hl, hm⟩]
 simp only [go, goE]
 cases h : runL AP b ⟨argsT as, m⟩ with
 | none => rfl
 | some p => obtain ⟨e, st'⟩ := p; cases e <;> rfl
end
abbrev S (s : ByteArray) : AV := .v (.string s)
def wi (n lo hi : Int) : Bool := decide (lo ≤ n) && decide (n ≤ hi)
theorem wi_iff {n lo hi : Int} : wi n lo hi = true ↔ lo ≤ n ∧ n ≤ hi := by simp [wi]
def letter (c : UInt8) : Bool := (decide (97 ≤ c.toNat) && decide (c.toNat ≤ 122)) || (decide (65 ≤ c.toNat) && decide (c.toNat ≤ 90))
def nameAt (k : Nat) (c : UInt8) : Bool := letter c || (!decide (k = 0) && (decide (c.toNat = 45) || (decide (48 ≤ c.toNat) && decide (c.toNat ≤ 57))))
def nameFrom (k : Nat) : List UInt8 → Bool
 | [] => true
 | c :: r => nameAt k c && nameFrom (k + 1) r
def isName (s : ByteArray) : Bool := nameFrom 0 s.data.toList && decide (1 ≤ s.size) && decide (s.size ≤ 12)
def firstErr : List Int → Int
 | [] => 0
 | x :: r => if x = 0 then firstErr r else x
end Go.Ax.Sx.Cm
