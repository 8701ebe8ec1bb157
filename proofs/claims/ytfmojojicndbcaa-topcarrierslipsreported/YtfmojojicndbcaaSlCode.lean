/- The codes of the functions, as compFn gives them. -/
import Derived.Test.YtfmojojicndbcaaSxD
namespace Go.Ax.Sx.Sl
open Go.Ax

-- 3
def b3_r0 : ACode := (.seq (.region false [⟨(some 6), none, (.move (.const (.v (.bool true))))⟩]) .ret)
def b3_l0 : ACode := (.seq (.seq (.region false [⟨(some 239), none, (.move (.tmp 28))⟩, ⟨(some 240), none, (.move (.tmp 22))⟩, ⟨(some 241), none, (.len false (.tmp 240))⟩, ⟨(some 242), none, (.arith
  .lss (.tmp 239) (.tmp 241))⟩]) (.cond (.tmp 242) .skip (.exit 4))) (.seq (.block 5 (.seq (.region false [⟨(some 245), none, (.move (.tmp 22))⟩, ⟨(some 246), none, (.move (.tmp 28))⟩, ⟨(some 247),
  none, (.indexAddr none 1 (.tmp 245) (.tmp 246))⟩, ⟨(some 248), none, (.load false 1 (.tmp 247))⟩, ⟨(some 249), none, (.move (.tmp 9))⟩, ⟨(some 250), none, (.len false (.tmp 249))⟩, ⟨(some 251),
  none, (.arith .sub (.tmp 250) (.const (.v (.int .i64 1))))⟩, ⟨(some 252), none, (.call false 18 [(.tmp 248), (.const (.v (.int .i64 0))), (.tmp 251)])⟩, ⟨(some 253), none, (.un .not (.tmp 252))⟩,
  ⟨(some 254), none, (.move (.tmp 253))⟩, ⟨(some 255), (some (254, false)), (.move (.tmp 17))⟩, ⟨(some 256), (some (254, false)), (.move (.tmp 22))⟩, ⟨(some 257), (some (254, false)), (.move (.tmp
  28))⟩, ⟨(some 258), (some (254, false)), (.indexAddr none 1 (.tmp 256) (.tmp 257))⟩, ⟨(some 259), (some (254, false)), (.load false 1 (.tmp 258))⟩, ⟨(some 260), (some (254, false)), (.call false 17
  [(.tmp 255), (.tmp 259)])⟩, ⟨(some 261), (some (254, false)), (.un .not (.tmp 260))⟩, ⟨(some 262), (some (254, false)), (.move (.tmp 261))⟩, ⟨(some 263), (some (262, true)), (.move (.tmp 17))⟩,
  ⟨(some 264), (some (262, true)), (.move (.tmp 22))⟩, ⟨(some 265), (some (262, true)), (.move (.tmp 28))⟩, ⟨(some 266), (some (262, true)), (.indexAddr none 1 (.tmp 264) (.tmp 265))⟩, ⟨(some 267),
  (some (262, true)), (.load false 1 (.tmp 266))⟩, ⟨(some 268), (some (262, true)), (.arith .sub (.tmp 267) (.const (.v (.int .i64 1))))⟩, ⟨(some 269), (some (262, true)), (.call false 17 [(.tmp 263),
  (.tmp 268)])⟩, ⟨(some 270), (some (262, true)), (.un .not (.tmp 269))⟩, ⟨(some 271), (some (254, false)), (.pick (.tmp 262) (.tmp 270) (.const (.v (.bool false))))⟩, ⟨(some 272), none, (.pick (.tmp
  254) (.const (.v (.bool true))) (.tmp 271))⟩]) (.cond (.tmp 272) (.seq (.region false [⟨(some 6), none, (.move (.const (.v (.bool false))))⟩]) .ret) .skip))) (.region false [⟨(some 243), none,
  (.move (.tmp 28))⟩, ⟨(some 244), none, (.arith .add (.tmp 243) (.const (.v (.int .i64 1))))⟩, ⟨(some 28), none, (.move (.tmp 244))⟩])))
def b3_r1 : ACode := (.seq (.seq (.region false [⟨(some 28), none, (.move (.const (.v (.int .i64 0))))⟩]) (.block 4 (.loop b3_l0))) b3_r0)
def b3_l1 : ACode := (.seq (.seq (.region false [⟨(some 196), none, (.move (.tmp 26))⟩, ⟨(some 197), none, (.move (.tmp 19))⟩, ⟨(some 198), none, (.len false (.tmp 197))⟩, ⟨(some 199), none, (.arith
  .lss (.tmp 196) (.tmp 198))⟩]) (.cond (.tmp 199) .skip (.exit 2))) (.seq (.block 3 (.seq (.seq (.region false [⟨(some 202), none, (.move (.tmp 19))⟩, ⟨(some 203), none, (.move (.tmp 26))⟩, ⟨(some
  204), none, (.indexAddr none 2 (.tmp 202) (.tmp 203))⟩, ⟨(some 205), none, (.load true 2 (.tmp 204))⟩, ⟨(some 206), none, (.call false 15 [(.tmp 205)])⟩, ⟨(some 207), none, (.arith .neq (.tmp 206)
  (.const (.v (.int .i64 0))))⟩]) (.cond (.tmp 207) (.seq (.region false [⟨(some 6), none, (.move (.const (.v (.bool false))))⟩]) .ret) .skip)) (.seq (.region true [⟨(some 208), none, (.move (.tmp
  9))⟩, ⟨(some 209), none, (.move (.tmp 26))⟩, ⟨(some 210), none, (.indexAddr none 1 (.tmp 208) (.tmp 209))⟩, ⟨(some 211), none, (.load false 1 (.tmp 210))⟩, ⟨(some 212), none, (.move (.tmp 19))⟩,
  ⟨(some 213), none, (.move (.tmp 26))⟩, ⟨(some 214), none, (.indexAddr none 2 (.tmp 212) (.tmp 213))⟩, ⟨(some 215), none, (.fieldAddr 0 (.tmp 214))⟩, ⟨(some 216), none, (.load false 1 (.tmp 215))⟩,
  ⟨(some 217), none, (.arith .sub (.tmp 211) (.tmp 216))⟩, ⟨(some 218), none, (.call false 16 [(.tmp 217)])⟩, ⟨(some 27), none, (.move (.tmp 218))⟩]) (.seq (.region false [⟨(some 219), none, (.move
  (.tmp 27))⟩, ⟨(some 220), none, (.arith .geq (.tmp 219) (.const (.v (.int .i64 2048))))⟩, ⟨(some 221), none, (.move (.tmp 220))⟩, ⟨(some 222), (some (221, true)), (.move (.tmp 17))⟩, ⟨(some 223),
  (some (221, true)), (.move (.tmp 26))⟩, ⟨(some 224), (some (221, true)), (.call false 17 [(.tmp 222), (.tmp 223)])⟩, ⟨(some 225), (some (221, true)), (.un .not (.tmp 224))⟩, ⟨(some 226), none,
  (.pick (.tmp 221) (.tmp 225) (.const (.v (.bool false))))⟩, ⟨(some 227), none, (.move (.tmp 226))⟩, ⟨(some 228), (some (227, false)), (.move (.tmp 17))⟩, ⟨(some 229), (some (227, false)), (.move
  (.tmp 26))⟩, ⟨(some 230), (some (227, false)), (.call false 17 [(.tmp 228), (.tmp 229)])⟩, ⟨(some 231), (some (227, false)), (.move (.tmp 230))⟩, ⟨(some 232), (some (231, true)), (.move (.tmp 27))⟩,
  ⟨(some 233), (some (231, true)), (.move (.tmp 12))⟩, ⟨(some 234), (some (231, true)), (.arith .mul (.const (.v (.int .i64 2))) (.tmp 233))⟩, ⟨(some 235), (some (231, true)), (.arith .sub (.const (.v
  (.int .i64 2048))) (.tmp 234))⟩, ⟨(some 236), (some (231, true)), (.arith .lss (.tmp 232) (.tmp 235))⟩, ⟨(some 237), (some (227, false)), (.pick (.tmp 231) (.tmp 236) (.const (.v (.bool false))))⟩,
  ⟨(some 238), none, (.pick (.tmp 227) (.const (.v (.bool true))) (.tmp 237))⟩]) (.cond (.tmp 238) (.seq (.region false [⟨(some 6), none, (.move (.const (.v (.bool false))))⟩]) .ret) .skip)))))
  (.region false [⟨(some 200), none, (.move (.tmp 26))⟩, ⟨(some 201), none, (.arith .add (.tmp 200) (.const (.v (.int .i64 1))))⟩, ⟨(some 26), none, (.move (.tmp 201))⟩])))
def b3_r2 : ACode := (.seq (.region false [⟨(some 103), none, (.move (.tmp 12))⟩, ⟨(some 104), none, (.arith .sub (.const (.v (.int .i64 2048))) (.tmp 103))⟩, ⟨(some 14), none, (.move (.tmp 104))⟩])
  (.seq (.seq (.region false [⟨(some 105), none, (.move (.tmp 14))⟩, ⟨(some 106), none, (.arith .lss (.tmp 105) (.const (.v (.int .i64 1))))⟩]) (.cond (.tmp 106) (.seq (.region false [⟨(some 6), none,
  (.move (.const (.v (.bool true))))⟩]) .ret) .skip)) (.seq (.seq (.region true [⟨(some 108), none, (.indexAddr (some 2) 4 (.tmp 3) (.const (.v (.int .i64 0))))⟩, ⟨(some 109), none, (.load true 4
  (.tmp 108))⟩, ⟨(some 110), none, (.fieldAddr 0 (.tmp 4))⟩, ⟨(some 111), none, (.load true 5 (.tmp 110))⟩, ⟨(some 112), none, (.fieldAddr 5 (.tmp 4))⟩, ⟨(some 113), none, (.load false 1 (.tmp 112))⟩,
  ⟨(some 114), none, (.call true 10 [(.tmp 113)])⟩, ⟨(some 115), none, (.call false 9 [(.tmp 109), (.tmp 111), (.tmp 114)])⟩, ⟨(some 107), none, (.move (.tmp 115))⟩, ⟨(some 116), none, (.extract 0
  (.tmp 107))⟩, ⟨(some 117), none, (.extract 1 (.tmp 107))⟩, ⟨(some 15), none, (.move (.tmp 116))⟩, ⟨(some 16), none, (.move (.tmp 117))⟩]) (.seq (.region false [⟨(some 118), none, (.move (.tmp 16))⟩,
  ⟨(some 119), none, (.arith .neq (.tmp 118) (.const (.v (.int .i64 0))))⟩]) (.cond (.tmp 119) (.seq (.region false [⟨(some 6), none, (.move (.const (.v (.bool false))))⟩]) .ret) .skip))) (.seq
  (.region true [⟨(some 121), none, (.load true 8 (.tmp 3))⟩, ⟨(some 122), none, (.move (.tmp 10))⟩, ⟨(some 123), none, (.call true 12 [(.tmp 122)])⟩, ⟨(some 124), none, (.move (.tmp 14))⟩, ⟨(some
  125), none, (.call false 11 [(.tmp 121), (.tmp 123), (.tmp 124)])⟩, ⟨(some 120), none, (.move (.tmp 125))⟩, ⟨(some 126), none, (.extract 0 (.tmp 120))⟩, ⟨(some 127), none, (.extract 1 (.tmp 120))⟩,
  ⟨(some 17), none, (.move (.tmp 126))⟩, ⟨(some 18), none, (.move (.tmp 127))⟩]) (.seq (.region true [⟨(some 129), none, (.indexAddr (some 2) 4 (.tmp 3) (.const (.v (.int .i64 1))))⟩, ⟨(some 130),
  none, (.load true 4 (.tmp 129))⟩, ⟨(some 131), none, (.move (.tmp 10))⟩, ⟨(some 132), none, (.call true 12 [(.tmp 131)])⟩, ⟨(some 133), none, (.call false 13 [(.tmp 130), (.tmp 132)])⟩, ⟨(some 128),
  none, (.move (.tmp 133))⟩, ⟨(some 134), none, (.extract 0 (.tmp 128))⟩, ⟨(some 135), none, (.extract 1 (.tmp 128))⟩, ⟨(some 136), none, (.extract 2 (.tmp 128))⟩, ⟨(some 19), none, (.move (.tmp
  134))⟩, ⟨(some 20), none, (.move (.tmp 135))⟩, ⟨(some 21), none, (.move (.tmp 136))⟩]) (.seq (.region true [⟨(some 138), none, (.indexAddr (some 2) 4 (.tmp 3) (.const (.v (.int .i64 1))))⟩, ⟨(some
  139), none, (.load true 4 (.tmp 138))⟩, ⟨(some 140), none, (.move (.tmp 10))⟩, ⟨(some 141), none, (.call true 12 [(.tmp 140)])⟩, ⟨(some 142), none, (.move (.tmp 9))⟩, ⟨(some 143), none, (.call true
  12 [(.tmp 142)])⟩, ⟨(some 144), none, (.call false 14 [(.tmp 139), (.tmp 141), (.tmp 143)])⟩, ⟨(some 137), none, (.move (.tmp 144))⟩, ⟨(some 145), none, (.extract 0 (.tmp 137))⟩, ⟨(some 146), none,
  (.extract 1 (.tmp 137))⟩, ⟨(some 22), none, (.move (.tmp 145))⟩, ⟨(some 23), none, (.move (.tmp 146))⟩]) (.seq (.region true [⟨(some 148), none, (.indexAddr (some 2) 4 (.tmp 3) (.const (.v (.int
  .i64 0))))⟩, ⟨(some 149), none, (.load true 4 (.tmp 148))⟩, ⟨(some 150), none, (.move (.tmp 10))⟩, ⟨(some 151), none, (.move (.tmp 9))⟩, ⟨(some 152), none, (.call true 12 [(.tmp 151)])⟩, ⟨(some
  153), none, (.call false 14 [(.tmp 149), (.tmp 150), (.tmp 152)])⟩, ⟨(some 147), none, (.move (.tmp 153))⟩, ⟨(some 154), none, (.extract 0 (.tmp 147))⟩, ⟨(some 155), none, (.extract 1 (.tmp 147))⟩,
  ⟨(some 24), none, (.move (.tmp 154))⟩, ⟨(some 25), none, (.move (.tmp 155))⟩]) (.seq (.seq (.region false [⟨(some 156), none, (.move (.tmp 18))⟩, ⟨(some 157), none, (.arith .neq (.tmp 156) (.const
  (.v (.int .i64 0))))⟩, ⟨(some 158), none, (.move (.tmp 157))⟩, ⟨(some 159), (some (158, false)), (.move (.tmp 21))⟩, ⟨(some 160), (some (158, false)), (.arith .neq (.tmp 159) (.const (.v (.int .i64
  0))))⟩, ⟨(some 161), none, (.pick (.tmp 158) (.const (.v (.bool true))) (.tmp 160))⟩, ⟨(some 162), none, (.move (.tmp 161))⟩, ⟨(some 163), (some (162, false)), (.move (.tmp 23))⟩, ⟨(some 164), (some
  (162, false)), (.arith .neq (.tmp 163) (.const (.v (.int .i64 0))))⟩, ⟨(some 165), none, (.pick (.tmp 162) (.const (.v (.bool true))) (.tmp 164))⟩, ⟨(some 166), none, (.move (.tmp 165))⟩, ⟨(some
  167), (some (166, false)), (.move (.tmp 25))⟩, ⟨(some 168), (some (166, false)), (.arith .neq (.tmp 167) (.const (.v (.int .i64 0))))⟩, ⟨(some 169), none, (.pick (.tmp 166) (.const (.v (.bool
  true))) (.tmp 168))⟩, ⟨(some 170), none, (.move (.tmp 169))⟩, ⟨(some 171), (some (170, false)), (.move (.tmp 24))⟩, ⟨(some 172), (some (170, false)), (.len false (.tmp 171))⟩, ⟨(some 173), (some
  (170, false)), (.arith .neq (.tmp 172) (.const (.v (.int .i64 0))))⟩, ⟨(some 174), none, (.pick (.tmp 170) (.const (.v (.bool true))) (.tmp 173))⟩, ⟨(some 175), none, (.move (.tmp 174))⟩, ⟨(some
  176), (some (175, false)), (.move (.tmp 19))⟩, ⟨(some 177), (some (175, false)), (.len false (.tmp 176))⟩, ⟨(some 178), (some (175, false)), (.move (.tmp 9))⟩, ⟨(some 179), (some (175, false)),
  (.len false (.tmp 178))⟩, ⟨(some 180), (some (175, false)), (.arith .neq (.tmp 177) (.tmp 179))⟩, ⟨(some 181), none, (.pick (.tmp 175) (.const (.v (.bool true))) (.tmp 180))⟩, ⟨(some 182), none,
  (.move (.tmp 181))⟩, ⟨(some 183), (some (182, false)), (.move (.tmp 17))⟩, ⟨(some 184), (some (182, false)), (.len false (.tmp 183))⟩, ⟨(some 185), (some (182, false)), (.move (.tmp 9))⟩, ⟨(some
  186), (some (182, false)), (.len false (.tmp 185))⟩, ⟨(some 187), (some (182, false)), (.arith .gtr (.tmp 184) (.tmp 186))⟩, ⟨(some 188), none, (.pick (.tmp 182) (.const (.v (.bool true))) (.tmp
  187))⟩, ⟨(some 189), none, (.move (.tmp 188))⟩, ⟨(some 190), (some (189, false)), (.move (.tmp 22))⟩, ⟨(some 191), (some (189, false)), (.len false (.tmp 190))⟩, ⟨(some 192), (some (189, false)),
  (.move (.tmp 9))⟩, ⟨(some 193), (some (189, false)), (.len false (.tmp 192))⟩, ⟨(some 194), (some (189, false)), (.arith .gtr (.tmp 191) (.tmp 193))⟩, ⟨(some 195), none, (.pick (.tmp 189) (.const
  (.v (.bool true))) (.tmp 194))⟩]) (.cond (.tmp 195) (.seq (.region false [⟨(some 6), none, (.move (.const (.v (.bool false))))⟩]) .ret) .skip)) (.seq (.seq (.region false [⟨(some 26), none, (.move
  (.const (.v (.int .i64 0))))⟩]) (.block 2 (.loop b3_l1))) b3_r1)))))))))
def b3_l2 : ACode := (.seq (.seq (.region false [⟨(some 79), none, (.move (.tmp 13))⟩, ⟨(some 80), none, (.fieldAddr 5 (.tmp 4))⟩, ⟨(some 81), none, (.load false 1 (.tmp 80))⟩, ⟨(some 82), none, (.len
  false (.tmp 81))⟩, ⟨(some 83), none, (.arith .lss (.tmp 79) (.tmp 82))⟩]) (.cond (.tmp 83) .skip (.exit 0))) (.seq (.block 1 (.region true [⟨(some 86), none, (.move (.tmp 12))⟩, ⟨(some 87), none,
  (.fieldAddr 5 (.tmp 4))⟩, ⟨(some 88), none, (.load false 1 (.tmp 87))⟩, ⟨(some 89), none, (.move (.tmp 13))⟩, ⟨(some 90), none, (.indexAddr none 3 (.tmp 88) (.tmp 89))⟩, ⟨(some 91), none,
  (.fieldAddr 1 (.tmp 90))⟩, ⟨(some 92), none, (.fieldAddr 0 (.tmp 91))⟩, ⟨(some 93), none, (.load false 1 (.tmp 92))⟩, ⟨(some 94), none, (.un .neg (.tmp 93))⟩, ⟨(some 95), none, (.fieldAddr 5 (.tmp
  4))⟩, ⟨(some 96), none, (.load false 1 (.tmp 95))⟩, ⟨(some 97), none, (.move (.tmp 13))⟩, ⟨(some 98), none, (.indexAddr none 3 (.tmp 96) (.tmp 97))⟩, ⟨(some 99), none, (.fieldAddr 1 (.tmp 98))⟩,
  ⟨(some 100), none, (.fieldAddr 1 (.tmp 99))⟩, ⟨(some 101), none, (.load false 1 (.tmp 100))⟩, ⟨(some 102), none, (.minmax true [(.tmp 86), (.tmp 94), (.tmp 101)])⟩, ⟨(some 12), none, (.move (.tmp
  102))⟩])) (.region false [⟨(some 84), none, (.move (.tmp 13))⟩, ⟨(some 85), none, (.arith .add (.tmp 84) (.const (.v (.int .i64 1))))⟩, ⟨(some 13), none, (.move (.tmp 85))⟩])))
def b3 : ACode := (.seq (.region false [⟨(some 3), none, (.box 8 (.tmp 0))⟩, ⟨(some 4), none, (.box 6 (.tmp 1))⟩, ⟨(some 5), none, (.box 2 (.tmp 2))⟩, ⟨(some 6), none, (.move (.const (.v (.bool
  false))))⟩]) (.seq (.seq (.region false [⟨(some 29), none, (.call false 4 [])⟩, ⟨(some 30), none, (.un .not (.tmp 29))⟩]) (.cond (.tmp 30) (.seq (.region false [⟨(some 6), none, (.move (.const (.v
  (.bool false))))⟩]) .ret) .skip)) (.seq (.seq (.region false [⟨(some 31), none, (.indexAddr (some 2) 4 (.tmp 3) (.const (.v (.int .i64 0))))⟩, ⟨(some 32), none, (.load true 4 (.tmp 31))⟩, ⟨(some
  33), none, (.call false 5 [(.tmp 32)])⟩, ⟨(some 34), none, (.arith .neq (.tmp 33) (.const (.v (.int .i64 0))))⟩, ⟨(some 35), none, (.move (.tmp 34))⟩, ⟨(some 36), (some (35, false)), (.indexAddr
  (some 2) 4 (.tmp 3) (.const (.v (.int .i64 1))))⟩, ⟨(some 37), (some (35, false)), (.load true 4 (.tmp 36))⟩, ⟨(some 38), (some (35, false)), (.call false 5 [(.tmp 37)])⟩, ⟨(some 39), (some (35,
  false)), (.arith .neq (.tmp 38) (.const (.v (.int .i64 0))))⟩, ⟨(some 40), none, (.pick (.tmp 35) (.const (.v (.bool true))) (.tmp 39))⟩, ⟨(some 41), none, (.move (.tmp 40))⟩, ⟨(some 42), (some (41,
  false)), (.fieldAddr 0 (.tmp 4))⟩, ⟨(some 43), (some (41, false)), (.load true 5 (.tmp 42))⟩, ⟨(some 44), (some (41, false)), (.call false 6 [(.tmp 43)])⟩, ⟨(some 45), (some (41, false)), (.arith
  .neq (.tmp 44) (.const (.v (.int .i64 0))))⟩, ⟨(some 46), none, (.pick (.tmp 41) (.const (.v (.bool true))) (.tmp 45))⟩, ⟨(some 47), none, (.move (.tmp 46))⟩, ⟨(some 48), (some (47, false)),
  (.fieldAddr 5 (.tmp 4))⟩, ⟨(some 49), (some (47, false)), (.load false 1 (.tmp 48))⟩, ⟨(some 50), (some (47, false)), (.len false (.tmp 49))⟩, ⟨(some 51), (some (47, false)), (.arith .gtr (.tmp 50)
  (.const (.v (.int .i64 12))))⟩, ⟨(some 52), none, (.pick (.tmp 47) (.const (.v (.bool true))) (.tmp 51))⟩]) (.cond (.tmp 52) (.seq (.region false [⟨(some 6), none, (.move (.const (.v (.bool
  true))))⟩]) .ret) .skip)) (.seq (.seq (.region false [⟨(some 54), none, (.indexAddr (some 2) 4 (.tmp 3) (.const (.v (.int .i64 0))))⟩, ⟨(some 55), none, (.load true 4 (.tmp 54))⟩, ⟨(some 56), none,
  (.fieldAddr 0 (.tmp 4))⟩, ⟨(some 57), none, (.load true 5 (.tmp 56))⟩, ⟨(some 58), none, (.fieldAddr 5 (.tmp 4))⟩, ⟨(some 59), none, (.load false 1 (.tmp 58))⟩, ⟨(some 60), none, (.call false 7
  [(.tmp 55), (.tmp 57), (.tmp 59)])⟩, ⟨(some 53), none, (.move (.tmp 60))⟩, ⟨(some 61), none, (.extract 0 (.tmp 53))⟩, ⟨(some 62), none, (.extract 1 (.tmp 53))⟩, ⟨(some 7), none, (.move (.tmp 61))⟩,
  ⟨(some 8), none, (.move (.tmp 62))⟩]) (.seq (.region false [⟨(some 63), none, (.move (.tmp 8))⟩, ⟨(some 64), none, (.arith .neq (.tmp 63) (.const (.v (.int .i64 0))))⟩, ⟨(some 65), none, (.move
  (.tmp 64))⟩, ⟨(some 66), (some (65, false)), (.move (.tmp 7))⟩, ⟨(some 67), (some (65, false)), (.arith .gtr (.tmp 66) (.const (.v (.int .i64 300))))⟩, ⟨(some 68), none, (.pick (.tmp 65) (.const (.v
  (.bool true))) (.tmp 67))⟩]) (.cond (.tmp 68) (.seq (.region false [⟨(some 6), none, (.move (.const (.v (.bool true))))⟩]) .ret) .skip))) (.seq (.region false [⟨(some 70), none, (.fieldAddr 0 (.tmp
  4))⟩, ⟨(some 71), none, (.load true 5 (.tmp 70))⟩, ⟨(some 72), none, (.load true 2 (.tmp 5))⟩, ⟨(some 73), none, (.call false 8 [(.tmp 71), (.tmp 72)])⟩, ⟨(some 69), none, (.move (.tmp 73))⟩, ⟨(some
  74), none, (.extract 0 (.tmp 69))⟩, ⟨(some 75), none, (.extract 1 (.tmp 69))⟩, ⟨(some 76), none, (.extract 2 (.tmp 69))⟩, ⟨(some 9), none, (.move (.tmp 74))⟩, ⟨(some 10), none, (.move (.tmp 75))⟩,
  ⟨(some 11), none, (.move (.tmp 76))⟩]) (.seq (.seq (.region false [⟨(some 77), none, (.move (.tmp 11))⟩, ⟨(some 78), none, (.un .not (.tmp 77))⟩]) (.cond (.tmp 78) (.seq (.region false [⟨(some 6),
  none, (.move (.const (.v (.bool true))))⟩]) .ret) .skip)) (.seq (.region false [⟨(some 12), none, (.move (.const (.v (.int .i64 0))))⟩]) (.seq (.seq (.region false [⟨(some 13), none, (.move (.const
  (.v (.int .i64 0))))⟩]) (.block 0 (.loop b3_l2))) b3_r2))))))))
abbrev k3_0 : List K := [.blk 4, .c b3_r0]
abbrev k3_1 : List K := [.blk 2, .c b3_r1]
abbrev k3_2 : List K := [.blk 0, .c b3_r2]
abbrev f3 := finF [(.tmp 6)] false
def c3 : AFn := .code 3 273 b3 [(.tmp 6)] false
-- 4
def b4 : ACode := (.seq (.region false [⟨(some 0), none, (.move (.const (.v (.bool false))))⟩]) (.seq (.region false [⟨(some 7), none, (.call false 19 [])⟩, ⟨(some 8), none, (.buildSlice 1 [[(.v (.int
  .i64 0))], [(.v (.int .i64 0))], [(.v (.int .i64 0))]] [(0, (.const (.v (.int .i64 100)))), (1, (.const (.v (.int .i64 100)))), (2, (.const (.v (.int .i64 100))))])⟩, ⟨(some 9), none, (.call false
  13 [(.tmp 7), (.tmp 8)])⟩, ⟨(some 6), none, (.move (.tmp 9))⟩, ⟨(some 10), none, (.extract 0 (.tmp 6))⟩, ⟨(some 11), none, (.extract 1 (.tmp 6))⟩, ⟨(some 12), none, (.extract 2 (.tmp 6))⟩, ⟨(some
  1), none, (.move (.tmp 10))⟩, ⟨(some 2), none, (.move (.tmp 11))⟩, ⟨(some 3), none, (.move (.tmp 12))⟩]) (.seq (.region false [⟨(some 14), none, (.call false 19 [])⟩, ⟨(some 15), none, (.call false
  20 [])⟩, ⟨(some 16), none, (.build [(.v (.int .i64 0)), (.v (.int .i64 0))] [(1, (1, (.const (.v (.int .i64 20)))))])⟩, ⟨(some 17), none, (.build [(.v (.int .i64 0)), (.v (.int .i64 0)), (.v (.int
  .i64 0))] [(1, (2, (.tmp 16)))])⟩, ⟨(some 18), none, (.buildSlice 3 [[(.v (.int .i64 0)), (.v (.int .i64 0)), (.v (.int .i64 0))]] [(0, (.tmp 17))])⟩, ⟨(some 19), none, (.call false 9 [(.tmp 14),
  (.tmp 15), (.tmp 18)])⟩, ⟨(some 13), none, (.move (.tmp 19))⟩, ⟨(some 20), none, (.extract 0 (.tmp 13))⟩, ⟨(some 21), none, (.extract 1 (.tmp 13))⟩, ⟨(some 4), none, (.move (.tmp 20))⟩, ⟨(some 5),
  none, (.move (.tmp 21))⟩]) (.seq (.region false [⟨(some 22), none, (.move (.tmp 3))⟩, ⟨(some 23), none, (.arith .eql (.tmp 22) (.const (.v (.int .i64 0))))⟩, ⟨(some 24), none, (.move (.tmp 23))⟩,
  ⟨(some 25), (some (24, true)), (.move (.tmp 2))⟩, ⟨(some 26), (some (24, true)), (.buildSlice 1 [[(.v (.int .i64 0))], [(.v (.int .i64 0))], [(.v (.int .i64 0))]] [(0, (.const (.v (.int .i64
  100)))), (1, (.const (.v (.int .i64 50)))), (2, (.const (.v (.int .i64 25))))])⟩, ⟨(some 27), (some (24, true)), (.call false 21 [(.tmp 25), (.tmp 26)])⟩, ⟨(some 28), none, (.pick (.tmp 24) (.tmp
  27) (.const (.v (.bool false))))⟩, ⟨(some 29), none, (.move (.tmp 28))⟩, ⟨(some 30), (some (29, true)), (.move (.tmp 5))⟩, ⟨(some 31), (some (29, true)), (.arith .eql (.tmp 30) (.const (.v (.int
  .i64 0))))⟩, ⟨(some 32), none, (.pick (.tmp 29) (.tmp 31) (.const (.v (.bool false))))⟩, ⟨(some 33), none, (.move (.tmp 32))⟩, ⟨(some 34), (some (33, true)), (.move (.tmp 4))⟩, ⟨(some 35), (some
  (33, true)), (.arith .eql (.tmp 34) (.const (.v (.int .i64 21))))⟩, ⟨(some 36), none, (.pick (.tmp 33) (.tmp 35) (.const (.v (.bool false))))⟩, ⟨(some 0), none, (.move (.tmp 36))⟩]) .ret))))
abbrev f4 := finF [(.tmp 0)] false
def c4 : AFn := .code 0 37 b4 [(.tmp 0)] false
-- 5
def b5 : ACode := (.seq (.region false [⟨(some 1), none, (.box 4 (.tmp 0))⟩, ⟨(some 2), none, (.move (.const (.v (.int .i64 0))))⟩]) (.seq (.seq (.region false [⟨(some 3), none, (.fieldAddr 0 (.tmp
  1))⟩, ⟨(some 4), none, (.load false 1 (.tmp 3))⟩, ⟨(some 5), none, (.call false 18 [(.tmp 4), (.const (.v (.int .i64 0))), (.const (.v (.int .i64 1000)))])⟩, ⟨(some 6), none, (.un .not (.tmp 5))⟩,
  ⟨(some 7), none, (.move (.tmp 6))⟩, ⟨(some 8), (some (7, false)), (.fieldAddr 1 (.tmp 1))⟩, ⟨(some 9), (some (7, false)), (.load false 1 (.tmp 8))⟩, ⟨(some 10), (some (7, false)), (.call false 18
  [(.tmp 9), (.const (.v (.int .i64 0))), (.const (.v (.int .i64 1000)))])⟩, ⟨(some 11), (some (7, false)), (.un .not (.tmp 10))⟩, ⟨(some 12), none, (.pick (.tmp 7) (.const (.v (.bool true))) (.tmp
  11))⟩, ⟨(some 13), none, (.move (.tmp 12))⟩, ⟨(some 14), (some (13, false)), (.fieldAddr 2 (.tmp 1))⟩, ⟨(some 15), (some (13, false)), (.load false 1 (.tmp 14))⟩, ⟨(some 16), (some (13, false)),
  (.call false 18 [(.tmp 15), (.const (.v (.int .i64 1))), (.const (.v (.int .i64 1000)))])⟩, ⟨(some 17), (some (13, false)), (.un .not (.tmp 16))⟩, ⟨(some 18), none, (.pick (.tmp 13) (.const (.v
  (.bool true))) (.tmp 17))⟩, ⟨(some 19), none, (.move (.tmp 18))⟩, ⟨(some 20), (some (19, false)), (.fieldAddr 3 (.tmp 1))⟩, ⟨(some 21), (some (19, false)), (.load false 1 (.tmp 20))⟩, ⟨(some 22),
  (some (19, false)), (.call false 22 [(.tmp 21)])⟩, ⟨(some 23), (some (19, false)), (.un .not (.tmp 22))⟩, ⟨(some 24), none, (.pick (.tmp 19) (.const (.v (.bool true))) (.tmp 23))⟩]) (.cond (.tmp 24)
  (.seq (.region false [⟨(some 2), none, (.move (.const (.v (.int .i64 2))))⟩]) .ret) .skip)) (.seq (.region false [⟨(some 2), none, (.move (.const (.v (.int .i64 0))))⟩]) .ret)))
abbrev f5 := finF [(.tmp 2)] false
def c5 : AFn := .code 1 25 b5 [(.tmp 2)] false
-- 6
def b6 : ACode := (.seq (.region false [⟨(some 1), none, (.box 5 (.tmp 0))⟩, ⟨(some 2), none, (.move (.const (.v (.int .i64 0))))⟩]) (.seq (.seq (.region false [⟨(some 3), none, (.fieldAddr 0 (.tmp
  1))⟩, ⟨(some 4), none, (.fieldAddr 0 (.tmp 3))⟩, ⟨(some 5), none, (.load false 1 (.tmp 4))⟩, ⟨(some 6), none, (.call false 22 [(.tmp 5)])⟩, ⟨(some 7), none, (.un .not (.tmp 6))⟩, ⟨(some 8), none,
  (.move (.tmp 7))⟩, ⟨(some 9), (some (8, false)), (.fieldAddr 0 (.tmp 1))⟩, ⟨(some 10), (some (8, false)), (.fieldAddr 1 (.tmp 9))⟩, ⟨(some 11), (some (8, false)), (.load false 1 (.tmp 10))⟩, ⟨(some
  12), (some (8, false)), (.call false 22 [(.tmp 11)])⟩, ⟨(some 13), (some (8, false)), (.un .not (.tmp 12))⟩, ⟨(some 14), none, (.pick (.tmp 8) (.const (.v (.bool true))) (.tmp 13))⟩, ⟨(some 15),
  none, (.move (.tmp 14))⟩, ⟨(some 16), (some (15, false)), (.fieldAddr 2 (.tmp 1))⟩, ⟨(some 17), (some (15, false)), (.fieldAddr 0 (.tmp 16))⟩, ⟨(some 18), (some (15, false)), (.load false 1 (.tmp
  17))⟩, ⟨(some 19), (some (15, false)), (.call false 22 [(.tmp 18)])⟩, ⟨(some 20), (some (15, false)), (.un .not (.tmp 19))⟩, ⟨(some 21), none, (.pick (.tmp 15) (.const (.v (.bool true))) (.tmp
  20))⟩, ⟨(some 22), none, (.move (.tmp 21))⟩, ⟨(some 23), (some (22, false)), (.fieldAddr 2 (.tmp 1))⟩, ⟨(some 24), (some (22, false)), (.fieldAddr 1 (.tmp 23))⟩, ⟨(some 25), (some (22, false)),
  (.load false 1 (.tmp 24))⟩, ⟨(some 26), (some (22, false)), (.call false 22 [(.tmp 25)])⟩, ⟨(some 27), (some (22, false)), (.un .not (.tmp 26))⟩, ⟨(some 28), none, (.pick (.tmp 22) (.const (.v
  (.bool true))) (.tmp 27))⟩, ⟨(some 29), none, (.move (.tmp 28))⟩, ⟨(some 30), (some (29, false)), (.fieldAddr 4 (.tmp 1))⟩, ⟨(some 31), (some (29, false)), (.load false 1 (.tmp 30))⟩, ⟨(some 32),
  (some (29, false)), (.call false 18 [(.tmp 31), (.const (.v (.int .i64 0))), (.const (.v (.int .i64 100)))])⟩, ⟨(some 33), (some (29, false)), (.un .not (.tmp 32))⟩, ⟨(some 34), none, (.pick (.tmp
  29) (.const (.v (.bool true))) (.tmp 33))⟩]) (.cond (.tmp 34) (.seq (.region false [⟨(some 2), none, (.move (.const (.v (.int .i64 2))))⟩]) .ret) .skip)) (.seq (.seq (.region false [⟨(some 35),
  none, (.fieldAddr 0 (.tmp 1))⟩, ⟨(some 36), none, (.fieldAddr 0 (.tmp 35))⟩, ⟨(some 37), none, (.load false 1 (.tmp 36))⟩, ⟨(some 38), none, (.fieldAddr 0 (.tmp 1))⟩, ⟨(some 39), none, (.fieldAddr 1
  (.tmp 38))⟩, ⟨(some 40), none, (.load false 1 (.tmp 39))⟩, ⟨(some 41), none, (.arith .gtr (.tmp 37) (.tmp 40))⟩, ⟨(some 42), none, (.move (.tmp 41))⟩, ⟨(some 43), (some (42, false)), (.fieldAddr 2
  (.tmp 1))⟩, ⟨(some 44), (some (42, false)), (.fieldAddr 0 (.tmp 43))⟩, ⟨(some 45), (some (42, false)), (.load false 1 (.tmp 44))⟩, ⟨(some 46), (some (42, false)), (.fieldAddr 2 (.tmp 1))⟩, ⟨(some
  47), (some (42, false)), (.fieldAddr 1 (.tmp 46))⟩, ⟨(some 48), (some (42, false)), (.load false 1 (.tmp 47))⟩, ⟨(some 49), (some (42, false)), (.arith .gtr (.tmp 45) (.tmp 48))⟩, ⟨(some 50), none,
  (.pick (.tmp 42) (.const (.v (.bool true))) (.tmp 49))⟩]) (.cond (.tmp 50) (.seq (.region false [⟨(some 2), none, (.move (.const (.v (.int .i64 9))))⟩]) .ret) .skip)) (.seq (.seq (.region false
  [⟨(some 51), none, (.fieldAddr 2 (.tmp 1))⟩, ⟨(some 52), none, (.fieldAddr 1 (.tmp 51))⟩, ⟨(some 53), none, (.load false 1 (.tmp 52))⟩, ⟨(some 54), none, (.fieldAddr 2 (.tmp 1))⟩, ⟨(some 55), none,
  (.fieldAddr 0 (.tmp 54))⟩, ⟨(some 56), none, (.load false 1 (.tmp 55))⟩, ⟨(some 57), none, (.arith .sub (.tmp 53) (.tmp 56))⟩, ⟨(some 58), none, (.arith .geq (.tmp 57) (.const (.v (.int .i64
  9))))⟩]) (.cond (.tmp 58) (.seq (.region false [⟨(some 2), none, (.move (.const (.v (.int .i64 8))))⟩]) .ret) .skip)) (.seq (.region false [⟨(some 2), none, (.move (.const (.v (.int .i64 0))))⟩])
  .ret)))))
abbrev f6 := finF [(.tmp 2)] false
def c6 : AFn := .code 1 59 b6 [(.tmp 2)] false
-- 7
def b7_r0 : ACode := (.seq (.region false [⟨(some 165), none, (.move (.tmp 8))⟩, ⟨(some 6), none, (.move (.tmp 165))⟩, ⟨(some 7), none, (.move (.const (.v (.int .i64 0))))⟩]) .ret)
def b7_r1 : ACode := (.region false [⟨(some 104), none, (.move (.tmp 11))⟩, ⟨(some 105), none, (.arith .add (.tmp 104) (.const (.v (.int .i64 1))))⟩, ⟨(some 11), none, (.move (.tmp 105))⟩])
def b7_r2 : ACode := (.region false [⟨(some 120), none, (.move (.tmp 12))⟩, ⟨(some 121), none, (.arith .add (.tmp 120) (.const (.v (.int .i64 1))))⟩, ⟨(some 12), none, (.move (.tmp 121))⟩])
def b7_l2 : ACode := (.seq (.seq (.region false [⟨(some 135), none, (.move (.tmp 14))⟩, ⟨(some 136), none, (.fieldAddr 4 (.tmp 4))⟩, ⟨(some 137), none, (.load false 1 (.tmp 136))⟩, ⟨(some 138), none,
  (.arith .leq (.tmp 135) (.tmp 137))⟩]) (.cond (.tmp 138) .skip (.exit 6))) (.seq (.block 7 (.seq (.region false [⟨(some 141), none, (.move (.tmp 2))⟩, ⟨(some 142), none, (.load true 4 (.tmp 3))⟩,
  ⟨(some 143), none, (.load true 2 (.tmp 13))⟩, ⟨(some 144), none, (.move (.tmp 14))⟩, ⟨(some 145), none, (.fieldAddr 2 (.tmp 4))⟩, ⟨(some 146), none, (.fieldAddr 0 (.tmp 145))⟩, ⟨(some 147), none,
  (.load false 1 (.tmp 146))⟩, ⟨(some 148), none, (.build [(.v (.int .i64 0)), (.v (.int .i64 0))] [(0, (1, (.tmp 144))), (1, (1, (.tmp 147)))])⟩, ⟨(some 149), none, (.call false 25 [(.tmp 142), (.tmp
  143), (.tmp 148)])⟩, ⟨(some 150), none, (.call false 23 [(.tmp 141), (.tmp 149)])⟩, ⟨(some 151), none, (.un .not (.tmp 150))⟩, ⟨(some 152), none, (.move (.tmp 151))⟩, ⟨(some 153), (some (152,
  false)), (.move (.tmp 2))⟩, ⟨(some 154), (some (152, false)), (.load true 4 (.tmp 3))⟩, ⟨(some 155), (some (152, false)), (.load true 2 (.tmp 13))⟩, ⟨(some 156), (some (152, false)), (.move (.tmp
  14))⟩, ⟨(some 157), (some (152, false)), (.fieldAddr 2 (.tmp 4))⟩, ⟨(some 158), (some (152, false)), (.fieldAddr 1 (.tmp 157))⟩, ⟨(some 159), (some (152, false)), (.load false 1 (.tmp 158))⟩, ⟨(some
  160), (some (152, false)), (.build [(.v (.int .i64 0)), (.v (.int .i64 0))] [(0, (1, (.tmp 156))), (1, (1, (.tmp 159)))])⟩, ⟨(some 161), (some (152, false)), (.call false 25 [(.tmp 154), (.tmp 155),
  (.tmp 160)])⟩, ⟨(some 162), (some (152, false)), (.call false 23 [(.tmp 153), (.tmp 161)])⟩, ⟨(some 163), (some (152, false)), (.un .not (.tmp 162))⟩, ⟨(some 164), none, (.pick (.tmp 152) (.const
  (.v (.bool true))) (.tmp 163))⟩]) (.cond (.tmp 164) (.seq (.region false [⟨(some 6), none, (.move (.const (.v (.int .i64 0))))⟩, ⟨(some 7), none, (.move (.const (.v (.int .i64 14))))⟩]) .ret)
  .skip))) (.region false [⟨(some 139), none, (.move (.tmp 14))⟩, ⟨(some 140), none, (.arith .add (.tmp 139) (.const (.v (.int .i64 1))))⟩, ⟨(some 14), none, (.move (.tmp 140))⟩])))
def b7_l1 : ACode := (.seq (.seq (.region false [⟨(some 112), none, (.move (.tmp 12))⟩, ⟨(some 113), none, (.move (.tmp 2))⟩, ⟨(some 114), none, (.move (.tmp 11))⟩, ⟨(some 115), none, (.indexAddr none
  3 (.tmp 113) (.tmp 114))⟩, ⟨(some 116), none, (.fieldAddr 1 (.tmp 115))⟩, ⟨(some 117), none, (.fieldAddr 1 (.tmp 116))⟩, ⟨(some 118), none, (.load false 1 (.tmp 117))⟩, ⟨(some 119), none, (.arith
  .leq (.tmp 112) (.tmp 118))⟩]) (.cond (.tmp 119) .skip (.exit 4))) (.seq (.block 5 (.seq (.region false [⟨(some 122), none, (.move (.tmp 2))⟩, ⟨(some 123), none, (.move (.tmp 11))⟩, ⟨(some 124),
  none, (.indexAddr none 3 (.tmp 122) (.tmp 123))⟩, ⟨(some 125), none, (.fieldAddr 0 (.tmp 124))⟩, ⟨(some 126), none, (.load false 1 (.tmp 125))⟩, ⟨(some 127), none, (.move (.tmp 12))⟩, ⟨(some 128),
  none, (.build [(.v (.int .i64 0)), (.v (.int .i64 0))] [(0, (1, (.tmp 126))), (1, (1, (.tmp 127)))])⟩, ⟨(some 13), none, (.alloc [(.v (.int .i64 0)), (.v (.int .i64 0))])⟩, ⟨none, none, (.store 2
  (.tmp 13) (.tmp 128))⟩]) (.seq (.seq (.region false [⟨(some 129), none, (.load true 5 (.tmp 4))⟩, ⟨(some 130), none, (.load true 2 (.tmp 13))⟩, ⟨(some 131), none, (.call false 24 [(.tmp 129), (.tmp
  130)])⟩]) (.cond (.tmp 131) (.seq (.region false [⟨(some 6), none, (.move (.const (.v (.int .i64 0))))⟩, ⟨(some 7), none, (.move (.const (.v (.int .i64 23))))⟩]) .ret) .skip)) (.seq (.region false
  [⟨(some 132), none, (.fieldAddr 4 (.tmp 4))⟩, ⟨(some 133), none, (.load false 1 (.tmp 132))⟩, ⟨(some 134), none, (.un .neg (.tmp 133))⟩, ⟨(some 14), none, (.move (.tmp 134))⟩]) (.block 6 (.loop
  b7_l2)))))) b7_r2))
def b7_l0 : ACode := (.seq (.seq (.region false [⟨(some 100), none, (.move (.tmp 11))⟩, ⟨(some 101), none, (.move (.tmp 2))⟩, ⟨(some 102), none, (.len false (.tmp 101))⟩, ⟨(some 103), none, (.arith
  .lss (.tmp 100) (.tmp 102))⟩]) (.cond (.tmp 103) .skip (.exit 2))) (.seq (.block 3 (.seq (.region false [⟨(some 106), none, (.move (.tmp 2))⟩, ⟨(some 107), none, (.move (.tmp 11))⟩, ⟨(some 108),
  none, (.indexAddr none 3 (.tmp 106) (.tmp 107))⟩, ⟨(some 109), none, (.fieldAddr 1 (.tmp 108))⟩, ⟨(some 110), none, (.fieldAddr 0 (.tmp 109))⟩, ⟨(some 111), none, (.load false 1 (.tmp 110))⟩, ⟨(some
  12), none, (.move (.tmp 111))⟩]) (.block 4 (.loop b7_l1)))) b7_r1))
def b7_r3 : ACode := (.seq (.seq (.region false [⟨(some 78), none, (.move (.tmp 8))⟩, ⟨(some 79), none, (.arith .gtr (.tmp 78) (.const (.v (.int .i64 3000))))⟩]) (.cond (.tmp 79) (.seq (.region false
  [⟨(some 6), none, (.move (.const (.v (.int .i64 0))))⟩, ⟨(some 7), none, (.move (.const (.v (.int .i64 8))))⟩]) .ret) .skip)) (.seq (.seq (.region false [⟨(some 80), none, (.move (.tmp 2))⟩, ⟨(some
  81), none, (.fieldAddr 3 (.tmp 3))⟩, ⟨(some 82), none, (.load false 1 (.tmp 81))⟩, ⟨(some 83), none, (.fieldAddr 0 (.tmp 4))⟩, ⟨(some 84), none, (.fieldAddr 0 (.tmp 83))⟩, ⟨(some 85), none, (.load
  false 1 (.tmp 84))⟩, ⟨(some 86), none, (.build [(.v (.int .i64 0)), (.v (.int .i64 0))] [(0, (1, (.tmp 82))), (1, (1, (.tmp 85)))])⟩, ⟨(some 87), none, (.call false 23 [(.tmp 80), (.tmp 86)])⟩,
  ⟨(some 88), none, (.un .not (.tmp 87))⟩, ⟨(some 89), none, (.move (.tmp 88))⟩, ⟨(some 90), (some (89, false)), (.move (.tmp 2))⟩, ⟨(some 91), (some (89, false)), (.fieldAddr 3 (.tmp 3))⟩, ⟨(some
  92), (some (89, false)), (.load false 1 (.tmp 91))⟩, ⟨(some 93), (some (89, false)), (.fieldAddr 0 (.tmp 4))⟩, ⟨(some 94), (some (89, false)), (.fieldAddr 1 (.tmp 93))⟩, ⟨(some 95), (some (89,
  false)), (.load false 1 (.tmp 94))⟩, ⟨(some 96), (some (89, false)), (.build [(.v (.int .i64 0)), (.v (.int .i64 0))] [(0, (1, (.tmp 92))), (1, (1, (.tmp 95)))])⟩, ⟨(some 97), (some (89, false)),
  (.call false 23 [(.tmp 90), (.tmp 96)])⟩, ⟨(some 98), (some (89, false)), (.un .not (.tmp 97))⟩, ⟨(some 99), none, (.pick (.tmp 89) (.const (.v (.bool true))) (.tmp 98))⟩]) (.cond (.tmp 99) (.seq
  (.region false [⟨(some 6), none, (.move (.const (.v (.int .i64 0))))⟩, ⟨(some 7), none, (.move (.const (.v (.int .i64 6))))⟩]) .ret) .skip)) (.seq (.seq (.region false [⟨(some 11), none, (.move
  (.const (.v (.int .i64 0))))⟩]) (.block 2 (.loop b7_l0))) b7_r0)))
def b7_l3 : ACode := (.seq (.seq (.region false [⟨(some 18), none, (.move (.tmp 9))⟩, ⟨(some 19), none, (.move (.tmp 2))⟩, ⟨(some 20), none, (.len false (.tmp 19))⟩, ⟨(some 21), none, (.arith .lss
  (.tmp 18) (.tmp 20))⟩]) (.cond (.tmp 21) .skip (.exit 0))) (.seq (.block 1 (.seq (.region false [⟨(some 24), none, (.move (.tmp 2))⟩, ⟨(some 25), none, (.move (.tmp 9))⟩, ⟨(some 26), none,
  (.indexAddr none 3 (.tmp 24) (.tmp 25))⟩, ⟨(some 27), none, (.load true 3 (.tmp 26))⟩, ⟨(some 10), none, (.alloc [(.v (.int .i64 0)), (.v (.int .i64 0)), (.v (.int .i64 0))])⟩, ⟨none, none, (.store
  3 (.tmp 10) (.tmp 27))⟩]) (.seq (.seq (.region false [⟨(some 28), none, (.fieldAddr 0 (.tmp 10))⟩, ⟨(some 29), none, (.load false 1 (.tmp 28))⟩, ⟨(some 30), none, (.call false 22 [(.tmp 29)])⟩,
  ⟨(some 31), none, (.un .not (.tmp 30))⟩, ⟨(some 32), none, (.move (.tmp 31))⟩, ⟨(some 33), (some (32, false)), (.fieldAddr 1 (.tmp 10))⟩, ⟨(some 34), (some (32, false)), (.fieldAddr 0 (.tmp 33))⟩,
  ⟨(some 35), (some (32, false)), (.load false 1 (.tmp 34))⟩, ⟨(some 36), (some (32, false)), (.call false 22 [(.tmp 35)])⟩, ⟨(some 37), (some (32, false)), (.un .not (.tmp 36))⟩, ⟨(some 38), none,
  (.pick (.tmp 32) (.const (.v (.bool true))) (.tmp 37))⟩, ⟨(some 39), none, (.move (.tmp 38))⟩, ⟨(some 40), (some (39, false)), (.fieldAddr 1 (.tmp 10))⟩, ⟨(some 41), (some (39, false)), (.fieldAddr
  1 (.tmp 40))⟩, ⟨(some 42), (some (39, false)), (.load false 1 (.tmp 41))⟩, ⟨(some 43), (some (39, false)), (.call false 22 [(.tmp 42)])⟩, ⟨(some 44), (some (39, false)), (.un .not (.tmp 43))⟩,
  ⟨(some 45), none, (.pick (.tmp 39) (.const (.v (.bool true))) (.tmp 44))⟩]) (.cond (.tmp 45) (.seq (.region false [⟨(some 6), none, (.move (.const (.v (.int .i64 0))))⟩, ⟨(some 7), none, (.move
  (.const (.v (.int .i64 2))))⟩]) .ret) .skip)) (.seq (.seq (.region true [⟨(some 46), none, (.fieldAddr 1 (.tmp 10))⟩, ⟨(some 47), none, (.fieldAddr 0 (.tmp 46))⟩, ⟨(some 48), none, (.load false 1
  (.tmp 47))⟩, ⟨(some 49), none, (.fieldAddr 1 (.tmp 10))⟩, ⟨(some 50), none, (.fieldAddr 1 (.tmp 49))⟩, ⟨(some 51), none, (.load false 1 (.tmp 50))⟩, ⟨(some 52), none, (.arith .gtr (.tmp 48) (.tmp
  51))⟩, ⟨(some 53), none, (.move (.tmp 52))⟩, ⟨(some 54), (some (53, false)), (.move (.tmp 9))⟩, ⟨(some 55), (some (53, false)), (.arith .gtr (.tmp 54) (.const (.v (.int .i64 0))))⟩, ⟨(some 56),
  (some (53, false)), (.move (.tmp 55))⟩, ⟨(some 57), (some (56, true)), (.fieldAddr 0 (.tmp 10))⟩, ⟨(some 58), (some (56, true)), (.load false 1 (.tmp 57))⟩, ⟨(some 59), (some (56, true)), (.move
  (.tmp 2))⟩, ⟨(some 60), (some (56, true)), (.move (.tmp 9))⟩, ⟨(some 61), (some (56, true)), (.arith .sub (.tmp 60) (.const (.v (.int .i64 1))))⟩, ⟨(some 62), (some (56, true)), (.indexAddr none 3
  (.tmp 59) (.tmp 61))⟩, ⟨(some 63), (some (56, true)), (.fieldAddr 0 (.tmp 62))⟩, ⟨(some 64), (some (56, true)), (.load false 1 (.tmp 63))⟩, ⟨(some 65), (some (56, true)), (.arith .leq (.tmp 58)
  (.tmp 64))⟩, ⟨(some 66), (some (53, false)), (.pick (.tmp 56) (.tmp 65) (.const (.v (.bool false))))⟩, ⟨(some 67), none, (.pick (.tmp 53) (.const (.v (.bool true))) (.tmp 66))⟩]) (.cond (.tmp 67)
  (.seq (.region false [⟨(some 6), none, (.move (.const (.v (.int .i64 0))))⟩, ⟨(some 7), none, (.move (.const (.v (.int .i64 9))))⟩]) .ret) .skip)) (.region false [⟨(some 68), none, (.move (.tmp
  8))⟩, ⟨(some 69), none, (.fieldAddr 1 (.tmp 10))⟩, ⟨(some 70), none, (.fieldAddr 1 (.tmp 69))⟩, ⟨(some 71), none, (.load false 1 (.tmp 70))⟩, ⟨(some 72), none, (.arith .add (.tmp 68) (.tmp 71))⟩,
  ⟨(some 73), none, (.fieldAddr 1 (.tmp 10))⟩, ⟨(some 74), none, (.fieldAddr 0 (.tmp 73))⟩, ⟨(some 75), none, (.load false 1 (.tmp 74))⟩, ⟨(some 76), none, (.arith .sub (.tmp 72) (.tmp 75))⟩, ⟨(some
  77), none, (.arith .add (.tmp 76) (.const (.v (.int .i64 1))))⟩, ⟨(some 8), none, (.move (.tmp 77))⟩]))))) (.region false [⟨(some 22), none, (.move (.tmp 9))⟩, ⟨(some 23), none, (.arith .add (.tmp
  22) (.const (.v (.int .i64 1))))⟩, ⟨(some 9), none, (.move (.tmp 23))⟩])))
def b7 : ACode := (.seq (.region false [⟨(some 3), none, (.box 4 (.tmp 0))⟩, ⟨(some 4), none, (.box 5 (.tmp 1))⟩, ⟨(some 6), none, (.move (.const (.v (.int .i64 0))))⟩, ⟨(some 7), none, (.move (.const
  (.v (.int .i64 0))))⟩]) (.seq (.seq (.region false [⟨(some 15), none, (.move (.tmp 2))⟩, ⟨(some 16), none, (.len false (.tmp 15))⟩, ⟨(some 17), none, (.arith .gtr (.tmp 16) (.const (.v (.int .i64
  200))))⟩]) (.cond (.tmp 17) (.seq (.region false [⟨(some 6), none, (.move (.const (.v (.int .i64 0))))⟩, ⟨(some 7), none, (.move (.const (.v (.int .i64 8))))⟩]) .ret) .skip)) (.seq (.region false
  [⟨(some 8), none, (.move (.const (.v (.int .i64 0))))⟩]) (.seq (.seq (.region false [⟨(some 9), none, (.move (.const (.v (.int .i64 0))))⟩]) (.block 0 (.loop b7_l3))) b7_r3))))
abbrev k7_2 : List K := [.blk 6, .blk 5, .c b7_r2, .lp b7_l1, .blk 4, .blk 3, .c b7_r1, .lp b7_l0, .blk 2, .c b7_r0]
abbrev k7_1 : List K := [.blk 4, .blk 3, .c b7_r1, .lp b7_l0, .blk 2, .c b7_r0]
abbrev k7_0 : List K := [.blk 2, .c b7_r0]
abbrev k7_3 : List K := [.blk 0, .c b7_r3]
abbrev f7 := finF [(.tmp 6), (.tmp 7)] false
def c7 : AFn := .code 3 166 b7 [(.tmp 6), (.tmp 7)] false
-- 8
def b8_r0 : ACode := (.seq (.region false [⟨(some 80), none, (.move (.tmp 7))⟩, ⟨(some 81), none, (.move (.tmp 8))⟩, ⟨(some 4), none, (.move (.tmp 80))⟩, ⟨(some 5), none, (.move (.tmp 81))⟩, ⟨(some
  6), none, (.move (.const (.v (.bool true))))⟩]) .ret)
def b8_l0 : ACode := (.seq (.seq (.region false [⟨(some 31), none, (.move (.tmp 10))⟩, ⟨(some 32), none, (.fieldAddr 1 (.tmp 3))⟩, ⟨(some 33), none, (.load false 1 (.tmp 32))⟩, ⟨(some 34), none, (.len
  false (.tmp 33))⟩, ⟨(some 35), none, (.arith .lss (.tmp 31) (.tmp 34))⟩]) (.cond (.tmp 35) .skip (.exit 0))) (.seq (.block 1 (.seq (.region false [⟨(some 38), none, (.fieldAddr 1 (.tmp 3))⟩, ⟨(some
  39), none, (.load false 1 (.tmp 38))⟩, ⟨(some 40), none, (.move (.tmp 10))⟩, ⟨(some 41), none, (.indexAddr none 2 (.tmp 39) (.tmp 40))⟩, ⟨(some 42), none, (.load true 2 (.tmp 41))⟩, ⟨(some 11),
  none, (.alloc [(.v (.int .i64 0)), (.v (.int .i64 0))])⟩, ⟨none, none, (.store 2 (.tmp 11) (.tmp 42))⟩]) (.seq (.seq (.region false [⟨(some 43), none, (.fieldAddr 0 (.tmp 11))⟩, ⟨(some 44), none,
  (.load false 1 (.tmp 43))⟩, ⟨(some 45), none, (.fieldAddr 4 (.tmp 2))⟩, ⟨(some 46), none, (.load false 1 (.tmp 45))⟩, ⟨(some 47), none, (.un .neg (.tmp 46))⟩, ⟨(some 48), none, (.fieldAddr 4 (.tmp
  2))⟩, ⟨(some 49), none, (.load false 1 (.tmp 48))⟩, ⟨(some 50), none, (.call false 18 [(.tmp 44), (.tmp 47), (.tmp 49)])⟩, ⟨(some 51), none, (.un .not (.tmp 50))⟩, ⟨(some 52), none, (.move (.tmp
  51))⟩, ⟨(some 53), (some (52, false)), (.fieldAddr 1 (.tmp 11))⟩, ⟨(some 54), (some (52, false)), (.load false 1 (.tmp 53))⟩, ⟨(some 55), (some (52, false)), (.fieldAddr 2 (.tmp 2))⟩, ⟨(some 56),
  (some (52, false)), (.fieldAddr 0 (.tmp 55))⟩, ⟨(some 57), (some (52, false)), (.load false 1 (.tmp 56))⟩, ⟨(some 58), (some (52, false)), (.fieldAddr 2 (.tmp 2))⟩, ⟨(some 59), (some (52, false)),
  (.fieldAddr 1 (.tmp 58))⟩, ⟨(some 60), (some (52, false)), (.load false 1 (.tmp 59))⟩, ⟨(some 61), (some (52, false)), (.call false 18 [(.tmp 54), (.tmp 57), (.tmp 60)])⟩, ⟨(some 62), (some (52,
  false)), (.un .not (.tmp 61))⟩, ⟨(some 63), none, (.pick (.tmp 52) (.const (.v (.bool true))) (.tmp 62))⟩]) (.cond (.tmp 63) (.seq (.region false [⟨(some 4), none, (.move (.const (.slice .nilS 0
  [])))⟩, ⟨(some 5), none, (.move (.const (.slice .nilS 0 [])))⟩, ⟨(some 6), none, (.move (.const (.v (.bool false))))⟩]) .ret) .skip)) (.seq (.region true [⟨(some 64), none, (.move (.tmp 7))⟩, ⟨(some
  65), none, (.move (.tmp 9))⟩, ⟨(some 66), none, (.buildSlice 1 [[(.v (.int .i64 0))]] [(0, (.tmp 65))])⟩, ⟨(some 67), none, (.append 1 (.tmp 64) (.tmp 66))⟩, ⟨(some 68), none, (.move (.tmp 8))⟩,
  ⟨(some 69), none, (.move (.tmp 9))⟩, ⟨(some 70), none, (.fieldAddr 0 (.tmp 11))⟩, ⟨(some 71), none, (.load false 1 (.tmp 70))⟩, ⟨(some 72), none, (.arith .add (.tmp 69) (.tmp 71))⟩, ⟨(some 73),
  none, (.call false 26 [(.tmp 72)])⟩, ⟨(some 74), none, (.buildSlice 1 [[(.v (.int .i64 0))]] [(0, (.tmp 73))])⟩, ⟨(some 75), none, (.append 1 (.tmp 68) (.tmp 74))⟩, ⟨(some 7), none, (.move (.tmp
  67))⟩, ⟨(some 8), none, (.move (.tmp 75))⟩]) (.region false [⟨(some 76), none, (.move (.tmp 9))⟩, ⟨(some 77), none, (.fieldAddr 1 (.tmp 11))⟩, ⟨(some 78), none, (.load false 1 (.tmp 77))⟩, ⟨(some
  79), none, (.arith .add (.tmp 76) (.tmp 78))⟩, ⟨(some 9), none, (.move (.tmp 79))⟩]))))) (.region false [⟨(some 36), none, (.move (.tmp 10))⟩, ⟨(some 37), none, (.arith .add (.tmp 36) (.const (.v
  (.int .i64 1))))⟩, ⟨(some 10), none, (.move (.tmp 37))⟩])))
def b8 : ACode := (.seq (.region false [⟨(some 2), none, (.box 5 (.tmp 0))⟩, ⟨(some 3), none, (.box 2 (.tmp 1))⟩, ⟨(some 4), none, (.move (.const (.slice .nilS 0 [])))⟩, ⟨(some 5), none, (.move
  (.const (.slice .nilS 0 [])))⟩, ⟨(some 6), none, (.move (.const (.v (.bool false))))⟩]) (.seq (.region false [⟨(some 12), none, (.buildSlice 1 [] [])⟩, ⟨(some 13), none, (.buildSlice 1 [] [])⟩,
  ⟨(some 7), none, (.move (.tmp 12))⟩, ⟨(some 8), none, (.move (.tmp 13))⟩]) (.seq (.region false [⟨(some 14), none, (.fieldAddr 0 (.tmp 3))⟩, ⟨(some 15), none, (.load false 1 (.tmp 14))⟩, ⟨(some 9),
  none, (.move (.tmp 15))⟩]) (.seq (.seq (.region false [⟨(some 16), none, (.move (.tmp 9))⟩, ⟨(some 17), none, (.fieldAddr 0 (.tmp 2))⟩, ⟨(some 18), none, (.fieldAddr 0 (.tmp 17))⟩, ⟨(some 19), none,
  (.load false 1 (.tmp 18))⟩, ⟨(some 20), none, (.fieldAddr 0 (.tmp 2))⟩, ⟨(some 21), none, (.fieldAddr 1 (.tmp 20))⟩, ⟨(some 22), none, (.load false 1 (.tmp 21))⟩, ⟨(some 23), none, (.call false 18
  [(.tmp 16), (.tmp 19), (.tmp 22)])⟩, ⟨(some 24), none, (.un .not (.tmp 23))⟩, ⟨(some 25), none, (.move (.tmp 24))⟩, ⟨(some 26), (some (25, false)), (.fieldAddr 1 (.tmp 3))⟩, ⟨(some 27), (some (25,
  false)), (.load false 1 (.tmp 26))⟩, ⟨(some 28), (some (25, false)), (.len false (.tmp 27))⟩, ⟨(some 29), (some (25, false)), (.arith .gtr (.tmp 28) (.const (.v (.int .i64 60))))⟩, ⟨(some 30), none,
  (.pick (.tmp 25) (.const (.v (.bool true))) (.tmp 29))⟩]) (.cond (.tmp 30) (.seq (.region false [⟨(some 4), none, (.move (.const (.slice .nilS 0 [])))⟩, ⟨(some 5), none, (.move (.const (.slice .nilS
  0 [])))⟩, ⟨(some 6), none, (.move (.const (.v (.bool false))))⟩]) .ret) .skip)) (.seq (.seq (.region false [⟨(some 10), none, (.move (.const (.v (.int .i64 0))))⟩]) (.block 0 (.loop b8_l0)))
  b8_r0)))))
abbrev k8_0 : List K := [.blk 0, .c b8_r0]
abbrev f8 := finF [(.tmp 4), (.tmp 5), (.tmp 6)] false
def c8 : AFn := .code 2 82 b8 [(.tmp 4), (.tmp 5), (.tmp 6)] false
-- 9
def b9_r0 : ACode := (.seq (.region false [⟨(some 89), none, (.move (.tmp 10))⟩, ⟨none, none, (.store 1 (.tmp 6) (.tmp 89))⟩, ⟨none, none, (.store 1 (.tmp 7) (.const (.v (.int .i64 0))))⟩]) .ret)
def b9_r1 : ACode := (.region false [⟨(some 88), none, (.arith .add (.tmp 57) (.const (.v (.int .i64 1))))⟩, ⟨(some 57), none, (.move (.tmp 88))⟩])
def b9_r2 : ACode := (.region false [⟨(some 69), none, (.move (.tmp 14))⟩, ⟨(some 70), none, (.arith .add (.tmp 69) (.const (.v (.int .i64 1))))⟩, ⟨(some 14), none, (.move (.tmp 70))⟩])
def b9_y2 : ACode := (.block 5 (.seq (.region true [⟨(some 81), none, (.load false 1 (.tmp 11))⟩, ⟨(some 82), none, (.load true 9 (.tmp 8))⟩, ⟨(some 83), none, (.load true 2 (.tmp 15))⟩, ⟨(some 84),
  none, (.load true 2 (.tmp 16))⟩, ⟨(some 85), none, (.call true 35 [(.tmp 82), (.tmp 83), (.tmp 84)])⟩, ⟨(some 86), none, (.callv false (.tmp 81) [(.tmp 85)])⟩, ⟨(some 87), none, (.un .not (.tmp
  86))⟩]) (.cond (.tmp 87) (.seq (.region false [⟨none, none, (.store 1 (.tmp 6) (.const (.v (.int .i64 0))))⟩, ⟨none, none, (.store 1 (.tmp 7) (.const (.v (.int .i64 14))))⟩]) .ret) .skip)))
def b9_a2 : ACode := (.region false [⟨(some 16), none, (.alloc [(.v (.int .i64 0)), (.v (.int .i64 0))])⟩, ⟨none, none, (.store 2 (.tmp 16) (.tmp 80))⟩])
def b9_l1 : ACode := (.seq (.seq (.region false [⟨(some 64), none, (.move (.tmp 14))⟩, ⟨(some 65), none, (.fieldAddr 1 (.tmp 13))⟩, ⟨(some 66), none, (.fieldAddr 1 (.tmp 65))⟩, ⟨(some 67), none,
  (.load false 1 (.tmp 66))⟩, ⟨(some 68), none, (.arith .leq (.tmp 64) (.tmp 67))⟩]) (.cond (.tmp 68) .skip (.exit 2))) (.seq (.block 3 (.seq (.region false [⟨(some 71), none, (.fieldAddr 0 (.tmp
  13))⟩, ⟨(some 72), none, (.load false 1 (.tmp 71))⟩, ⟨(some 73), none, (.move (.tmp 14))⟩, ⟨(some 74), none, (.build [(.v (.int .i64 0)), (.v (.int .i64 0))] [(0, (1, (.tmp 72))), (1, (1, (.tmp
  73)))])⟩, ⟨(some 15), none, (.alloc [(.v (.int .i64 0)), (.v (.int .i64 0))])⟩, ⟨none, none, (.store 2 (.tmp 15) (.tmp 74))⟩]) (.seq (.seq (.region false [⟨(some 75), none, (.load true 9 (.tmp 8))⟩,
  ⟨(some 76), none, (.load true 2 (.tmp 15))⟩, ⟨(some 77), none, (.call false 33 [(.tmp 75), (.tmp 76)])⟩]) (.cond (.tmp 77) (.seq (.region false [⟨none, none, (.store 1 (.tmp 6) (.const (.v (.int
  .i64 0))))⟩, ⟨none, none, (.store 1 (.tmp 7) (.const (.v (.int .i64 23))))⟩]) .ret) .skip)) (.seq (.region false [⟨(some 78), none, (.load true 9 (.tmp 8))⟩, ⟨(some 79), none, (.mkFn 34 [(.tmp 78)]
  [])⟩]) (.block 4 (.rangeFunc (.tmp 79) [80] b9_a2 b9_y2)))))) b9_r2))
def b9_l0 : ACode := (.seq (.region false [⟨(some 58), none, (.arith .lss (.tmp 57) (.tmp 56))⟩]) (.seq (.cond (.tmp 58) .skip (.exit 0)) (.seq (.block 1 (.seq (.region false [⟨(some 59), none,
  (.indexAddr none 3 (.tmp 55) (.tmp 57))⟩, ⟨(some 60), none, (.load true 3 (.tmp 59))⟩, ⟨(some 13), none, (.alloc [(.v (.int .i64 0)), (.v (.int .i64 0)), (.v (.int .i64 0))])⟩, ⟨none, none, (.store
  3 (.tmp 13) (.tmp 60))⟩]) (.seq (.region false [⟨(some 61), none, (.fieldAddr 1 (.tmp 13))⟩, ⟨(some 62), none, (.fieldAddr 0 (.tmp 61))⟩, ⟨(some 63), none, (.load false 1 (.tmp 62))⟩, ⟨(some 14),
  none, (.move (.tmp 63))⟩]) (.block 2 (.loop b9_l1))))) b9_r1)))
def b9 : ACode := (.seq (.region false [⟨(some 3), none, (.box 4 (.tmp 0))⟩, ⟨(some 4), none, (.box 5 (.tmp 1))⟩, ⟨(some 5), none, (.box 1 (.tmp 2))⟩, ⟨(some 6), none, (.alloc [(.v (.int .i64 0))])⟩,
  ⟨(some 7), none, (.alloc [(.v (.int .i64 0))])⟩]) (.seq (.region false [⟨(some 18), none, (.load true 4 (.tmp 3))⟩, ⟨(some 19), none, (.load true 5 (.tmp 4))⟩, ⟨(some 20), none, (.call false 27
  [(.tmp 18), (.tmp 19)])⟩, ⟨(some 17), none, (.move (.tmp 20))⟩, ⟨(some 21), none, (.extract 0 (.tmp 17))⟩, ⟨(some 22), none, (.extract 1 (.tmp 17))⟩, ⟨(some 8), none, (.alloc [(.v (.int .i64 0)),
  (.v (.int .i64 0)), (.v (.int .i64 0)), (.v (.int .i64 0)), (.v (.int .i64 0)), (.v (.int .i64 0)), (.v (.int .i64 0)), (.v (.int .i64 0)), (.v (.int .i64 0))])⟩, ⟨none, none, (.store 9 (.tmp 8)
  (.tmp 21))⟩, ⟨(some 9), none, (.move (.tmp 22))⟩]) (.seq (.seq (.region false [⟨(some 23), none, (.move (.tmp 9))⟩, ⟨(some 24), none, (.arith .neq (.tmp 23) (.const (.v (.int .i64 0))))⟩]) (.cond
  (.tmp 24) (.seq (.region false [⟨(some 25), none, (.move (.tmp 9))⟩, ⟨none, none, (.store 1 (.tmp 6) (.const (.v (.int .i64 0))))⟩, ⟨none, none, (.store 1 (.tmp 7) (.tmp 25))⟩]) .ret) .skip)) (.seq
  (.region false [⟨(some 27), none, (.load false 1 (.tmp 5))⟩, ⟨(some 28), none, (.call false 28 [(.tmp 27)])⟩, ⟨(some 26), none, (.move (.tmp 28))⟩, ⟨(some 29), none, (.extract 0 (.tmp 26))⟩, ⟨(some
  30), none, (.extract 1 (.tmp 26))⟩, ⟨(some 10), none, (.move (.tmp 29))⟩, ⟨(some 9), none, (.move (.tmp 30))⟩]) (.seq (.seq (.region false [⟨(some 31), none, (.move (.tmp 9))⟩, ⟨(some 32), none,
  (.arith .neq (.tmp 31) (.const (.v (.int .i64 0))))⟩]) (.cond (.tmp 32) (.seq (.region false [⟨(some 33), none, (.move (.tmp 9))⟩, ⟨none, none, (.store 1 (.tmp 6) (.const (.v (.int .i64 0))))⟩,
  ⟨none, none, (.store 1 (.tmp 7) (.tmp 33))⟩]) .ret) .skip)) (.seq (.region false [⟨(some 34), none, (.mkFn 29 [] [(.tmp 5)])⟩, ⟨(some 11), none, (.alloc [(.v .nilFunc)])⟩, ⟨none, none, (.store 1
  (.tmp 11) (.tmp 34))⟩]) (.seq (.seq (.region false [⟨(some 35), none, (.load false 1 (.tmp 11))⟩, ⟨(some 36), none, (.fieldAddr 3 (.tmp 3))⟩, ⟨(some 37), none, (.load false 1 (.tmp 36))⟩, ⟨(some
  38), none, (.fieldAddr 0 (.tmp 4))⟩, ⟨(some 39), none, (.fieldAddr 0 (.tmp 38))⟩, ⟨(some 40), none, (.load false 1 (.tmp 39))⟩, ⟨(some 41), none, (.build [(.v (.int .i64 0)), (.v (.int .i64 0))]
  [(0, (1, (.tmp 37))), (1, (1, (.tmp 40)))])⟩, ⟨(some 42), none, (.callv false (.tmp 35) [(.tmp 41)])⟩, ⟨(some 43), none, (.un .not (.tmp 42))⟩, ⟨(some 44), none, (.move (.tmp 43))⟩, ⟨(some 45),
  (some (44, false)), (.load false 1 (.tmp 11))⟩, ⟨(some 46), (some (44, false)), (.fieldAddr 3 (.tmp 3))⟩, ⟨(some 47), (some (44, false)), (.load false 1 (.tmp 46))⟩, ⟨(some 48), (some (44, false)),
  (.fieldAddr 0 (.tmp 4))⟩, ⟨(some 49), (some (44, false)), (.fieldAddr 1 (.tmp 48))⟩, ⟨(some 50), (some (44, false)), (.load false 1 (.tmp 49))⟩, ⟨(some 51), (some (44, false)), (.build [(.v (.int
  .i64 0)), (.v (.int .i64 0))] [(0, (1, (.tmp 47))), (1, (1, (.tmp 50)))])⟩, ⟨(some 52), (some (44, false)), (.callv false (.tmp 45) [(.tmp 51)])⟩, ⟨(some 53), (some (44, false)), (.un .not (.tmp
  52))⟩, ⟨(some 54), none, (.pick (.tmp 44) (.const (.v (.bool true))) (.tmp 53))⟩]) (.cond (.tmp 54) (.seq (.region false [⟨none, none, (.store 1 (.tmp 6) (.const (.v (.int .i64 0))))⟩, ⟨none, none,
  (.store 1 (.tmp 7) (.const (.v (.int .i64 6))))⟩]) .ret) .skip)) (.seq (.seq (.region false [⟨(some 55), none, (.load false 1 (.tmp 5))⟩, ⟨(some 56), none, (.len false (.tmp 55))⟩, ⟨(some 57), none,
  (.move (.const (.v (.int .i64 0))))⟩]) (.block 0 (.loop b9_l0))) b9_r0))))))))
abbrev k9_2 : List K := [.blk 4, .blk 3, .c b9_r2, .lp b9_l1, .blk 2, .blk 1, .c b9_r1, .lp b9_l0, .blk 0, .c b9_r0]
abbrev k9_1 : List K := [.blk 2, .blk 1, .c b9_r1, .lp b9_l0, .blk 0, .c b9_r0]
abbrev k9_0 : List K := [.blk 0, .c b9_r0]
abbrev f9 := finF [(.cell false 1 6), (.cell false 1 7)] false
def c9 : AFn := .code 3 90 b9 [(.cell false 1 6), (.cell false 1 7)] false
-- 10
def b10 : ACode := (.seq (.region false [⟨(some 2), none, (.move (.const (.slice .nilS 0 [])))⟩]) (.seq (.region false [⟨(some 3), none, (.buildSlice 3 [] [])⟩, ⟨(some 4), none, (.move (.tmp 0))⟩,
  ⟨(some 5), none, (.append 3 (.tmp 3) (.tmp 4))⟩, ⟨(some 2), none, (.move (.tmp 5))⟩]) .ret))
abbrev f10 := finF [(.tmp 2)] false
def c10 : AFn := .code 1 6 b10 [(.tmp 2)] false
-- 11
def b11_r0 : ACode := (.seq (.region false [⟨(some 72), none, (.move (.tmp 14))⟩, ⟨(some 6), none, (.move (.tmp 72))⟩, ⟨(some 7), none, (.move (.const (.v (.int .i64 0))))⟩]) .ret)
def b11_l0 : ACode := (.seq (.region false [⟨(some 51), none, (.arith .lss (.tmp 50) (.tmp 49))⟩]) (.seq (.cond (.tmp 51) .skip (.exit 0)) (.seq (.block 1 (.seq (.region false [⟨(some 52), none,
  (.move (.tmp 50))⟩, ⟨(some 15), none, (.move (.tmp 52))⟩]) (.seq (.region true [⟨(some 53), none, (.move (.tmp 8))⟩, ⟨(some 54), none, (.move (.tmp 15))⟩, ⟨(some 55), none, (.indexAddr none 2 (.tmp
  53) (.tmp 54))⟩, ⟨(some 56), none, (.fieldAddr 0 (.tmp 55))⟩, ⟨(some 57), none, (.load false 1 (.tmp 56))⟩, ⟨(some 58), none, (.move (.tmp 11))⟩, ⟨(some 59), none, (.move (.tmp 15))⟩, ⟨(some 60),
  none, (.indexAddr none 2 (.tmp 58) (.tmp 59))⟩, ⟨(some 61), none, (.fieldAddr 0 (.tmp 60))⟩, ⟨(some 62), none, (.load false 1 (.tmp 61))⟩, ⟨(some 63), none, (.arith .sub (.tmp 57) (.tmp 62))⟩,
  ⟨(some 64), none, (.call false 39 [(.tmp 63)])⟩, ⟨(some 65), none, (.move (.tmp 2))⟩, ⟨(some 66), none, (.arith .geq (.tmp 64) (.tmp 65))⟩]) (.cond (.tmp 66) (.region false [⟨(some 67), none, (.move
  (.tmp 14))⟩, ⟨(some 68), none, (.move (.tmp 15))⟩, ⟨(some 69), none, (.buildSlice 1 [[(.v (.int .i64 0))]] [(0, (.tmp 68))])⟩, ⟨(some 70), none, (.append 1 (.tmp 67) (.tmp 69))⟩, ⟨(some 14), none,
  (.move (.tmp 70))⟩]) .skip)))) (.region false [⟨(some 71), none, (.arith .add (.tmp 50) (.const (.v (.int .i64 1))))⟩, ⟨(some 50), none, (.move (.tmp 71))⟩]))))
def b11 : ACode := (.seq (.region false [⟨(some 3), none, (.box 8 (.tmp 0))⟩, ⟨(some 6), none, (.move (.const (.slice .nilS 0 [])))⟩, ⟨(some 7), none, (.move (.const (.v (.int .i64 0))))⟩]) (.seq
  (.region false [⟨(some 17), none, (.indexAddr (some 2) 4 (.tmp 3) (.const (.v (.int .i64 0))))⟩, ⟨(some 18), none, (.load true 4 (.tmp 17))⟩, ⟨(some 19), none, (.move (.tmp 1))⟩, ⟨(some 20), none,
  (.call false 13 [(.tmp 18), (.tmp 19)])⟩, ⟨(some 16), none, (.move (.tmp 20))⟩, ⟨(some 21), none, (.extract 0 (.tmp 16))⟩, ⟨(some 22), none, (.extract 1 (.tmp 16))⟩, ⟨(some 23), none, (.extract 2
  (.tmp 16))⟩, ⟨(some 8), none, (.move (.tmp 21))⟩, ⟨(some 9), none, (.move (.tmp 22))⟩, ⟨(some 10), none, (.move (.tmp 23))⟩]) (.seq (.region false [⟨(some 25), none, (.indexAddr (some 2) 4 (.tmp 3)
  (.const (.v (.int .i64 1))))⟩, ⟨(some 26), none, (.load true 4 (.tmp 25))⟩, ⟨(some 27), none, (.move (.tmp 1))⟩, ⟨(some 28), none, (.call false 13 [(.tmp 26), (.tmp 27)])⟩, ⟨(some 24), none, (.move
  (.tmp 28))⟩, ⟨(some 29), none, (.extract 0 (.tmp 24))⟩, ⟨(some 30), none, (.extract 1 (.tmp 24))⟩, ⟨(some 31), none, (.extract 2 (.tmp 24))⟩, ⟨(some 11), none, (.move (.tmp 29))⟩, ⟨(some 12), none,
  (.move (.tmp 30))⟩, ⟨(some 13), none, (.move (.tmp 31))⟩]) (.seq (.seq (.region true [⟨(some 32), none, (.indexAddr (some 2) 4 (.tmp 3) (.const (.v (.int .i64 0))))⟩, ⟨(some 33), none, (.load true 4
  (.tmp 32))⟩, ⟨(some 34), none, (.call true 37 [(.tmp 33)])⟩, ⟨(some 35), none, (.indexAddr (some 2) 4 (.tmp 3) (.const (.v (.int .i64 1))))⟩, ⟨(some 36), none, (.load true 4 (.tmp 35))⟩, ⟨(some 37),
  none, (.call false 37 [(.tmp 36)])⟩, ⟨(some 38), none, (.move (.tmp 10))⟩, ⟨(some 39), none, (.move (.tmp 13))⟩, ⟨(some 40), none, (.move (.tmp 2))⟩, ⟨(some 41), none, (.call false 32 [(.tmp 40),
  (.const (.v (.int .i64 1))), (.const (.v (.int .i64 1000000000000)))])⟩, ⟨(some 42), none, (.call false 38 [(.tmp 41), (.const (.v (.int .i64 2)))])⟩, ⟨(some 43), none, (.buildSlice 1 [[(.v (.int
  .i64 0))], [(.v (.int .i64 0))], [(.v (.int .i64 0))], [(.v (.int .i64 0))], [(.v (.int .i64 0))]] [(0, (.tmp 34)), (1, (.tmp 37)), (2, (.tmp 38)), (3, (.tmp 39)), (4, (.tmp 42))])⟩, ⟨(some 44),
  none, (.call false 36 [(.tmp 43)])⟩, ⟨(some 10), none, (.move (.tmp 44))⟩]) (.seq (.region false [⟨(some 45), none, (.move (.tmp 10))⟩, ⟨(some 46), none, (.arith .neq (.tmp 45) (.const (.v (.int
  .i64 0))))⟩]) (.cond (.tmp 46) (.seq (.region false [⟨(some 47), none, (.move (.tmp 10))⟩, ⟨(some 6), none, (.move (.const (.slice .nilS 0 [])))⟩, ⟨(some 7), none, (.move (.tmp 47))⟩]) .ret)
  .skip))) (.seq (.region false [⟨(some 14), none, (.move (.const (.slice .nilS 0 [])))⟩]) (.seq (.seq (.region false [⟨(some 48), none, (.move (.tmp 8))⟩, ⟨(some 49), none, (.len false (.tmp 48))⟩,
  ⟨(some 50), none, (.move (.const (.v (.int .i64 0))))⟩]) (.block 0 (.loop b11_l0))) b11_r0))))))
abbrev k11_0 : List K := [.blk 0, .c b11_r0]
abbrev f11 := finF [(.tmp 6), (.tmp 7)] false
def c11 : AFn := .code 3 73 b11 [(.tmp 6), (.tmp 7)] false
-- 12
def b12 : ACode := (.seq (.region false [⟨(some 2), none, (.move (.const (.slice .nilS 0 [])))⟩]) (.seq (.region false [⟨(some 3), none, (.buildSlice 1 [] [])⟩, ⟨(some 4), none, (.move (.tmp 0))⟩,
  ⟨(some 5), none, (.append 1 (.tmp 3) (.tmp 4))⟩, ⟨(some 2), none, (.move (.tmp 5))⟩]) .ret))
abbrev f12 := finF [(.tmp 2)] false
def c12 : AFn := .code 1 6 b12 [(.tmp 2)] false
-- 13
def b13_r0 : ACode := (.seq (.region false [⟨(some 50), none, (.move (.tmp 8))⟩, ⟨(some 51), none, (.move (.tmp 9))⟩, ⟨(some 4), none, (.move (.tmp 50))⟩, ⟨(some 5), none, (.move (.tmp 51))⟩, ⟨(some
  6), none, (.move (.const (.v (.int .i64 0))))⟩]) .ret)
def b13_l0 : ACode := (.seq (.region false [⟨(some 30), none, (.arith .lss (.tmp 29) (.tmp 28))⟩]) (.seq (.cond (.tmp 30) .skip (.exit 0)) (.seq (.block 1 (.seq (.region false [⟨(some 31), none,
  (.indexAddr none 1 (.tmp 27) (.tmp 29))⟩, ⟨(some 32), none, (.load false 1 (.tmp 31))⟩, ⟨(some 12), none, (.move (.tmp 32))⟩]) (.seq (.region false [⟨(some 34), none, (.load true 4 (.tmp 2))⟩,
  ⟨(some 35), none, (.load true 2 (.tmp 10))⟩, ⟨(some 36), none, (.move (.tmp 12))⟩, ⟨(some 37), none, (.call false 41 [(.tmp 34), (.tmp 35), (.tmp 36)])⟩, ⟨(some 33), none, (.move (.tmp 37))⟩, ⟨(some
  38), none, (.extract 0 (.tmp 33))⟩, ⟨(some 39), none, (.extract 1 (.tmp 33))⟩, ⟨(some 13), none, (.alloc [(.v (.int .i64 0)), (.v (.int .i64 0))])⟩, ⟨none, none, (.store 2 (.tmp 13) (.tmp 38))⟩,
  ⟨(some 14), none, (.move (.tmp 39))⟩]) (.seq (.region false [⟨(some 40), none, (.move (.tmp 8))⟩, ⟨(some 41), none, (.load true 2 (.tmp 10))⟩, ⟨(some 42), none, (.buildSlice 2 [[(.v (.int .i64 0)),
  (.v (.int .i64 0))]] [(0, (.tmp 41))])⟩, ⟨(some 43), none, (.append 2 (.tmp 40) (.tmp 42))⟩, ⟨(some 44), none, (.move (.tmp 9))⟩, ⟨(some 45), none, (.move (.tmp 14))⟩, ⟨(some 46), none, (.buildSlice
  1 [[(.v (.int .i64 0))]] [(0, (.tmp 45))])⟩, ⟨(some 47), none, (.append 1 (.tmp 44) (.tmp 46))⟩, ⟨(some 8), none, (.move (.tmp 43))⟩, ⟨(some 9), none, (.move (.tmp 47))⟩]) (.region false [⟨(some
  48), none, (.load true 2 (.tmp 13))⟩, ⟨none, none, (.store 2 (.tmp 10) (.tmp 48))⟩]))))) (.region false [⟨(some 49), none, (.arith .add (.tmp 29) (.const (.v (.int .i64 1))))⟩, ⟨(some 29), none,
  (.move (.tmp 49))⟩]))))
def b13 : ACode := (.seq (.region false [⟨(some 2), none, (.box 4 (.tmp 0))⟩, ⟨(some 4), none, (.move (.const (.slice .nilS 0 [])))⟩, ⟨(some 5), none, (.move (.const (.slice .nilS 0 [])))⟩, ⟨(some 6),
  none, (.move (.const (.v (.int .i64 0))))⟩]) (.seq (.seq (.region false [⟨(some 15), none, (.load true 4 (.tmp 2))⟩, ⟨(some 16), none, (.call false 37 [(.tmp 15)])⟩, ⟨(some 17), none, (.move (.tmp
  1))⟩, ⟨(some 18), none, (.call false 40 [(.tmp 17)])⟩, ⟨(some 19), none, (.buildSlice 1 [[(.v (.int .i64 0))], [(.v (.int .i64 0))]] [(0, (.tmp 16)), (1, (.tmp 18))])⟩, ⟨(some 20), none, (.call
  false 36 [(.tmp 19)])⟩, ⟨(some 7), none, (.move (.tmp 20))⟩]) (.seq (.region false [⟨(some 21), none, (.move (.tmp 7))⟩, ⟨(some 22), none, (.arith .neq (.tmp 21) (.const (.v (.int .i64 0))))⟩])
  (.cond (.tmp 22) (.seq (.region false [⟨(some 23), none, (.move (.tmp 7))⟩, ⟨(some 4), none, (.move (.const (.slice .nilS 0 [])))⟩, ⟨(some 5), none, (.move (.const (.slice .nilS 0 [])))⟩, ⟨(some 6),
  none, (.move (.tmp 23))⟩]) .ret) .skip))) (.seq (.region false [⟨(some 8), none, (.move (.const (.slice .nilS 0 [])))⟩]) (.seq (.region false [⟨(some 9), none, (.move (.const (.slice .nilS 0
  [])))⟩]) (.seq (.region false [⟨(some 24), none, (.fieldAddr 3 (.tmp 2))⟩, ⟨(some 25), none, (.load false 1 (.tmp 24))⟩, ⟨(some 26), none, (.build [(.v (.int .i64 0)), (.v (.int .i64 0))] [(1, (1,
  (.tmp 25)))])⟩, ⟨(some 10), none, (.alloc [(.v (.int .i64 0)), (.v (.int .i64 0))])⟩, ⟨none, none, (.store 2 (.tmp 10) (.tmp 26))⟩]) (.seq (.seq (.region false [⟨(some 27), none, (.move (.tmp 1))⟩,
  ⟨(some 28), none, (.len false (.tmp 27))⟩, ⟨(some 29), none, (.move (.const (.v (.int .i64 0))))⟩]) (.block 0 (.loop b13_l0))) b13_r0))))))
abbrev k13_0 : List K := [.blk 0, .c b13_r0]
abbrev f13 := finF [(.tmp 4), (.tmp 5), (.tmp 6)] false
def c13 : AFn := .code 2 52 b13 [(.tmp 4), (.tmp 5), (.tmp 6)] false
-- 14
def b14_r0 : ACode := (.seq (.region false [⟨(some 66), none, (.move (.tmp 12))⟩, ⟨(some 6), none, (.move (.tmp 66))⟩, ⟨(some 7), none, (.move (.const (.v (.int .i64 0))))⟩]) .ret)
def b14_l0 : ACode := (.seq (.region false [⟨(some 44), none, (.arith .lss (.tmp 43) (.tmp 42))⟩]) (.seq (.cond (.tmp 44) .skip (.exit 0)) (.seq (.block 1 (.seq (.region false [⟨(some 45), none,
  (.move (.tmp 43))⟩, ⟨(some 46), none, (.indexAddr none 2 (.tmp 41) (.tmp 43))⟩, ⟨(some 47), none, (.load true 2 (.tmp 46))⟩, ⟨(some 15), none, (.alloc [(.v (.int .i64 0)), (.v (.int .i64 0))])⟩,
  ⟨(some 14), none, (.move (.tmp 45))⟩, ⟨none, none, (.store 2 (.tmp 15) (.tmp 47))⟩]) (.seq (.region true [⟨(some 48), none, (.move (.tmp 2))⟩, ⟨(some 49), none, (.move (.tmp 14))⟩, ⟨(some 50), none,
  (.indexAddr none 1 (.tmp 48) (.tmp 49))⟩, ⟨(some 51), none, (.load false 1 (.tmp 50))⟩, ⟨(some 52), none, (.fieldAddr 0 (.tmp 15))⟩, ⟨(some 53), none, (.load false 1 (.tmp 52))⟩, ⟨(some 54), none,
  (.arith .sub (.tmp 51) (.tmp 53))⟩, ⟨(some 55), none, (.arith .add (.tmp 54) (.const (.v (.int .i64 2048))))⟩, ⟨(some 56), none, (.call false 45 [(.tmp 55), (.const (.v (.int .i64 4096)))])⟩, ⟨(some
  16), none, (.move (.tmp 56))⟩]) (.seq (.seq (.region false [⟨(some 57), none, (.move (.tmp 16))⟩, ⟨(some 58), none, (.move (.tmp 13))⟩, ⟨(some 59), none, (.arith .neq (.tmp 57) (.tmp 58))⟩]) (.cond
  (.tmp 59) (.region false [⟨(some 60), none, (.move (.tmp 12))⟩, ⟨(some 61), none, (.move (.tmp 14))⟩, ⟨(some 62), none, (.buildSlice 1 [[(.v (.int .i64 0))]] [(0, (.tmp 61))])⟩, ⟨(some 63), none,
  (.append 1 (.tmp 60) (.tmp 62))⟩, ⟨(some 12), none, (.move (.tmp 63))⟩]) .skip)) (.region false [⟨(some 64), none, (.move (.tmp 16))⟩, ⟨(some 13), none, (.move (.tmp 64))⟩]))))) (.region false
  [⟨(some 65), none, (.arith .add (.tmp 43) (.const (.v (.int .i64 1))))⟩, ⟨(some 43), none, (.move (.tmp 65))⟩]))))
def b14 : ACode := (.seq (.region false [⟨(some 3), none, (.box 4 (.tmp 0))⟩, ⟨(some 6), none, (.move (.const (.slice .nilS 0 [])))⟩, ⟨(some 7), none, (.move (.const (.v (.int .i64 0))))⟩]) (.seq
  (.region false [⟨(some 18), none, (.load true 4 (.tmp 3))⟩, ⟨(some 19), none, (.move (.tmp 1))⟩, ⟨(some 20), none, (.call false 13 [(.tmp 18), (.tmp 19)])⟩, ⟨(some 17), none, (.move (.tmp 20))⟩,
  ⟨(some 21), none, (.extract 0 (.tmp 17))⟩, ⟨(some 22), none, (.extract 1 (.tmp 17))⟩, ⟨(some 23), none, (.extract 2 (.tmp 17))⟩, ⟨(some 8), none, (.move (.tmp 21))⟩, ⟨(some 9), none, (.move (.tmp
  22))⟩, ⟨(some 10), none, (.move (.tmp 23))⟩]) (.seq (.region false [⟨(some 24), none, (.move (.tmp 2))⟩, ⟨(some 25), none, (.call false 42 [(.tmp 24), (.const (.fn 43 [] []))])⟩, ⟨(some 11), none,
  (.move (.tmp 25))⟩]) (.seq (.seq (.region false [⟨(some 26), none, (.move (.tmp 10))⟩, ⟨(some 27), none, (.move (.tmp 2))⟩, ⟨(some 28), none, (.len false (.tmp 27))⟩, ⟨(some 29), none, (.move (.tmp
  1))⟩, ⟨(some 30), none, (.len false (.tmp 29))⟩, ⟨(some 31), none, (.arith .eql (.tmp 28) (.tmp 30))⟩, ⟨(some 32), none, (.call false 38 [(.tmp 31), (.const (.v (.int .i64 10)))])⟩, ⟨(some 33),
  none, (.move (.tmp 11))⟩, ⟨(some 34), none, (.un .not (.tmp 33))⟩, ⟨(some 35), none, (.call false 38 [(.tmp 34), (.const (.v (.int .i64 2)))])⟩, ⟨(some 36), none, (.buildSlice 1 [[(.v (.int .i64
  0))], [(.v (.int .i64 0))], [(.v (.int .i64 0))]] [(0, (.tmp 26)), (1, (.tmp 32)), (2, (.tmp 35))])⟩, ⟨(some 37), none, (.call false 36 [(.tmp 36)])⟩, ⟨(some 10), none, (.move (.tmp 37))⟩]) (.seq
  (.region false [⟨(some 38), none, (.move (.tmp 10))⟩, ⟨(some 39), none, (.arith .neq (.tmp 38) (.const (.v (.int .i64 0))))⟩]) (.cond (.tmp 39) (.seq (.region false [⟨(some 40), none, (.move (.tmp
  10))⟩, ⟨(some 6), none, (.move (.const (.slice .nilS 0 [])))⟩, ⟨(some 7), none, (.move (.tmp 40))⟩]) .ret) .skip))) (.seq (.region false [⟨(some 12), none, (.move (.const (.slice .nilS 0 [])))⟩])
  (.seq (.region false [⟨(some 13), none, (.move (.const (.v (.int .i64 0))))⟩]) (.seq (.seq (.region false [⟨(some 41), none, (.move (.tmp 8))⟩, ⟨(some 42), none, (.len false (.tmp 41))⟩, ⟨(some 43),
  none, (.move (.const (.v (.int .i64 0))))⟩]) (.block 0 (.loop b14_l0))) b14_r0)))))))
abbrev k14_0 : List K := [.blk 0, .c b14_r0]
abbrev f14 := finF [(.tmp 6), (.tmp 7)] false
def c14 : AFn := .code 3 67 b14 [(.tmp 6), (.tmp 7)] false
-- 15
def b15 : ACode := (.seq (.region false [⟨(some 1), none, (.box 2 (.tmp 0))⟩, ⟨(some 2), none, (.move (.const (.v (.int .i64 0))))⟩]) (.seq (.seq (.region false [⟨(some 3), none, (.fieldAddr 0 (.tmp
  1))⟩, ⟨(some 4), none, (.load false 1 (.tmp 3))⟩, ⟨(some 5), none, (.call false 46 [(.tmp 4)])⟩, ⟨(some 6), none, (.un .not (.tmp 5))⟩, ⟨(some 7), none, (.move (.tmp 6))⟩, ⟨(some 8), (some (7,
  false)), (.fieldAddr 1 (.tmp 1))⟩, ⟨(some 9), (some (7, false)), (.load false 1 (.tmp 8))⟩, ⟨(some 10), (some (7, false)), (.call false 22 [(.tmp 9)])⟩, ⟨(some 11), (some (7, false)), (.un .not
  (.tmp 10))⟩, ⟨(some 12), none, (.pick (.tmp 7) (.const (.v (.bool true))) (.tmp 11))⟩]) (.cond (.tmp 12) (.seq (.region false [⟨(some 2), none, (.move (.const (.v (.int .i64 2))))⟩]) .ret) .skip))
  (.seq (.region false [⟨(some 2), none, (.move (.const (.v (.int .i64 0))))⟩]) .ret)))
abbrev f15 := finF [(.tmp 2)] false
def c15 : AFn := .code 1 13 b15 [(.tmp 2)] false
-- 16
def b16 : ACode := (.seq (.region false [⟨(some 2), none, (.move (.const (.v (.int .i64 0))))⟩]) (.seq (.region false [⟨(some 3), none, (.move (.tmp 0))⟩, ⟨(some 4), none, (.move (.tmp 0))⟩, ⟨(some
  5), none, (.un .neg (.tmp 4))⟩, ⟨(some 6), none, (.minmax true [(.tmp 3), (.tmp 5)])⟩, ⟨(some 2), none, (.move (.tmp 6))⟩]) .ret))
abbrev f16 := finF [(.tmp 2)] false
def c16 : AFn := .code 1 7 b16 [(.tmp 2)] false
-- 17
def b17_r0 : ACode := (.seq (.region false [⟨(some 4), none, (.move (.const (.v (.bool false))))⟩]) .ret)
def b17_l0 : ACode := (.seq (.seq (.region false [⟨(some 6), none, (.move (.tmp 5))⟩, ⟨(some 7), none, (.move (.tmp 0))⟩, ⟨(some 8), none, (.len false (.tmp 7))⟩, ⟨(some 9), none, (.arith .lss (.tmp
  6) (.tmp 8))⟩]) (.cond (.tmp 9) .skip (.exit 0))) (.seq (.block 1 (.seq (.region false [⟨(some 12), none, (.move (.tmp 0))⟩, ⟨(some 13), none, (.move (.tmp 5))⟩, ⟨(some 14), none, (.indexAddr none 1
  (.tmp 12) (.tmp 13))⟩, ⟨(some 15), none, (.load false 1 (.tmp 14))⟩, ⟨(some 16), none, (.move (.tmp 1))⟩, ⟨(some 17), none, (.arith .eql (.tmp 15) (.tmp 16))⟩]) (.cond (.tmp 17) (.seq (.region false
  [⟨(some 4), none, (.move (.const (.v (.bool true))))⟩]) .ret) .skip))) (.region false [⟨(some 10), none, (.move (.tmp 5))⟩, ⟨(some 11), none, (.arith .add (.tmp 10) (.const (.v (.int .i64 1))))⟩,
  ⟨(some 5), none, (.move (.tmp 11))⟩])))
def b17 : ACode := (.seq (.region false [⟨(some 4), none, (.move (.const (.v (.bool false))))⟩]) (.seq (.seq (.region false [⟨(some 5), none, (.move (.const (.v (.int .i64 0))))⟩]) (.block 0 (.loop
  b17_l0))) b17_r0))
abbrev k17_0 : List K := [.blk 0, .c b17_r0]
abbrev f17 := finF [(.tmp 4)] false
def c17 : AFn := .code 2 18 b17 [(.tmp 4)] false
-- 18
def b18 : ACode := (.seq (.region false [⟨(some 6), none, (.move (.const (.v (.bool false))))⟩]) (.seq (.region false [⟨(some 7), none, (.move (.tmp 1))⟩, ⟨(some 8), none, (.move (.tmp 0))⟩, ⟨(some
  9), none, (.arith .leq (.tmp 7) (.tmp 8))⟩, ⟨(some 10), none, (.move (.tmp 9))⟩, ⟨(some 11), (some (10, true)), (.move (.tmp 0))⟩, ⟨(some 12), (some (10, true)), (.move (.tmp 2))⟩, ⟨(some 13), (some
  (10, true)), (.arith .leq (.tmp 11) (.tmp 12))⟩, ⟨(some 14), none, (.pick (.tmp 10) (.tmp 13) (.const (.v (.bool false))))⟩, ⟨(some 6), none, (.move (.tmp 14))⟩]) .ret))
abbrev f18 := finF [(.tmp 6)] false
def c18 : AFn := .code 3 15 b18 [(.tmp 6)] false
-- 19
def b19 : ACode := (.seq (.region false [⟨(some 0), none, (.alloc [(.v (.int .i64 0)), (.v (.int .i64 0)), (.v (.int .i64 0)), (.v (.int .i64 0))])⟩]) (.seq (.region false [⟨(some 1), none, (.build
  [(.v (.int .i64 0)), (.v (.int .i64 0)), (.v (.int .i64 0)), (.v (.int .i64 0))] [(0, (1, (.const (.v (.int .i64 1))))), (2, (1, (.const (.v (.int .i64 2)))))])⟩, ⟨none, none, (.store 4 (.tmp 0)
  (.tmp 1))⟩]) .ret))
abbrev f19 := finF [(.cell true 4 0)] false
def c19 : AFn := .code 0 2 b19 [(.cell true 4 0)] false
-- 20
def b20 : ACode := (.seq (.region false [⟨(some 0), none, (.alloc [(.v (.int .i64 0)), (.v (.int .i64 0)), (.v (.int .i64 0)), (.v (.int .i64 0)), (.v (.int .i64 0))])⟩]) (.seq (.region false [⟨(some
  1), none, (.build [(.v (.int .i64 0)), (.v (.int .i64 0))] [(0, (1, (.const (.v (.int .i64 10))))), (1, (1, (.const (.v (.int .i64 10)))))])⟩, ⟨(some 2), none, (.build [(.v (.int .i64 0)), (.v (.int
  .i64 0)), (.v (.int .i64 0)), (.v (.int .i64 0)), (.v (.int .i64 0))] [(2, (2, (.tmp 1)))])⟩, ⟨none, none, (.store 5 (.tmp 0) (.tmp 2))⟩]) .ret))
abbrev f20 := finF [(.cell true 5 0)] false
def c20 : AFn := .code 0 3 b20 [(.cell true 5 0)] false
-- 21
def b21_r0 : ACode := (.seq (.region false [⟨(some 4), none, (.move (.const (.v (.bool true))))⟩]) .ret)
def b21_l0 : ACode := (.seq (.seq (.region false [⟨(some 11), none, (.move (.tmp 5))⟩, ⟨(some 12), none, (.move (.tmp 0))⟩, ⟨(some 13), none, (.len false (.tmp 12))⟩, ⟨(some 14), none, (.arith .lss
  (.tmp 11) (.tmp 13))⟩]) (.cond (.tmp 14) .skip (.exit 0))) (.seq (.block 1 (.seq (.region true [⟨(some 17), none, (.move (.tmp 0))⟩, ⟨(some 18), none, (.move (.tmp 5))⟩, ⟨(some 19), none,
  (.indexAddr none 1 (.tmp 17) (.tmp 18))⟩, ⟨(some 20), none, (.load false 1 (.tmp 19))⟩, ⟨(some 21), none, (.move (.tmp 1))⟩, ⟨(some 22), none, (.move (.tmp 5))⟩, ⟨(some 23), none, (.indexAddr none 1
  (.tmp 21) (.tmp 22))⟩, ⟨(some 24), none, (.load false 1 (.tmp 23))⟩, ⟨(some 25), none, (.arith .neq (.tmp 20) (.tmp 24))⟩]) (.cond (.tmp 25) (.seq (.region false [⟨(some 4), none, (.move (.const (.v
  (.bool false))))⟩]) .ret) .skip))) (.region false [⟨(some 15), none, (.move (.tmp 5))⟩, ⟨(some 16), none, (.arith .add (.tmp 15) (.const (.v (.int .i64 1))))⟩, ⟨(some 5), none, (.move (.tmp
  16))⟩])))
def b21 : ACode := (.seq (.region false [⟨(some 4), none, (.move (.const (.v (.bool false))))⟩]) (.seq (.seq (.region false [⟨(some 6), none, (.move (.tmp 0))⟩, ⟨(some 7), none, (.len false (.tmp
  6))⟩, ⟨(some 8), none, (.move (.tmp 1))⟩, ⟨(some 9), none, (.len false (.tmp 8))⟩, ⟨(some 10), none, (.arith .neq (.tmp 7) (.tmp 9))⟩]) (.cond (.tmp 10) (.seq (.region false [⟨(some 4), none, (.move
  (.const (.v (.bool false))))⟩]) .ret) .skip)) (.seq (.seq (.region false [⟨(some 5), none, (.move (.const (.v (.int .i64 0))))⟩]) (.block 0 (.loop b21_l0))) b21_r0)))
abbrev k21_0 : List K := [.blk 0, .c b21_r0]
abbrev f21 := finF [(.tmp 4)] false
def c21 : AFn := .code 2 26 b21 [(.tmp 4)] false
-- 22
def b22 : ACode := (.seq (.region false [⟨(some 2), none, (.move (.const (.v (.bool false))))⟩]) (.seq (.region false [⟨(some 3), none, (.move (.tmp 0))⟩, ⟨(some 4), none, (.call false 18 [(.tmp 3),
  (.const (.v (.int .i64 (-2048)))), (.const (.v (.int .i64 2047)))])⟩, ⟨(some 2), none, (.move (.tmp 4))⟩]) .ret))
abbrev f22 := finF [(.tmp 2)] false
def c22 : AFn := .code 1 5 b22 [(.tmp 2)] false
-- 23
def b23_r0 : ACode := (.seq (.region false [⟨(some 4), none, (.move (.const (.v (.bool false))))⟩]) .ret)
def b23_l0 : ACode := (.seq (.seq (.region false [⟨(some 6), none, (.move (.tmp 5))⟩, ⟨(some 7), none, (.move (.tmp 0))⟩, ⟨(some 8), none, (.len false (.tmp 7))⟩, ⟨(some 9), none, (.arith .lss (.tmp
  6) (.tmp 8))⟩]) (.cond (.tmp 9) .skip (.exit 0))) (.seq (.block 1 (.seq (.region true [⟨(some 12), none, (.move (.tmp 0))⟩, ⟨(some 13), none, (.move (.tmp 5))⟩, ⟨(some 14), none, (.indexAddr none 3
  (.tmp 12) (.tmp 13))⟩, ⟨(some 15), none, (.fieldAddr 0 (.tmp 14))⟩, ⟨(some 16), none, (.load false 1 (.tmp 15))⟩, ⟨(some 17), none, (.fieldAddr 0 (.tmp 3))⟩, ⟨(some 18), none, (.load false 1 (.tmp
  17))⟩, ⟨(some 19), none, (.arith .eql (.tmp 16) (.tmp 18))⟩, ⟨(some 20), none, (.move (.tmp 19))⟩, ⟨(some 21), (some (20, true)), (.fieldAddr 1 (.tmp 3))⟩, ⟨(some 22), (some (20, true)), (.load
  false 1 (.tmp 21))⟩, ⟨(some 23), (some (20, true)), (.move (.tmp 0))⟩, ⟨(some 24), (some (20, true)), (.move (.tmp 5))⟩, ⟨(some 25), (some (20, true)), (.indexAddr none 3 (.tmp 23) (.tmp 24))⟩,
  ⟨(some 26), (some (20, true)), (.fieldAddr 1 (.tmp 25))⟩, ⟨(some 27), (some (20, true)), (.fieldAddr 0 (.tmp 26))⟩, ⟨(some 28), (some (20, true)), (.load false 1 (.tmp 27))⟩, ⟨(some 29), (some (20,
  true)), (.move (.tmp 0))⟩, ⟨(some 30), (some (20, true)), (.move (.tmp 5))⟩, ⟨(some 31), (some (20, true)), (.indexAddr none 3 (.tmp 29) (.tmp 30))⟩, ⟨(some 32), (some (20, true)), (.fieldAddr 1
  (.tmp 31))⟩, ⟨(some 33), (some (20, true)), (.fieldAddr 1 (.tmp 32))⟩, ⟨(some 34), (some (20, true)), (.load false 1 (.tmp 33))⟩, ⟨(some 35), (some (20, true)), (.call false 18 [(.tmp 22), (.tmp
  28), (.tmp 34)])⟩, ⟨(some 36), none, (.pick (.tmp 20) (.tmp 35) (.const (.v (.bool false))))⟩]) (.cond (.tmp 36) (.seq (.region false [⟨(some 4), none, (.move (.const (.v (.bool true))))⟩]) .ret)
  .skip))) (.region false [⟨(some 10), none, (.move (.tmp 5))⟩, ⟨(some 11), none, (.arith .add (.tmp 10) (.const (.v (.int .i64 1))))⟩, ⟨(some 5), none, (.move (.tmp 11))⟩])))
def b23 : ACode := (.seq (.region false [⟨(some 3), none, (.box 2 (.tmp 1))⟩, ⟨(some 4), none, (.move (.const (.v (.bool false))))⟩]) (.seq (.seq (.region false [⟨(some 5), none, (.move (.const (.v
  (.int .i64 0))))⟩]) (.block 0 (.loop b23_l0))) b23_r0))
abbrev k23_0 : List K := [.blk 0, .c b23_r0]
abbrev f23 := finF [(.tmp 4)] false
def c23 : AFn := .code 2 37 b23 [(.tmp 4)] false
-- 24
def b24 : ACode := (.seq (.region false [⟨(some 2), none, (.box 5 (.tmp 0))⟩, ⟨(some 3), none, (.box 2 (.tmp 1))⟩, ⟨(some 4), none, (.move (.const (.v (.bool false))))⟩]) (.seq (.region false [⟨(some
  5), none, (.fieldAddr 1 (.tmp 3))⟩, ⟨(some 6), none, (.load false 1 (.tmp 5))⟩, ⟨(some 7), none, (.fieldAddr 4 (.tmp 2))⟩, ⟨(some 8), none, (.load false 1 (.tmp 7))⟩, ⟨(some 9), none, (.arith .sub
  (.tmp 6) (.tmp 8))⟩, ⟨(some 10), none, (.call false 22 [(.tmp 9)])⟩, ⟨(some 11), none, (.un .not (.tmp 10))⟩, ⟨(some 12), none, (.move (.tmp 11))⟩, ⟨(some 13), (some (12, false)), (.fieldAddr 1
  (.tmp 3))⟩, ⟨(some 14), (some (12, false)), (.load false 1 (.tmp 13))⟩, ⟨(some 15), (some (12, false)), (.fieldAddr 4 (.tmp 2))⟩, ⟨(some 16), (some (12, false)), (.load false 1 (.tmp 15))⟩, ⟨(some
  17), (some (12, false)), (.arith .add (.tmp 14) (.tmp 16))⟩, ⟨(some 18), (some (12, false)), (.call false 22 [(.tmp 17)])⟩, ⟨(some 19), (some (12, false)), (.un .not (.tmp 18))⟩, ⟨(some 20), none,
  (.pick (.tmp 12) (.const (.v (.bool true))) (.tmp 19))⟩, ⟨(some 4), none, (.move (.tmp 20))⟩]) .ret))
abbrev f24 := finF [(.tmp 4)] false
def c24 : AFn := .code 2 21 b24 [(.tmp 4)] false
-- 25
def b25 : ACode := (.seq (.region false [⟨(some 3), none, (.box 4 (.tmp 0))⟩, ⟨(some 4), none, (.box 2 (.tmp 1))⟩, ⟨(some 5), none, (.box 2 (.tmp 2))⟩, ⟨(some 6), none, (.alloc [(.v (.int .i64 0)),
  (.v (.int .i64 0))])⟩]) (.seq (.region false [⟨(some 10), none, (.load true 4 (.tmp 3))⟩, ⟨(some 11), none, (.fieldAddr 0 (.tmp 4))⟩, ⟨(some 12), none, (.load false 1 (.tmp 11))⟩, ⟨(some 13), none,
  (.fieldAddr 1 (.tmp 4))⟩, ⟨(some 14), none, (.load false 1 (.tmp 13))⟩, ⟨(some 15), none, (.fieldAddr 0 (.tmp 5))⟩, ⟨(some 16), none, (.load false 1 (.tmp 15))⟩, ⟨(some 17), none, (.arith .add (.tmp
  14) (.tmp 16))⟩, ⟨(some 18), none, (.call false 47 [(.tmp 10), (.tmp 12), (.tmp 17)])⟩, ⟨(some 9), none, (.move (.tmp 18))⟩, ⟨(some 19), none, (.extract 0 (.tmp 9))⟩, ⟨(some 20), none, (.extract 1
  (.tmp 9))⟩, ⟨(some 7), none, (.move (.tmp 19))⟩, ⟨(some 8), none, (.move (.tmp 20))⟩]) (.seq (.region false [⟨(some 21), none, (.move (.tmp 7))⟩, ⟨(some 22), none, (.fieldAddr 1 (.tmp 4))⟩, ⟨(some
  23), none, (.load false 1 (.tmp 22))⟩, ⟨(some 24), none, (.fieldAddr 1 (.tmp 5))⟩, ⟨(some 25), none, (.load false 1 (.tmp 24))⟩, ⟨(some 26), none, (.arith .add (.tmp 23) (.tmp 25))⟩, ⟨(some 27),
  none, (.move (.tmp 8))⟩, ⟨(some 28), none, (.arith .sub (.tmp 26) (.tmp 27))⟩, ⟨(some 29), none, (.build [(.v (.int .i64 0)), (.v (.int .i64 0))] [(0, (1, (.tmp 21))), (1, (1, (.tmp 28)))])⟩, ⟨none,
  none, (.store 2 (.tmp 6) (.tmp 29))⟩]) .ret)))
abbrev f25 := finF [(.cell true 2 6)] false
def c25 : AFn := .code 3 30 b25 [(.cell true 2 6)] false
-- 26
def b26 : ACode := (.seq (.region false [⟨(some 2), none, (.move (.const (.v (.int .i64 0))))⟩]) (.seq (.region false [⟨(some 3), none, (.move (.tmp 0))⟩, ⟨(some 4), none, (.call false 48 [(.tmp 3),
  (.const (.v (.int .i64 4096)))])⟩, ⟨(some 2), none, (.move (.tmp 4))⟩]) .ret))
abbrev f26 := finF [(.tmp 2)] false
def c26 : AFn := .code 1 5 b26 [(.tmp 2)] false
-- 27
def b27 : ACode := (.seq (.region false [⟨(some 2), none, (.box 4 (.tmp 0))⟩, ⟨(some 3), none, (.box 5 (.tmp 1))⟩, ⟨(some 4), none, (.alloc [(.v (.int .i64 0)), (.v (.int .i64 0)), (.v (.int .i64 0)),
  (.v (.int .i64 0)), (.v (.int .i64 0)), (.v (.int .i64 0)), (.v (.int .i64 0)), (.v (.int .i64 0)), (.v (.int .i64 0))])⟩, ⟨(some 5), none, (.move (.const (.v (.int .i64 0))))⟩]) (.seq (.region true
  [⟨(some 6), none, (.load true 4 (.tmp 2))⟩, ⟨(some 7), none, (.load true 5 (.tmp 3))⟩, ⟨(some 8), none, (.build [(.v (.int .i64 0)), (.v (.int .i64 0)), (.v (.int .i64 0)), (.v (.int .i64 0)), (.v
  (.int .i64 0)), (.v (.int .i64 0)), (.v (.int .i64 0)), (.v (.int .i64 0)), (.v (.int .i64 0))] [(0, (4, (.tmp 6))), (4, (5, (.tmp 7)))])⟩, ⟨(some 9), none, (.load true 4 (.tmp 2))⟩, ⟨(some 10),
  none, (.call true 37 [(.tmp 9)])⟩, ⟨(some 11), none, (.load true 5 (.tmp 3))⟩, ⟨(some 12), none, (.call true 49 [(.tmp 11)])⟩, ⟨(some 13), none, (.buildSlice 1 [[(.v (.int .i64 0))], [(.v (.int .i64
  0))]] [(0, (.tmp 10)), (1, (.tmp 12))])⟩, ⟨(some 14), none, (.call true 36 [(.tmp 13)])⟩, ⟨none, none, (.store 9 (.tmp 4) (.tmp 8))⟩, ⟨(some 5), none, (.move (.tmp 14))⟩]) .ret))
abbrev f27 := finF [(.cell true 9 4), (.tmp 5)] false
def c27 : AFn := .code 2 15 b27 [(.cell true 9 4), (.tmp 5)] false
-- 28
def b28_r0 : ACode := (.seq (.region false [⟨(some 65), none, (.move (.tmp 4))⟩, ⟨(some 66), none, (.move (.tmp 4))⟩, ⟨(some 67), none, (.arith .leq (.tmp 66) (.const (.v (.int .i64 3000))))⟩, ⟨(some
  68), none, (.call false 38 [(.tmp 67), (.const (.v (.int .i64 8)))])⟩, ⟨(some 2), none, (.move (.tmp 65))⟩, ⟨(some 3), none, (.move (.tmp 68))⟩]) .ret)
def b28_l0 : ACode := (.seq (.region false [⟨(some 17), none, (.arith .lss (.tmp 16) (.tmp 15))⟩]) (.seq (.cond (.tmp 17) .skip (.exit 0)) (.seq (.block 1 (.seq (.region false [⟨(some 18), none,
  (.indexAddr none 3 (.tmp 14) (.tmp 16))⟩, ⟨(some 19), none, (.load true 3 (.tmp 18))⟩, ⟨(some 7), none, (.alloc [(.v (.int .i64 0)), (.v (.int .i64 0)), (.v (.int .i64 0))])⟩, ⟨none, none, (.store 3
  (.tmp 7) (.tmp 19))⟩]) (.seq (.region false [⟨(some 20), none, (.fieldAddr 1 (.tmp 7))⟩, ⟨(some 21), none, (.load true 2 (.tmp 20))⟩, ⟨(some 8), none, (.alloc [(.v (.int .i64 0)), (.v (.int .i64
  0))])⟩, ⟨none, none, (.store 2 (.tmp 8) (.tmp 21))⟩]) (.seq (.region false [⟨(some 22), none, (.fieldAddr 0 (.tmp 7))⟩, ⟨(some 23), none, (.load false 1 (.tmp 22))⟩, ⟨(some 24), none, (.call false
  50 [(.tmp 23)])⟩, ⟨(some 25), none, (.move (.tmp 24))⟩, ⟨(some 26), (some (25, true)), (.fieldAddr 0 (.tmp 8))⟩, ⟨(some 27), (some (25, true)), (.load false 1 (.tmp 26))⟩, ⟨(some 28), (some (25,
  true)), (.call false 51 [(.tmp 27)])⟩, ⟨(some 29), none, (.pick (.tmp 25) (.tmp 28) (.const (.v (.bool false))))⟩, ⟨(some 30), none, (.move (.tmp 29))⟩, ⟨(some 31), (some (30, true)), (.fieldAddr 1
  (.tmp 8))⟩, ⟨(some 32), (some (30, true)), (.load false 1 (.tmp 31))⟩, ⟨(some 33), (some (30, true)), (.call false 51 [(.tmp 32)])⟩, ⟨(some 34), none, (.pick (.tmp 30) (.tmp 33) (.const (.v (.bool
  false))))⟩, ⟨(some 9), none, (.move (.tmp 34))⟩]) (.seq (.seq (.region true [⟨(some 35), none, (.move (.tmp 9))⟩, ⟨(some 36), none, (.call true 38 [(.tmp 35), (.const (.v (.int .i64 2)))])⟩, ⟨(some
  37), none, (.fieldAddr 0 (.tmp 8))⟩, ⟨(some 38), none, (.load false 1 (.tmp 37))⟩, ⟨(some 39), none, (.fieldAddr 1 (.tmp 8))⟩, ⟨(some 40), none, (.load false 1 (.tmp 39))⟩, ⟨(some 41), none, (.arith
  .leq (.tmp 38) (.tmp 40))⟩, ⟨(some 42), none, (.move (.tmp 41))⟩, ⟨(some 43), (some (42, true)), (.fieldAddr 0 (.tmp 7))⟩, ⟨(some 44), (some (42, true)), (.load false 1 (.tmp 43))⟩, ⟨(some 45),
  (some (42, true)), (.move (.tmp 5))⟩, ⟨(some 46), (some (42, true)), (.arith .gtr (.tmp 44) (.tmp 45))⟩, ⟨(some 47), none, (.pick (.tmp 42) (.tmp 46) (.const (.v (.bool false))))⟩, ⟨(some 48), none,
  (.call false 38 [(.tmp 47), (.const (.v (.int .i64 9)))])⟩, ⟨(some 49), none, (.buildSlice 1 [[(.v (.int .i64 0))], [(.v (.int .i64 0))]] [(0, (.tmp 36)), (1, (.tmp 48))])⟩, ⟨(some 50), none, (.call
  false 36 [(.tmp 49)])⟩, ⟨(some 10), none, (.move (.tmp 50))⟩]) (.seq (.region false [⟨(some 51), none, (.move (.tmp 10))⟩, ⟨(some 52), none, (.arith .neq (.tmp 51) (.const (.v (.int .i64 0))))⟩])
  (.cond (.tmp 52) (.seq (.region false [⟨(some 53), none, (.move (.tmp 10))⟩, ⟨(some 2), none, (.move (.const (.v (.int .i64 0))))⟩, ⟨(some 3), none, (.move (.tmp 53))⟩]) .ret) .skip))) (.seq
  (.region false [⟨(some 54), none, (.fieldAddr 0 (.tmp 7))⟩, ⟨(some 55), none, (.load false 1 (.tmp 54))⟩, ⟨(some 5), none, (.move (.tmp 55))⟩]) (.region false [⟨(some 56), none, (.move (.tmp 4))⟩,
  ⟨(some 57), none, (.fieldAddr 1 (.tmp 8))⟩, ⟨(some 58), none, (.load false 1 (.tmp 57))⟩, ⟨(some 59), none, (.fieldAddr 0 (.tmp 8))⟩, ⟨(some 60), none, (.load false 1 (.tmp 59))⟩, ⟨(some 61), none,
  (.arith .sub (.tmp 58) (.tmp 60))⟩, ⟨(some 62), none, (.arith .add (.tmp 61) (.const (.v (.int .i64 1))))⟩, ⟨(some 63), none, (.arith .add (.tmp 56) (.tmp 62))⟩, ⟨(some 4), none, (.move (.tmp
  63))⟩]))))))) (.region false [⟨(some 64), none, (.arith .add (.tmp 16) (.const (.v (.int .i64 1))))⟩, ⟨(some 16), none, (.move (.tmp 64))⟩]))))
def b28 : ACode := (.seq (.region false [⟨(some 2), none, (.move (.const (.v (.int .i64 0))))⟩, ⟨(some 3), none, (.move (.const (.v (.int .i64 0))))⟩]) (.seq (.seq (.region false [⟨(some 11), none,
  (.move (.tmp 0))⟩, ⟨(some 12), none, (.len false (.tmp 11))⟩, ⟨(some 13), none, (.arith .gtr (.tmp 12) (.const (.v (.int .i64 200))))⟩]) (.cond (.tmp 13) (.seq (.region false [⟨(some 2), none,
  (.move (.const (.v (.int .i64 0))))⟩, ⟨(some 3), none, (.move (.const (.v (.int .i64 8))))⟩]) .ret) .skip)) (.seq (.region false [⟨(some 4), none, (.move (.const (.v (.int .i64 0))))⟩, ⟨(some 5),
  none, (.move (.const (.v (.int .i64 (-2049)))))⟩]) (.seq (.seq (.region false [⟨(some 14), none, (.move (.tmp 0))⟩, ⟨(some 15), none, (.len false (.tmp 14))⟩, ⟨(some 16), none, (.move (.const (.v
  (.int .i64 0))))⟩]) (.block 0 (.loop b28_l0))) b28_r0))))
abbrev k28_0 : List K := [.blk 0, .c b28_r0]
abbrev f28 := finF [(.tmp 2), (.tmp 3)] false
def c28 : AFn := .code 1 69 b28 [(.tmp 2), (.tmp 3)] false
-- 29
def b29 : ACode := (.seq (.region false [⟨(some 2), none, (.box 2 (.tmp 0))⟩, ⟨(some 3), none, (.move (.const (.v (.bool false))))⟩]) (.seq (.region false [⟨(some 7), none, (.load false 1 (.tmp 1))⟩,
  ⟨(some 8), none, (.fieldAddr 0 (.tmp 2))⟩, ⟨(some 9), none, (.load false 1 (.tmp 8))⟩, ⟨(some 10), none, (.call false 30 [(.tmp 7), (.tmp 9), (.const (.fn 31 [] []))])⟩, ⟨(some 6), none, (.move
  (.tmp 10))⟩, ⟨(some 11), none, (.extract 0 (.tmp 6))⟩, ⟨(some 12), none, (.extract 1 (.tmp 6))⟩, ⟨(some 4), none, (.move (.tmp 11))⟩, ⟨(some 5), none, (.move (.tmp 12))⟩]) (.seq (.region true
  [⟨(some 13), none, (.move (.tmp 5))⟩, ⟨(some 14), none, (.move (.tmp 13))⟩, ⟨(some 15), (some (14, true)), (.fieldAddr 1 (.tmp 2))⟩, ⟨(some 16), (some (14, true)), (.load false 1 (.tmp 15))⟩, ⟨(some
  17), (some (14, true)), (.load false 1 (.tmp 1))⟩, ⟨(some 18), (some (14, true)), (.move (.tmp 4))⟩, ⟨(some 19), (some (14, true)), (.indexAddr none 3 (.tmp 17) (.tmp 18))⟩, ⟨(some 20), (some (14,
  true)), (.fieldAddr 1 (.tmp 19))⟩, ⟨(some 21), (some (14, true)), (.fieldAddr 0 (.tmp 20))⟩, ⟨(some 22), (some (14, true)), (.load false 1 (.tmp 21))⟩, ⟨(some 23), (some (14, true)), (.load false 1
  (.tmp 1))⟩, ⟨(some 24), (some (14, true)), (.move (.tmp 4))⟩, ⟨(some 25), (some (14, true)), (.indexAddr none 3 (.tmp 23) (.tmp 24))⟩, ⟨(some 26), (some (14, true)), (.fieldAddr 1 (.tmp 25))⟩,
  ⟨(some 27), (some (14, true)), (.fieldAddr 1 (.tmp 26))⟩, ⟨(some 28), (some (14, true)), (.load false 1 (.tmp 27))⟩, ⟨(some 29), (some (14, true)), (.call false 32 [(.tmp 16), (.tmp 22), (.tmp
  28)])⟩, ⟨(some 30), none, (.pick (.tmp 14) (.tmp 29) (.const (.v (.bool false))))⟩, ⟨(some 3), none, (.move (.tmp 30))⟩]) .ret)))
abbrev f29 := finF [(.tmp 3)] false
def c29 : AFn := .code 2 31 b29 [(.tmp 3)] false
-- 30
def b30_r0 : ACode := (.seq (.region false [⟨(some 35), none, (.move (.tmp 9))⟩, ⟨(some 36), none, (.move (.tmp 9))⟩, ⟨(some 37), none, (.move (.tmp 8))⟩, ⟨(some 38), none, (.arith .lss (.tmp 36)
  (.tmp 37))⟩, ⟨(some 39), none, (.move (.tmp 38))⟩, ⟨(some 40), (some (39, true)), (.move (.tmp 2))⟩, ⟨(some 41), (some (39, true)), (.move (.tmp 0))⟩, ⟨(some 42), (some (39, true)), (.move (.tmp
  9))⟩, ⟨(some 43), (some (39, true)), (.indexAddr none 3 (.tmp 41) (.tmp 42))⟩, ⟨(some 44), (some (39, true)), (.load true 3 (.tmp 43))⟩, ⟨(some 45), (some (39, true)), (.move (.tmp 1))⟩, ⟨(some 46),
  (some (39, true)), (.callv false (.tmp 40) [(.tmp 44), (.tmp 45)])⟩, ⟨(some 47), (some (39, true)), (.arith .eql (.tmp 46) (.const (.v (.int .i64 0))))⟩, ⟨(some 48), none, (.pick (.tmp 39) (.tmp 47)
  (.const (.v (.bool false))))⟩, ⟨(some 6), none, (.move (.tmp 35))⟩, ⟨(some 7), none, (.move (.tmp 48))⟩]) .ret)
def b30_l0 : ACode := (.seq (.seq (.region false [⟨(some 15), none, (.move (.tmp 9))⟩, ⟨(some 16), none, (.move (.tmp 10))⟩, ⟨(some 17), none, (.arith .lss (.tmp 15) (.tmp 16))⟩]) (.cond (.tmp 17)
  .skip (.exit 0))) (.block 1 (.seq (.region false [⟨(some 18), none, (.move (.tmp 9))⟩, ⟨(some 19), none, (.move (.tmp 10))⟩, ⟨(some 20), none, (.arith .add (.tmp 18) (.tmp 19))⟩, ⟨(some 21), none,
  (.conv (.int .u64) (.tmp 20))⟩, ⟨(some 22), none, (.arith .shr (.tmp 21) (.const (.v (.int .u64 1))))⟩, ⟨(some 23), none, (.conv (.int .i64) (.tmp 22))⟩, ⟨(some 11), none, (.move (.tmp 23))⟩]) (.seq
  (.region false [⟨(some 24), none, (.move (.tmp 2))⟩, ⟨(some 25), none, (.move (.tmp 0))⟩, ⟨(some 26), none, (.move (.tmp 11))⟩, ⟨(some 27), none, (.indexAddr none 3 (.tmp 25) (.tmp 26))⟩, ⟨(some
  28), none, (.load true 3 (.tmp 27))⟩, ⟨(some 29), none, (.move (.tmp 1))⟩, ⟨(some 30), none, (.callv false (.tmp 24) [(.tmp 28), (.tmp 29)])⟩, ⟨(some 31), none, (.arith .lss (.tmp 30) (.const (.v
  (.int .i64 0))))⟩]) (.cond (.tmp 31) (.region false [⟨(some 32), none, (.move (.tmp 11))⟩, ⟨(some 33), none, (.arith .add (.tmp 32) (.const (.v (.int .i64 1))))⟩, ⟨(some 9), none, (.move (.tmp
  33))⟩]) (.region false [⟨(some 34), none, (.move (.tmp 11))⟩, ⟨(some 10), none, (.move (.tmp 34))⟩]))))))
def b30 : ACode := (.seq (.region false [⟨(some 6), none, (.move (.const (.v (.int .i64 0))))⟩, ⟨(some 7), none, (.move (.const (.v (.bool false))))⟩]) (.seq (.region false [⟨(some 12), none, (.move
  (.tmp 0))⟩, ⟨(some 13), none, (.len false (.tmp 12))⟩, ⟨(some 8), none, (.move (.tmp 13))⟩]) (.seq (.region false [⟨(some 14), none, (.move (.tmp 8))⟩, ⟨(some 9), none, (.move (.const (.v (.int .i64
  0))))⟩, ⟨(some 10), none, (.move (.tmp 14))⟩]) (.seq (.block 0 (.loop b30_l0)) b30_r0))))
abbrev k30_0 : List K := [.blk 0, .c b30_r0]
abbrev f30 := finF [(.tmp 6), (.tmp 7)] false
def c30 : AFn := .code 3 49 b30 [(.tmp 6), (.tmp 7)] false
-- 31
def b31 : ACode := (.seq (.region false [⟨(some 2), none, (.box 3 (.tmp 0))⟩, ⟨(some 4), none, (.move (.const (.v (.int .i64 0))))⟩]) (.seq (.region false [⟨(some 5), none, (.fieldAddr 0 (.tmp 2))⟩,
  ⟨(some 6), none, (.load false 1 (.tmp 5))⟩, ⟨(some 7), none, (.move (.tmp 1))⟩, ⟨(some 8), none, (.arith .sub (.tmp 6) (.tmp 7))⟩, ⟨(some 4), none, (.move (.tmp 8))⟩]) .ret))
abbrev f31 := finF [(.tmp 4)] false
def c31 : AFn := .code 2 9 b31 [(.tmp 4)] false
-- 32
def b32 : ACode := (.seq (.region false [⟨(some 6), none, (.move (.const (.v (.bool false))))⟩]) (.seq (.region false [⟨(some 7), none, (.move (.tmp 1))⟩, ⟨(some 8), none, (.move (.tmp 0))⟩, ⟨(some
  9), none, (.arith .leq (.tmp 7) (.tmp 8))⟩, ⟨(some 10), none, (.move (.tmp 9))⟩, ⟨(some 11), (some (10, true)), (.move (.tmp 0))⟩, ⟨(some 12), (some (10, true)), (.move (.tmp 2))⟩, ⟨(some 13), (some
  (10, true)), (.arith .leq (.tmp 11) (.tmp 12))⟩, ⟨(some 14), none, (.pick (.tmp 10) (.tmp 13) (.const (.v (.bool false))))⟩, ⟨(some 6), none, (.move (.tmp 14))⟩]) .ret))
abbrev f32 := finF [(.tmp 6)] false
def c32 : AFn := .code 3 15 b32 [(.tmp 6)] false
-- 33
def b33 : ACode := (.seq (.region false [⟨(some 2), none, (.box 9 (.tmp 0))⟩, ⟨(some 3), none, (.box 2 (.tmp 1))⟩, ⟨(some 4), none, (.move (.const (.v (.bool false))))⟩]) (.seq (.region false [⟨(some
  5), none, (.fieldAddr 1 (.tmp 3))⟩, ⟨(some 6), none, (.load false 1 (.tmp 5))⟩, ⟨(some 7), none, (.fieldAddr 4 (.tmp 2))⟩, ⟨(some 8), none, (.fieldAddr 4 (.tmp 7))⟩, ⟨(some 9), none, (.load false 1
  (.tmp 8))⟩, ⟨(some 10), none, (.un .neg (.tmp 9))⟩, ⟨(some 11), none, (.call false 52 [(.tmp 6), (.tmp 10)])⟩, ⟨(some 12), none, (.move (.tmp 11))⟩, ⟨(some 13), (some (12, false)), (.fieldAddr 1
  (.tmp 3))⟩, ⟨(some 14), (some (12, false)), (.load false 1 (.tmp 13))⟩, ⟨(some 15), (some (12, false)), (.fieldAddr 4 (.tmp 2))⟩, ⟨(some 16), (some (12, false)), (.fieldAddr 4 (.tmp 15))⟩, ⟨(some
  17), (some (12, false)), (.load false 1 (.tmp 16))⟩, ⟨(some 18), (some (12, false)), (.call false 52 [(.tmp 14), (.tmp 17)])⟩, ⟨(some 19), none, (.pick (.tmp 12) (.const (.v (.bool true))) (.tmp
  18))⟩, ⟨(some 4), none, (.move (.tmp 19))⟩]) .ret))
abbrev f33 := finF [(.tmp 4)] false
def c33 : AFn := .code 2 20 b33 [(.tmp 4)] false
-- 34
def b34_r0 : ACode := (.region false [⟨(some 15), none, (.move (.tmp 4))⟩, ⟨(some 16), none, (.arith .add (.tmp 15) (.const (.v (.int .i64 1))))⟩, ⟨(some 4), none, (.move (.tmp 16))⟩])
def b34_l1 : ACode := (.seq (.seq (.region false [⟨(some 21), none, (.move (.tmp 5))⟩, ⟨(some 22), none, (.fieldAddr 4 (.tmp 2))⟩, ⟨(some 23), none, (.fieldAddr 2 (.tmp 22))⟩, ⟨(some 24), none,
  (.fieldAddr 1 (.tmp 23))⟩, ⟨(some 25), none, (.load false 1 (.tmp 24))⟩, ⟨(some 26), none, (.arith .leq (.tmp 21) (.tmp 25))⟩]) (.cond (.tmp 26) .skip (.exit 2))) (.seq (.block 3 (.seq (.region
  false [⟨(some 29), none, (.move (.tmp 1))⟩, ⟨(some 30), none, (.move (.tmp 4))⟩, ⟨(some 31), none, (.move (.tmp 5))⟩, ⟨(some 32), none, (.build [(.v (.int .i64 0)), (.v (.int .i64 0))] [(0, (1,
  (.tmp 30))), (1, (1, (.tmp 31)))])⟩, ⟨(some 33), none, (.callv false (.tmp 29) [(.tmp 32)])⟩, ⟨(some 34), none, (.un .not (.tmp 33))⟩]) (.cond (.tmp 34) .ret .skip))) (.region false [⟨(some 27),
  none, (.move (.tmp 5))⟩, ⟨(some 28), none, (.arith .add (.tmp 27) (.const (.v (.int .i64 1))))⟩, ⟨(some 5), none, (.move (.tmp 28))⟩])))
def b34_l0 : ACode := (.seq (.seq (.region false [⟨(some 10), none, (.move (.tmp 4))⟩, ⟨(some 11), none, (.fieldAddr 4 (.tmp 2))⟩, ⟨(some 12), none, (.fieldAddr 4 (.tmp 11))⟩, ⟨(some 13), none, (.load
  false 1 (.tmp 12))⟩, ⟨(some 14), none, (.arith .leq (.tmp 10) (.tmp 13))⟩]) (.cond (.tmp 14) .skip (.exit 0))) (.seq (.block 1 (.seq (.region false [⟨(some 17), none, (.fieldAddr 4 (.tmp 2))⟩,
  ⟨(some 18), none, (.fieldAddr 2 (.tmp 17))⟩, ⟨(some 19), none, (.fieldAddr 0 (.tmp 18))⟩, ⟨(some 20), none, (.load false 1 (.tmp 19))⟩, ⟨(some 5), none, (.move (.tmp 20))⟩]) (.block 2 (.loop
  b34_l1)))) b34_r0))
def b34 : ACode := (.seq (.region false [⟨(some 2), none, (.box 9 (.tmp 0))⟩]) (.seq (.region false [⟨(some 6), none, (.fieldAddr 4 (.tmp 2))⟩, ⟨(some 7), none, (.fieldAddr 4 (.tmp 6))⟩, ⟨(some 8),
  none, (.load false 1 (.tmp 7))⟩, ⟨(some 9), none, (.un .neg (.tmp 8))⟩, ⟨(some 4), none, (.move (.tmp 9))⟩]) (.block 0 (.loop b34_l0))))
abbrev k34_1 : List K := [.blk 2, .blk 1, .c b34_r0, .lp b34_l0, .blk 0]
abbrev k34_0 : List K := [.blk 0]
abbrev f34 := finF [] false
def c34 : AFn := .code 2 35 b34 [] false
-- 35
def b35 : ACode := (.seq (.region false [⟨(some 3), none, (.box 9 (.tmp 0))⟩, ⟨(some 4), none, (.box 2 (.tmp 1))⟩, ⟨(some 5), none, (.box 2 (.tmp 2))⟩, ⟨(some 6), none, (.alloc [(.v (.int .i64 0)),
  (.v (.int .i64 0))])⟩]) (.seq (.region false [⟨(some 10), none, (.fieldAddr 0 (.tmp 3))⟩, ⟨(some 11), none, (.load true 4 (.tmp 10))⟩, ⟨(some 12), none, (.fieldAddr 0 (.tmp 4))⟩, ⟨(some 13), none,
  (.load false 1 (.tmp 12))⟩, ⟨(some 14), none, (.fieldAddr 1 (.tmp 4))⟩, ⟨(some 15), none, (.load false 1 (.tmp 14))⟩, ⟨(some 16), none, (.fieldAddr 0 (.tmp 5))⟩, ⟨(some 17), none, (.load false 1
  (.tmp 16))⟩, ⟨(some 18), none, (.arith .add (.tmp 15) (.tmp 17))⟩, ⟨(some 19), none, (.call false 53 [(.tmp 11), (.tmp 13), (.tmp 18)])⟩, ⟨(some 9), none, (.move (.tmp 19))⟩, ⟨(some 20), none,
  (.extract 0 (.tmp 9))⟩, ⟨(some 21), none, (.extract 1 (.tmp 9))⟩, ⟨(some 7), none, (.move (.tmp 20))⟩, ⟨(some 8), none, (.move (.tmp 21))⟩]) (.seq (.region false [⟨(some 22), none, (.move (.tmp
  7))⟩, ⟨(some 23), none, (.fieldAddr 1 (.tmp 4))⟩, ⟨(some 24), none, (.load false 1 (.tmp 23))⟩, ⟨(some 25), none, (.fieldAddr 1 (.tmp 5))⟩, ⟨(some 26), none, (.load false 1 (.tmp 25))⟩, ⟨(some 27),
  none, (.arith .add (.tmp 24) (.tmp 26))⟩, ⟨(some 28), none, (.move (.tmp 8))⟩, ⟨(some 29), none, (.arith .sub (.tmp 27) (.tmp 28))⟩, ⟨(some 30), none, (.build [(.v (.int .i64 0)), (.v (.int .i64
  0))] [(0, (1, (.tmp 22))), (1, (1, (.tmp 29)))])⟩, ⟨none, none, (.store 2 (.tmp 6) (.tmp 30))⟩]) .ret)))
abbrev f35 := finF [(.cell true 2 6)] false
def c35 : AFn := .code 3 31 b35 [(.cell true 2 6)] false
-- 36
def b36_r0 : ACode := (.seq (.region false [⟨(some 2), none, (.move (.const (.v (.int .i64 0))))⟩]) .ret)
def b36_l0 : ACode := (.seq (.region false [⟨(some 8), none, (.arith .lss (.tmp 7) (.tmp 6))⟩]) (.seq (.cond (.tmp 8) .skip (.exit 0)) (.seq (.block 1 (.seq (.region false [⟨(some 9), none,
  (.indexAddr none 1 (.tmp 5) (.tmp 7))⟩, ⟨(some 10), none, (.load false 1 (.tmp 9))⟩, ⟨(some 4), none, (.move (.tmp 10))⟩]) (.seq (.region false [⟨(some 11), none, (.move (.tmp 4))⟩, ⟨(some 12),
  none, (.arith .neq (.tmp 11) (.const (.v (.int .i64 0))))⟩]) (.cond (.tmp 12) (.seq (.region false [⟨(some 13), none, (.move (.tmp 4))⟩, ⟨(some 2), none, (.move (.tmp 13))⟩]) .ret) .skip))))
  (.region false [⟨(some 14), none, (.arith .add (.tmp 7) (.const (.v (.int .i64 1))))⟩, ⟨(some 7), none, (.move (.tmp 14))⟩]))))
def b36 : ACode := (.seq (.region false [⟨(some 2), none, (.move (.const (.v (.int .i64 0))))⟩]) (.seq (.seq (.region false [⟨(some 5), none, (.move (.tmp 0))⟩, ⟨(some 6), none, (.len false (.tmp
  5))⟩, ⟨(some 7), none, (.move (.const (.v (.int .i64 0))))⟩]) (.block 0 (.loop b36_l0))) b36_r0))
abbrev k36_0 : List K := [.blk 0, .c b36_r0]
abbrev f36 := finF [(.tmp 2)] false
def c36 : AFn := .code 1 15 b36 [(.tmp 2)] false
-- 37
def b37 : ACode := (.seq (.region false [⟨(some 1), none, (.box 4 (.tmp 0))⟩, ⟨(some 2), none, (.move (.const (.v (.int .i64 0))))⟩]) (.seq (.region false [⟨(some 4), none, (.fieldAddr 0 (.tmp 1))⟩,
  ⟨(some 5), none, (.load false 1 (.tmp 4))⟩, ⟨(some 6), none, (.call false 32 [(.tmp 5), (.const (.v (.int .i64 0))), (.const (.v (.int .i64 1000)))])⟩, ⟨(some 7), none, (.move (.tmp 6))⟩, ⟨(some 8),
  (some (7, true)), (.fieldAddr 1 (.tmp 1))⟩, ⟨(some 9), (some (7, true)), (.load false 1 (.tmp 8))⟩, ⟨(some 10), (some (7, true)), (.call false 32 [(.tmp 9), (.const (.v (.int .i64 0))), (.const (.v
  (.int .i64 1000)))])⟩, ⟨(some 11), none, (.pick (.tmp 7) (.tmp 10) (.const (.v (.bool false))))⟩, ⟨(some 12), none, (.move (.tmp 11))⟩, ⟨(some 13), (some (12, true)), (.fieldAddr 2 (.tmp 1))⟩,
  ⟨(some 14), (some (12, true)), (.load false 1 (.tmp 13))⟩, ⟨(some 15), (some (12, true)), (.call false 32 [(.tmp 14), (.const (.v (.int .i64 1))), (.const (.v (.int .i64 1000)))])⟩, ⟨(some 16),
  none, (.pick (.tmp 12) (.tmp 15) (.const (.v (.bool false))))⟩, ⟨(some 17), none, (.move (.tmp 16))⟩, ⟨(some 18), (some (17, true)), (.fieldAddr 3 (.tmp 1))⟩, ⟨(some 19), (some (17, true)), (.load
  false 1 (.tmp 18))⟩, ⟨(some 20), (some (17, true)), (.call false 50 [(.tmp 19)])⟩, ⟨(some 21), none, (.pick (.tmp 17) (.tmp 20) (.const (.v (.bool false))))⟩, ⟨(some 3), none, (.move (.tmp 21))⟩])
  (.seq (.region false [⟨(some 22), none, (.move (.tmp 3))⟩, ⟨(some 23), none, (.call false 38 [(.tmp 22), (.const (.v (.int .i64 2)))])⟩, ⟨(some 2), none, (.move (.tmp 23))⟩]) .ret)))
abbrev f37 := finF [(.tmp 2)] false
def c37 : AFn := .code 1 24 b37 [(.tmp 2)] false
-- 38
def b38 : ACode := (.seq (.region false [⟨(some 4), none, (.move (.const (.v (.int .i64 0))))⟩]) (.seq (.seq (.region false [⟨(some 5), none, (.move (.tmp 0))⟩]) (.cond (.tmp 5) (.seq (.region false
  [⟨(some 4), none, (.move (.const (.v (.int .i64 0))))⟩]) .ret) .skip)) (.seq (.region false [⟨(some 6), none, (.move (.tmp 1))⟩, ⟨(some 4), none, (.move (.tmp 6))⟩]) .ret)))
abbrev f38 := finF [(.tmp 4)] false
def c38 : AFn := .code 2 7 b38 [(.tmp 4)] false
-- 39
def b39 : ACode := (.seq (.region false [⟨(some 2), none, (.move (.const (.v (.int .i64 0))))⟩]) (.seq (.region false [⟨(some 3), none, (.move (.tmp 0))⟩, ⟨(some 4), none, (.move (.tmp 0))⟩, ⟨(some
  5), none, (.un .neg (.tmp 4))⟩, ⟨(some 6), none, (.minmax true [(.tmp 3), (.tmp 5)])⟩, ⟨(some 2), none, (.move (.tmp 6))⟩]) .ret))
abbrev f39 := finF [(.tmp 2)] false
def c39 : AFn := .code 1 7 b39 [(.tmp 2)] false
-- 40
def b40 : ACode := (.seq (.region false [⟨(some 2), none, (.move (.const (.v (.int .i64 0))))⟩]) (.seq (.region false [⟨(some 4), none, (.move (.tmp 0))⟩, ⟨(some 5), none, (.call false 42 [(.tmp 4),
  (.const (.fn 54 [] []))])⟩, ⟨(some 3), none, (.move (.tmp 5))⟩]) (.seq (.region false [⟨(some 6), none, (.move (.tmp 0))⟩, ⟨(some 7), none, (.len false (.tmp 6))⟩, ⟨(some 8), none, (.arith .leq
  (.tmp 7) (.const (.v (.int .i64 200))))⟩, ⟨(some 9), none, (.call false 38 [(.tmp 8), (.const (.v (.int .i64 8)))])⟩, ⟨(some 10), none, (.move (.tmp 3))⟩, ⟨(some 11), none, (.un .not (.tmp 10))⟩,
  ⟨(some 12), none, (.call false 38 [(.tmp 11), (.const (.v (.int .i64 2)))])⟩, ⟨(some 13), none, (.buildSlice 1 [[(.v (.int .i64 0))], [(.v (.int .i64 0))]] [(0, (.tmp 9)), (1, (.tmp 12))])⟩, ⟨(some
  14), none, (.call false 36 [(.tmp 13)])⟩, ⟨(some 2), none, (.move (.tmp 14))⟩]) .ret)))
abbrev f40 := finF [(.tmp 2)] false
def c40 : AFn := .code 1 15 b40 [(.tmp 2)] false
-- 41
def b41 : ACode := (.seq (.region false [⟨(some 3), none, (.box 4 (.tmp 0))⟩, ⟨(some 4), none, (.box 2 (.tmp 1))⟩, ⟨(some 6), none, (.alloc [(.v (.int .i64 0)), (.v (.int .i64 0))])⟩, ⟨(some 7), none,
  (.move (.const (.v (.int .i64 0))))⟩]) (.seq (.region false [⟨(some 11), none, (.move (.tmp 2))⟩, ⟨(some 12), none, (.fieldAddr 0 (.tmp 4))⟩, ⟨(some 13), none, (.load false 1 (.tmp 12))⟩, ⟨(some
  14), none, (.arith .sub (.tmp 11) (.tmp 13))⟩, ⟨(some 15), none, (.call false 56 [(.tmp 14)])⟩, ⟨(some 8), none, (.move (.tmp 15))⟩]) (.seq (.region false [⟨(some 17), none, (.load true 4 (.tmp
  3))⟩, ⟨(some 18), none, (.fieldAddr 1 (.tmp 4))⟩, ⟨(some 19), none, (.load false 1 (.tmp 18))⟩, ⟨(some 20), none, (.move (.tmp 8))⟩, ⟨(some 21), none, (.call false 53 [(.tmp 17), (.tmp 19), (.tmp
  20)])⟩, ⟨(some 16), none, (.move (.tmp 21))⟩, ⟨(some 22), none, (.extract 0 (.tmp 16))⟩, ⟨(some 23), none, (.extract 1 (.tmp 16))⟩, ⟨(some 9), none, (.move (.tmp 22))⟩, ⟨(some 10), none, (.move
  (.tmp 23))⟩]) (.seq (.region false [⟨(some 24), none, (.fieldAddr 0 (.tmp 4))⟩, ⟨(some 25), none, (.load false 1 (.tmp 24))⟩, ⟨(some 26), none, (.move (.tmp 10))⟩, ⟨(some 27), none, (.arith .add
  (.tmp 25) (.tmp 26))⟩, ⟨(some 28), none, (.move (.tmp 9))⟩, ⟨(some 29), none, (.build [(.v (.int .i64 0)), (.v (.int .i64 0))] [(0, (1, (.tmp 27))), (1, (1, (.tmp 28)))])⟩, ⟨(some 30), none, (.move
  (.tmp 8))⟩, ⟨none, none, (.store 2 (.tmp 6) (.tmp 29))⟩, ⟨(some 7), none, (.move (.tmp 30))⟩]) .ret))))
abbrev f41 := finF [(.cell true 2 6), (.tmp 7)] false
def c41 : AFn := .code 3 31 b41 [(.cell true 2 6), (.tmp 7)] false
-- 42
def b42 : ACode := (.seq (.region false [⟨(some 4), none, (.move (.const (.v (.bool false))))⟩]) (.seq (.region false [⟨(some 5), none, (.move (.tmp 0))⟩, ⟨(some 6), none, (.move (.tmp 1))⟩, ⟨(some
  7), none, (.call false 57 [(.tmp 5), (.tmp 6)])⟩, ⟨(some 8), none, (.arith .geq (.tmp 7) (.const (.v (.int .i64 0))))⟩, ⟨(some 4), none, (.move (.tmp 8))⟩]) .ret))
abbrev f42 := finF [(.tmp 4)] false
def c42 : AFn := .code 2 9 b42 [(.tmp 4)] false
-- 43
def b43 : ACode := (.seq (.region false [⟨(some 2), none, (.move (.const (.v (.bool false))))⟩]) (.seq (.region false [⟨(some 3), none, (.move (.tmp 0))⟩, ⟨(some 4), none, (.call false 44 [(.tmp
  3)])⟩, ⟨(some 5), none, (.un .not (.tmp 4))⟩, ⟨(some 2), none, (.move (.tmp 5))⟩]) .ret))
abbrev f43 := finF [(.tmp 2)] false
def c43 : AFn := .code 1 6 b43 [(.tmp 2)] false
-- 44
def b44 : ACode := (.seq (.region false [⟨(some 2), none, (.move (.const (.v (.bool false))))⟩]) (.seq (.region false [⟨(some 3), none, (.move (.tmp 0))⟩, ⟨(some 4), none, (.call false 32 [(.tmp 3),
  (.const (.v (.int .i64 (-1000000000000)))), (.const (.v (.int .i64 1000000000000)))])⟩, ⟨(some 2), none, (.move (.tmp 4))⟩]) .ret))
abbrev f44 := finF [(.tmp 2)] false
def c44 : AFn := .code 1 5 b44 [(.tmp 2)] false
-- 45
def b45 : ACode := (.seq (.region false [⟨(some 4), none, (.move (.const (.v (.int .i64 0))))⟩]) (.seq (.region false [⟨(some 6), none, (.move (.tmp 0))⟩, ⟨(some 7), none, (.move (.tmp 1))⟩, ⟨(some
  8), none, (.arith .quo (.tmp 6) (.tmp 7))⟩, ⟨(some 5), none, (.move (.tmp 8))⟩]) (.seq (.seq (.region false [⟨(some 9), none, (.move (.tmp 0))⟩, ⟨(some 10), none, (.move (.tmp 1))⟩, ⟨(some 11),
  none, (.arith .rem (.tmp 9) (.tmp 10))⟩, ⟨(some 12), none, (.arith .lss (.tmp 11) (.const (.v (.int .i64 0))))⟩]) (.cond (.tmp 12) (.region false [⟨(some 13), none, (.move (.tmp 5))⟩, ⟨(some 14),
  none, (.arith .sub (.tmp 13) (.const (.v (.int .i64 1))))⟩, ⟨(some 5), none, (.move (.tmp 14))⟩]) .skip)) (.seq (.region false [⟨(some 15), none, (.move (.tmp 5))⟩, ⟨(some 4), none, (.move (.tmp
  15))⟩]) .ret))))
abbrev f45 := finF [(.tmp 4)] false
def c45 : AFn := .code 2 16 b45 [(.tmp 4)] false
-- 46
def b46 : ACode := (.seq (.region false [⟨(some 2), none, (.move (.const (.v (.bool false))))⟩]) (.seq (.region false [⟨(some 3), none, (.move (.tmp 0))⟩, ⟨(some 4), none, (.call false 18 [(.tmp 3),
  (.const (.v (.int .i64 (-1000000000000)))), (.const (.v (.int .i64 1000000000000)))])⟩, ⟨(some 2), none, (.move (.tmp 4))⟩]) .ret))
abbrev f46 := finF [(.tmp 2)] false
def c46 : AFn := .code 1 5 b46 [(.tmp 2)] false
-- 47
def b47 : ACode := (.seq (.region false [⟨(some 3), none, (.box 4 (.tmp 0))⟩, ⟨(some 6), none, (.move (.const (.v (.int .i64 0))))⟩, ⟨(some 7), none, (.move (.const (.v (.int .i64 0))))⟩]) (.seq
  (.region false [⟨(some 9), none, (.move (.tmp 1))⟩, ⟨(some 10), none, (.move (.tmp 2))⟩, ⟨(some 11), none, (.fieldAddr 1 (.tmp 3))⟩, ⟨(some 12), none, (.load false 1 (.tmp 11))⟩, ⟨(some 13), none,
  (.arith .mul (.tmp 10) (.tmp 12))⟩, ⟨(some 14), none, (.fieldAddr 2 (.tmp 3))⟩, ⟨(some 15), none, (.load false 1 (.tmp 14))⟩, ⟨(some 16), none, (.call false 58 [(.tmp 13), (.tmp 15)])⟩, ⟨(some 17),
  none, (.arith .add (.tmp 9) (.tmp 16))⟩, ⟨(some 18), none, (.minmax true [(.const (.v (.int .i64 (-2048)))), (.tmp 17)])⟩, ⟨(some 19), none, (.minmax false [(.const (.v (.int .i64 2047))), (.tmp
  18)])⟩, ⟨(some 8), none, (.move (.tmp 19))⟩]) (.seq (.region false [⟨(some 20), none, (.move (.tmp 8))⟩, ⟨(some 21), none, (.move (.tmp 8))⟩, ⟨(some 22), none, (.move (.tmp 2))⟩, ⟨(some 23), none,
  (.fieldAddr 0 (.tmp 3))⟩, ⟨(some 24), none, (.load false 1 (.tmp 23))⟩, ⟨(some 25), none, (.arith .mul (.tmp 22) (.tmp 24))⟩, ⟨(some 26), none, (.fieldAddr 2 (.tmp 3))⟩, ⟨(some 27), none, (.load
  false 1 (.tmp 26))⟩, ⟨(some 28), none, (.call false 58 [(.tmp 25), (.tmp 27)])⟩, ⟨(some 29), none, (.arith .add (.tmp 21) (.tmp 28))⟩, ⟨(some 6), none, (.move (.tmp 20))⟩, ⟨(some 7), none, (.move
  (.tmp 29))⟩]) .ret)))
abbrev f47 := finF [(.tmp 6), (.tmp 7)] false
def c47 : AFn := .code 3 30 b47 [(.tmp 6), (.tmp 7)] false
-- 48
def b48 : ACode := (.seq (.region false [⟨(some 4), none, (.move (.const (.v (.int .i64 0))))⟩]) (.seq (.region false [⟨(some 5), none, (.move (.tmp 0))⟩, ⟨(some 6), none, (.move (.tmp 1))⟩, ⟨(some
  7), none, (.arith .rem (.tmp 5) (.tmp 6))⟩, ⟨(some 0), none, (.move (.tmp 7))⟩]) (.seq (.seq (.region false [⟨(some 8), none, (.move (.tmp 0))⟩, ⟨(some 9), none, (.arith .lss (.tmp 8) (.const (.v
  (.int .i64 0))))⟩]) (.cond (.tmp 9) (.region false [⟨(some 10), none, (.move (.tmp 0))⟩, ⟨(some 11), none, (.move (.tmp 1))⟩, ⟨(some 12), none, (.arith .add (.tmp 10) (.tmp 11))⟩, ⟨(some 0), none,
  (.move (.tmp 12))⟩]) .skip)) (.seq (.region false [⟨(some 13), none, (.move (.tmp 0))⟩, ⟨(some 4), none, (.move (.tmp 13))⟩]) .ret))))
abbrev f48 := finF [(.tmp 4)] false
def c48 : AFn := .code 2 14 b48 [(.tmp 4)] false
-- 49
def b49_r0 : ACode := (.seq (.region true [⟨(some 38), none, (.move (.tmp 3))⟩, ⟨(some 39), none, (.call true 38 [(.tmp 38), (.const (.v (.int .i64 2)))])⟩, ⟨(some 40), none, (.move (.tmp 4))⟩, ⟨(some
  41), none, (.call true 38 [(.tmp 40), (.const (.v (.int .i64 9)))])⟩, ⟨(some 42), none, (.fieldAddr 2 (.tmp 1))⟩, ⟨(some 43), none, (.fieldAddr 1 (.tmp 42))⟩, ⟨(some 44), none, (.load false 1 (.tmp
  43))⟩, ⟨(some 45), none, (.fieldAddr 2 (.tmp 1))⟩, ⟨(some 46), none, (.fieldAddr 0 (.tmp 45))⟩, ⟨(some 47), none, (.load false 1 (.tmp 46))⟩, ⟨(some 48), none, (.arith .sub (.tmp 44) (.tmp 47))⟩,
  ⟨(some 49), none, (.arith .lss (.tmp 48) (.const (.v (.int .i64 9))))⟩, ⟨(some 50), none, (.call false 38 [(.tmp 49), (.const (.v (.int .i64 8)))])⟩, ⟨(some 51), none, (.buildSlice 1 [[(.v (.int
  .i64 0))], [(.v (.int .i64 0))], [(.v (.int .i64 0))]] [(0, (.tmp 39)), (1, (.tmp 41)), (2, (.tmp 50))])⟩, ⟨(some 52), none, (.call false 36 [(.tmp 51)])⟩, ⟨(some 2), none, (.move (.tmp 52))⟩])
  .ret)
def b49_l0 : ACode := (.seq (.region false [⟨(some 16), none, (.arith .lss (.tmp 15) (.const (.v (.int .i64 2))))⟩]) (.seq (.cond (.tmp 16) .skip (.exit 0)) (.seq (.block 1 (.seq (.region false
  [⟨(some 17), none, (.index 2 2 true (.tmp 14) (.tmp 15))⟩, ⟨(some 6), none, (.alloc [(.v (.int .i64 0)), (.v (.int .i64 0))])⟩, ⟨none, none, (.store 2 (.tmp 6) (.tmp 17))⟩]) (.seq (.region false
  [⟨(some 18), none, (.move (.tmp 3))⟩, ⟨(some 19), none, (.move (.tmp 18))⟩, ⟨(some 20), (some (19, true)), (.fieldAddr 0 (.tmp 6))⟩, ⟨(some 21), (some (19, true)), (.load false 1 (.tmp 20))⟩, ⟨(some
  22), (some (19, true)), (.call false 51 [(.tmp 21)])⟩, ⟨(some 23), none, (.pick (.tmp 19) (.tmp 22) (.const (.v (.bool false))))⟩, ⟨(some 24), none, (.move (.tmp 23))⟩, ⟨(some 25), (some (24,
  true)), (.fieldAddr 1 (.tmp 6))⟩, ⟨(some 26), (some (24, true)), (.load false 1 (.tmp 25))⟩, ⟨(some 27), (some (24, true)), (.call false 51 [(.tmp 26)])⟩, ⟨(some 28), none, (.pick (.tmp 24) (.tmp
  27) (.const (.v (.bool false))))⟩, ⟨(some 3), none, (.move (.tmp 28))⟩]) (.region false [⟨(some 29), none, (.move (.tmp 4))⟩, ⟨(some 30), none, (.move (.tmp 29))⟩, ⟨(some 31), (some (30, true)),
  (.fieldAddr 0 (.tmp 6))⟩, ⟨(some 32), (some (30, true)), (.load false 1 (.tmp 31))⟩, ⟨(some 33), (some (30, true)), (.fieldAddr 1 (.tmp 6))⟩, ⟨(some 34), (some (30, true)), (.load false 1 (.tmp
  33))⟩, ⟨(some 35), (some (30, true)), (.arith .leq (.tmp 32) (.tmp 34))⟩, ⟨(some 36), none, (.pick (.tmp 30) (.tmp 35) (.const (.v (.bool false))))⟩, ⟨(some 4), none, (.move (.tmp 36))⟩]))))
  (.region false [⟨(some 37), none, (.arith .add (.tmp 15) (.const (.v (.int .i64 1))))⟩, ⟨(some 15), none, (.move (.tmp 37))⟩]))))
def b49 : ACode := (.seq (.region false [⟨(some 1), none, (.box 5 (.tmp 0))⟩, ⟨(some 2), none, (.move (.const (.v (.int .i64 0))))⟩]) (.seq (.region false [⟨(some 7), none, (.fieldAddr 4 (.tmp 1))⟩,
  ⟨(some 8), none, (.load false 1 (.tmp 7))⟩, ⟨(some 9), none, (.call false 32 [(.tmp 8), (.const (.v (.int .i64 0))), (.const (.v (.int .i64 100)))])⟩, ⟨(some 3), none, (.move (.tmp 9))⟩, ⟨(some 4),
  none, (.move (.const (.v (.bool true))))⟩]) (.seq (.seq (.region false [⟨(some 10), none, (.fieldAddr 0 (.tmp 1))⟩, ⟨(some 11), none, (.load true 2 (.tmp 10))⟩, ⟨(some 12), none, (.fieldAddr 2 (.tmp
  1))⟩, ⟨(some 13), none, (.load true 2 (.tmp 12))⟩, ⟨(some 14), none, (.build [(.v (.int .i64 0)), (.v (.int .i64 0)), (.v (.int .i64 0)), (.v (.int .i64 0))] [(0, (2, (.tmp 11))), (2, (2, (.tmp
  13)))])⟩, ⟨(some 15), none, (.move (.const (.v (.int .i64 0))))⟩]) (.block 0 (.loop b49_l0))) b49_r0)))
abbrev k49_0 : List K := [.blk 0, .c b49_r0]
abbrev f49 := finF [(.tmp 2)] false
def c49 : AFn := .code 1 53 b49 [(.tmp 2)] false
-- 50
def b50 : ACode := (.seq (.region false [⟨(some 2), none, (.move (.const (.v (.bool false))))⟩]) (.seq (.region false [⟨(some 3), none, (.move (.tmp 0))⟩, ⟨(some 4), none, (.call false 51 [(.tmp
  3)])⟩, ⟨(some 2), none, (.move (.tmp 4))⟩]) .ret))
abbrev f50 := finF [(.tmp 2)] false
def c50 : AFn := .code 1 5 b50 [(.tmp 2)] false
-- 51
def b51 : ACode := (.seq (.region false [⟨(some 2), none, (.move (.const (.v (.bool false))))⟩]) (.seq (.region false [⟨(some 3), none, (.move (.tmp 0))⟩, ⟨(some 4), none, (.call false 32 [(.tmp 3),
  (.const (.v (.int .i64 (-2048)))), (.const (.v (.int .i64 2047)))])⟩, ⟨(some 2), none, (.move (.tmp 4))⟩]) .ret))
abbrev f51 := finF [(.tmp 2)] false
def c51 : AFn := .code 1 5 b51 [(.tmp 2)] false
-- 52
def b52 : ACode := (.seq (.region false [⟨(some 4), none, (.move (.const (.v (.bool false))))⟩]) (.seq (.region false [⟨(some 5), none, (.move (.tmp 0))⟩, ⟨(some 6), none, (.move (.tmp 1))⟩, ⟨(some
  7), none, (.arith .add (.tmp 5) (.tmp 6))⟩, ⟨(some 8), none, (.call false 51 [(.tmp 7)])⟩, ⟨(some 9), none, (.un .not (.tmp 8))⟩, ⟨(some 4), none, (.move (.tmp 9))⟩]) .ret))
abbrev f52 := finF [(.tmp 4)] false
def c52 : AFn := .code 2 10 b52 [(.tmp 4)] false
-- 53
def b53 : ACode := (.seq (.region false [⟨(some 3), none, (.box 4 (.tmp 0))⟩, ⟨(some 6), none, (.move (.const (.v (.int .i64 0))))⟩, ⟨(some 7), none, (.move (.const (.v (.int .i64 0))))⟩]) (.seq
  (.region false [⟨(some 8), none, (.move (.tmp 1))⟩, ⟨(some 9), none, (.move (.tmp 2))⟩, ⟨(some 10), none, (.fieldAddr 1 (.tmp 3))⟩, ⟨(some 11), none, (.load false 1 (.tmp 10))⟩, ⟨(some 12), none,
  (.arith .mul (.tmp 9) (.tmp 11))⟩, ⟨(some 13), none, (.fieldAddr 2 (.tmp 3))⟩, ⟨(some 14), none, (.load false 1 (.tmp 13))⟩, ⟨(some 15), none, (.call false 45 [(.tmp 12), (.tmp 14)])⟩, ⟨(some 16),
  none, (.arith .add (.tmp 8) (.tmp 15))⟩, ⟨(some 17), none, (.minmax true [(.tmp 16), (.const (.v (.int .i64 (-2048))))])⟩, ⟨(some 18), none, (.minmax false [(.tmp 17), (.const (.v (.int .i64
  2047)))])⟩, ⟨(some 6), none, (.move (.tmp 18))⟩]) (.seq (.region false [⟨(some 19), none, (.move (.tmp 6))⟩, ⟨(some 20), none, (.move (.tmp 6))⟩, ⟨(some 21), none, (.move (.tmp 2))⟩, ⟨(some 22),
  none, (.fieldAddr 0 (.tmp 3))⟩, ⟨(some 23), none, (.load false 1 (.tmp 22))⟩, ⟨(some 24), none, (.arith .mul (.tmp 21) (.tmp 23))⟩, ⟨(some 25), none, (.fieldAddr 2 (.tmp 3))⟩, ⟨(some 26), none,
  (.load false 1 (.tmp 25))⟩, ⟨(some 27), none, (.call false 45 [(.tmp 24), (.tmp 26)])⟩, ⟨(some 28), none, (.arith .add (.tmp 20) (.tmp 27))⟩, ⟨(some 6), none, (.move (.tmp 19))⟩, ⟨(some 7), none,
  (.move (.tmp 28))⟩]) .ret)))
abbrev f53 := finF [(.tmp 6), (.tmp 7)] false
def c53 : AFn := .code 3 29 b53 [(.tmp 6), (.tmp 7)] false
-- 54
def b54 : ACode := (.seq (.region false [⟨(some 2), none, (.move (.const (.v (.bool false))))⟩]) (.seq (.region false [⟨(some 3), none, (.move (.tmp 0))⟩, ⟨(some 4), none, (.call false 55 [(.tmp
  3)])⟩, ⟨(some 5), none, (.un .not (.tmp 4))⟩, ⟨(some 2), none, (.move (.tmp 5))⟩]) .ret))
abbrev f54 := finF [(.tmp 2)] false
def c54 : AFn := .code 1 6 b54 [(.tmp 2)] false
-- 55
def b55 : ACode := (.seq (.region false [⟨(some 2), none, (.move (.const (.v (.bool false))))⟩]) (.seq (.region false [⟨(some 3), none, (.move (.tmp 0))⟩, ⟨(some 4), none, (.call false 32 [(.tmp 3),
  (.const (.v (.int .i64 0))), (.const (.v (.int .i64 4095)))])⟩, ⟨(some 2), none, (.move (.tmp 4))⟩]) .ret))
abbrev f55 := finF [(.tmp 2)] false
def c55 : AFn := .code 1 5 b55 [(.tmp 2)] false
-- 56
def b56 : ACode := (.seq (.region false [⟨(some 2), none, (.move (.const (.v (.int .i64 0))))⟩]) (.seq (.region false [⟨(some 3), none, (.move (.tmp 0))⟩, ⟨(some 4), none, (.arith .add (.tmp 3)
  (.const (.v (.int .i64 2048))))⟩, ⟨(some 5), none, (.call false 59 [(.tmp 4), (.const (.v (.int .i64 4096)))])⟩, ⟨(some 6), none, (.arith .sub (.tmp 5) (.const (.v (.int .i64 2048))))⟩, ⟨(some 2),
  none, (.move (.tmp 6))⟩]) .ret))
abbrev f56 := finF [(.tmp 2)] false
def c56 : AFn := .code 1 7 b56 [(.tmp 2)] false
-- 57
def b57_r0 : ACode := (.seq (.region false [⟨(some 4), none, (.move (.const (.v (.int .i64 (-1)))))⟩]) .ret)
def b57_l0 : ACode := (.seq (.region false [⟨(some 9), none, (.arith .lss (.tmp 8) (.tmp 7))⟩]) (.seq (.cond (.tmp 9) .skip (.exit 0)) (.seq (.block 1 (.seq (.region false [⟨(some 10), none, (.move
  (.tmp 8))⟩, ⟨(some 5), none, (.move (.tmp 10))⟩]) (.seq (.region false [⟨(some 11), none, (.move (.tmp 1))⟩, ⟨(some 12), none, (.move (.tmp 0))⟩, ⟨(some 13), none, (.move (.tmp 5))⟩, ⟨(some 14),
  none, (.indexAddr none 1 (.tmp 12) (.tmp 13))⟩, ⟨(some 15), none, (.load false 1 (.tmp 14))⟩, ⟨(some 16), none, (.callv false (.tmp 11) [(.tmp 15)])⟩]) (.cond (.tmp 16) (.seq (.region false [⟨(some
  17), none, (.move (.tmp 5))⟩, ⟨(some 4), none, (.move (.tmp 17))⟩]) .ret) .skip)))) (.region false [⟨(some 18), none, (.arith .add (.tmp 8) (.const (.v (.int .i64 1))))⟩, ⟨(some 8), none, (.move
  (.tmp 18))⟩]))))
def b57 : ACode := (.seq (.region false [⟨(some 4), none, (.move (.const (.v (.int .i64 0))))⟩]) (.seq (.seq (.region false [⟨(some 6), none, (.move (.tmp 0))⟩, ⟨(some 7), none, (.len false (.tmp
  6))⟩, ⟨(some 8), none, (.move (.const (.v (.int .i64 0))))⟩]) (.block 0 (.loop b57_l0))) b57_r0))
abbrev k57_0 : List K := [.blk 0, .c b57_r0]
abbrev f57 := finF [(.tmp 4)] false
def c57 : AFn := .code 2 19 b57 [(.tmp 4)] false
-- 58
def b58 : ACode := (.seq (.region false [⟨(some 4), none, (.move (.const (.v (.int .i64 0))))⟩]) (.seq (.region false [⟨(some 6), none, (.move (.tmp 0))⟩, ⟨(some 7), none, (.move (.tmp 1))⟩, ⟨(some
  8), none, (.arith .quo (.tmp 6) (.tmp 7))⟩, ⟨(some 5), none, (.move (.tmp 8))⟩]) (.seq (.seq (.region false [⟨(some 9), none, (.move (.tmp 0))⟩, ⟨(some 10), none, (.move (.tmp 1))⟩, ⟨(some 11),
  none, (.arith .rem (.tmp 9) (.tmp 10))⟩, ⟨(some 12), none, (.arith .lss (.tmp 11) (.const (.v (.int .i64 0))))⟩]) (.cond (.tmp 12) (.region false [⟨(some 13), none, (.move (.tmp 5))⟩, ⟨(some 14),
  none, (.arith .sub (.tmp 13) (.const (.v (.int .i64 1))))⟩, ⟨(some 5), none, (.move (.tmp 14))⟩]) .skip)) (.seq (.region false [⟨(some 15), none, (.move (.tmp 5))⟩, ⟨(some 4), none, (.move (.tmp
  15))⟩]) .ret))))
abbrev f58 := finF [(.tmp 4)] false
def c58 : AFn := .code 2 16 b58 [(.tmp 4)] false
-- 59
def b59 : ACode := (.seq (.region false [⟨(some 4), none, (.move (.const (.v (.int .i64 0))))⟩]) (.seq (.region false [⟨(some 5), none, (.move (.tmp 0))⟩, ⟨(some 6), none, (.move (.tmp 1))⟩, ⟨(some
  7), none, (.move (.tmp 0))⟩, ⟨(some 8), none, (.move (.tmp 1))⟩, ⟨(some 9), none, (.call false 45 [(.tmp 7), (.tmp 8)])⟩, ⟨(some 10), none, (.arith .mul (.tmp 6) (.tmp 9))⟩, ⟨(some 11), none,
  (.arith .sub (.tmp 5) (.tmp 10))⟩, ⟨(some 4), none, (.move (.tmp 11))⟩]) .ret))
abbrev f59 := finF [(.tmp 4)] false
def c59 : AFn := .code 2 12 b59 [(.tmp 4)] false

def tab : List (Option AFn) := [none, none, none, some c3, some c4, some c5, some c6, some c7, some c8, some c9, some c10, some c11, some c12, some c13, some c14, some c15, some c16, some c17, some
  c18, some c19, some c20, some c21, some c22, some c23, some c24, some c25, some c26, some c27, some c28, some c29, some c30, some c31, some c32, some c33, some c34, some c35, some c36, some c37,
  some c38, some c39, some c40, some c41, some c42, some c43, some c44, some c45, some c46, some c47, some c48, some c49, some c50, some c51, some c52, some c53, some c54, some c55, some c56, some
  c57, some c58, some c59]
def AP : FuncId → Option AFn := fun f => (tab[f]?).join

end Go.Ax.Sx.Sl
