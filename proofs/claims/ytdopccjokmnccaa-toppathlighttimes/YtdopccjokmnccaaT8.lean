/- The codes of the functions, as compFn gives them. -/
import Derived.Test.YtdopccjokmnccaaT7
namespace Go.Ax.Sx.Lt
open Go.Ax
def b_t_TopPathLightTimes : ACode := (.seq (.region false [⟨(some 1), none, (.box 13 (.tmp 0))⟩, ⟨(some 2), none, (.move (.const (.v (.bool false))))⟩]) (.seq (.seq (.region false [⟨(some 19), none,
  (.call false 4 [])⟩, ⟨(some 20), none, (.un .not (.tmp 19))⟩]) (.cond (.tmp 20) (.seq (.region false [⟨(some 2), none, (.move (.const (.v (.bool false))))⟩]) .ret) .skip)) (.seq (.seq (.region false
  [⟨none, none, (.reserve 2)⟩]) (.region true [⟨(some 21), none, (.fieldAddr 0 (.tmp 1))⟩, ⟨(some 22), none, (.loadr 2 true 2 (.tmp 21))⟩, ⟨(some 23), none, (.fcall true [[(.slice .nilS 0 []), (.v
  (.int .i64 0))], [(.slice .nilS 0 []), (.v (.int .i64 0))]] 5 [(.tmp 22)])⟩, ⟨(some 24), none, (.fieldAddr 2 (.tmp 1))⟩, ⟨(some 25), none, (.loadr 2 true 2 (.tmp 24))⟩, ⟨(some 26), none, (.fcall
  false [[(.slice .nilS 0 []), (.v (.int .i64 0))], [(.slice .nilS 0 []), (.v (.int .i64 0))]] 5 [(.tmp 25)])⟩, ⟨(some 3), none, (.slot 2 [(.slice .nilS 0 []), (.v (.int .i64 0))])⟩, ⟨(some 4), none,
  (.slot 1 [(.slice .nilS 0 []), (.v (.int .i64 0))])⟩, ⟨none, none, (.fill 2 2 (.tmp 3) (.tmp 23))⟩, ⟨none, none, (.fill 1 2 (.tmp 4) (.tmp 26))⟩])) (.seq (.region false [⟨(some 27), none,
  (.fieldAddr 1 (.tmp 3))⟩, ⟨none, none, (.store 1 (.tmp 27) (.const (.v (.int .i64 0))))⟩, ⟨(some 28), none, (.fieldAddr 1 (.tmp 4))⟩, ⟨none, none, (.store 1 (.tmp 28) (.const (.v (.int .i64 0))))⟩])
  (.seq (.seq (.region false [⟨(some 29), none, (.load true 2 (.tmp 3))⟩, ⟨(some 30), none, (.call false 6 [(.tmp 29)])⟩, ⟨(some 31), none, (.un .not (.tmp 30))⟩, ⟨(some 32), none, (.move (.tmp 31))⟩,
  ⟨(some 33), (some (32, false)), (.load true 2 (.tmp 4))⟩, ⟨(some 34), (some (32, false)), (.call false 6 [(.tmp 33)])⟩, ⟨(some 35), (some (32, false)), (.un .not (.tmp 34))⟩, ⟨(some 36), none,
  (.pick (.tmp 32) (.const (.v (.bool true))) (.tmp 35))⟩, ⟨(some 37), none, (.move (.tmp 36))⟩, ⟨(some 38), (some (37, false)), (.load true 2 (.tmp 3))⟩, ⟨(some 39), (some (37, false)), (.load true 2
  (.tmp 4))⟩, ⟨(some 40), (some (37, false)), (.call false 7 [(.tmp 38), (.tmp 39)])⟩, ⟨(some 41), (some (37, false)), (.arith .neq (.tmp 40) (.const (.v (.int .i64 0))))⟩, ⟨(some 42), none, (.pick
  (.tmp 37) (.const (.v (.bool true))) (.tmp 41))⟩, ⟨(some 43), none, (.move (.tmp 42))⟩, ⟨(some 44), (some (43, false)), (.fieldAddr 4 (.tmp 1))⟩, ⟨(some 45), (some (43, false)), (.indexAddr (some 2)
  1 (.tmp 44) (.const (.v (.int .i64 0))))⟩, ⟨(some 46), (some (43, false)), (.load false 1 (.tmp 45))⟩, ⟨(some 47), (some (43, false)), (.call false 8 [(.tmp 46), (.const (.v (.int .i64 0))), (.const
  (.v (.int .i64 1000)))])⟩, ⟨(some 48), (some (43, false)), (.un .not (.tmp 47))⟩, ⟨(some 49), none, (.pick (.tmp 43) (.const (.v (.bool true))) (.tmp 48))⟩, ⟨(some 50), none, (.move (.tmp 49))⟩,
  ⟨(some 51), (some (50, false)), (.fieldAddr 4 (.tmp 1))⟩, ⟨(some 52), (some (50, false)), (.indexAddr (some 2) 1 (.tmp 51) (.const (.v (.int .i64 1))))⟩, ⟨(some 53), (some (50, false)), (.load false
  1 (.tmp 52))⟩, ⟨(some 54), (some (50, false)), (.call false 8 [(.tmp 53), (.const (.v (.int .i64 0))), (.const (.v (.int .i64 1000)))])⟩, ⟨(some 55), (some (50, false)), (.un .not (.tmp 54))⟩,
  ⟨(some 56), none, (.pick (.tmp 50) (.const (.v (.bool true))) (.tmp 55))⟩, ⟨(some 57), none, (.move (.tmp 56))⟩, ⟨(some 58), (some (57, false)), (.fieldAddr 6 (.tmp 1))⟩, ⟨(some 59), (some (57,
  false)), (.indexAddr (some 2) 3 (.tmp 58) (.const (.v (.int .i64 0))))⟩, ⟨(some 60), (some (57, false)), (.load true 3 (.tmp 59))⟩, ⟨(some 61), (some (57, false)), (.fieldAddr 4 (.tmp 1))⟩, ⟨(some
  62), (some (57, false)), (.indexAddr (some 2) 1 (.tmp 61) (.const (.v (.int .i64 0))))⟩, ⟨(some 63), (some (57, false)), (.load false 1 (.tmp 62))⟩, ⟨(some 64), (some (57, false)), (.call false 9
  [(.tmp 60), (.tmp 63)])⟩, ⟨(some 65), (some (57, false)), (.un .not (.tmp 64))⟩, ⟨(some 66), none, (.pick (.tmp 57) (.const (.v (.bool true))) (.tmp 65))⟩, ⟨(some 67), none, (.move (.tmp 66))⟩,
  ⟨(some 68), (some (67, false)), (.fieldAddr 6 (.tmp 1))⟩, ⟨(some 69), (some (67, false)), (.indexAddr (some 2) 3 (.tmp 68) (.const (.v (.int .i64 1))))⟩, ⟨(some 70), (some (67, false)), (.load true
  3 (.tmp 69))⟩, ⟨(some 71), (some (67, false)), (.fieldAddr 4 (.tmp 1))⟩, ⟨(some 72), (some (67, false)), (.indexAddr (some 2) 1 (.tmp 71) (.const (.v (.int .i64 1))))⟩, ⟨(some 73), (some (67,
  false)), (.load false 1 (.tmp 72))⟩, ⟨(some 74), (some (67, false)), (.call false 9 [(.tmp 70), (.tmp 73)])⟩, ⟨(some 75), (some (67, false)), (.un .not (.tmp 74))⟩, ⟨(some 76), none, (.pick (.tmp
  67) (.const (.v (.bool true))) (.tmp 75))⟩, ⟨(some 77), none, (.move (.tmp 76))⟩, ⟨(some 78), (some (77, false)), (.load true 2 (.tmp 3))⟩, ⟨(some 79), (some (77, false)), (.load true 2 (.tmp 4))⟩,
  ⟨(some 80), (some (77, false)), (.fieldAddr 12 (.tmp 1))⟩, ⟨(some 81), (some (77, false)), (.load false 1 (.tmp 80))⟩, ⟨(some 82), (some (77, false)), (.call false 10 [(.tmp 78), (.tmp 79), (.tmp
  81)])⟩, ⟨(some 83), (some (77, false)), (.arith .neq (.tmp 82) (.const (.v (.int .i64 0))))⟩, ⟨(some 84), none, (.pick (.tmp 77) (.const (.v (.bool true))) (.tmp 83))⟩]) (.cond (.tmp 84) (.seq
  (.region false [⟨(some 2), none, (.move (.const (.v (.bool true))))⟩]) .ret) .skip)) (.seq (.seq (.region false [⟨none, none, (.reserve 2)⟩]) (.region true [⟨(some 85), none, (.loadr 2 true 2 (.tmp
  3))⟩, ⟨(some 86), none, (.fieldAddr 6 (.tmp 1))⟩, ⟨(some 87), none, (.indexAddr (some 2) 3 (.tmp 86) (.const (.v (.int .i64 0))))⟩, ⟨(some 88), none, (.loadr 2 true 3 (.tmp 87))⟩, ⟨(some 89), none,
  (.fieldAddr 4 (.tmp 1))⟩, ⟨(some 90), none, (.indexAddr (some 2) 1 (.tmp 89) (.const (.v (.int .i64 0))))⟩, ⟨(some 91), none, (.loadr 2 false 1 (.tmp 90))⟩, ⟨(some 92), none, (.fcall true [[(.slice
  .nilS 0 []), (.v (.int .i64 0))], [(.slice .nilS 0 []), (.v (.int .i64 0))]] 11 [(.tmp 85), (.tmp 88), (.tmp 91)])⟩, ⟨(some 93), none, (.loadr 2 true 2 (.tmp 4))⟩, ⟨(some 94), none, (.fieldAddr 6
  (.tmp 1))⟩, ⟨(some 95), none, (.indexAddr (some 2) 3 (.tmp 94) (.const (.v (.int .i64 1))))⟩, ⟨(some 96), none, (.loadr 2 true 3 (.tmp 95))⟩, ⟨(some 97), none, (.fieldAddr 4 (.tmp 1))⟩, ⟨(some 98),
  none, (.indexAddr (some 2) 1 (.tmp 97) (.const (.v (.int .i64 1))))⟩, ⟨(some 99), none, (.loadr 2 false 1 (.tmp 98))⟩, ⟨(some 100), none, (.fcall false [[(.slice .nilS 0 []), (.v (.int .i64 0))],
  [(.slice .nilS 0 []), (.v (.int .i64 0))]] 11 [(.tmp 93), (.tmp 96), (.tmp 99)])⟩, ⟨(some 5), none, (.slot 2 [(.slice .nilS 0 []), (.v (.int .i64 0))])⟩, ⟨(some 6), none, (.slot 1 [(.slice .nilS 0
  []), (.v (.int .i64 0))])⟩, ⟨none, none, (.fill 2 2 (.tmp 5) (.tmp 92))⟩, ⟨none, none, (.fill 1 2 (.tmp 6) (.tmp 100))⟩])) (.seq (.seq (.region false [⟨(some 101), none, (.load true 2 (.tmp 5))⟩,
  ⟨(some 102), none, (.load true 2 (.tmp 6))⟩, ⟨(some 103), none, (.call false 7 [(.tmp 101), (.tmp 102)])⟩, ⟨(some 104), none, (.arith .neq (.tmp 103) (.const (.v (.int .i64 0))))⟩]) (.cond (.tmp
  104) (.seq (.region false [⟨(some 2), none, (.move (.const (.v (.bool true))))⟩]) .ret) .skip)) (.seq (.seq (.region false [⟨none, none, (.reserve 1)⟩]) (.region true [⟨(some 106), none, (.loadr 1
  true 2 (.tmp 3))⟩, ⟨(some 107), none, (.fcall true [[(.v (.int .i64 0)), (.v (.int .i64 0))]] 5 [(.tmp 106)])⟩, ⟨(some 108), none, (.loadr 1 true 2 (.tmp 4))⟩, ⟨(some 109), none, (.fcall true [[(.v
  (.int .i64 0)), (.v (.int .i64 0))]] 5 [(.tmp 108)])⟩, ⟨(some 110), none, (.fieldAddr 12 (.tmp 1))⟩, ⟨(some 111), none, (.loadr 1 false 1 (.tmp 110))⟩, ⟨(some 112), none, (.fcall false [[(.v (.int
  .i64 0)), (.v (.int .i64 0))]] 12 [(.tmp 107), (.tmp 109), (.tmp 111)])⟩, ⟨(some 105), none, (.move (.tmp 112))⟩, ⟨(some 113), none, (.extract 0 (.tmp 105))⟩, ⟨(some 114), none, (.extract 1 (.tmp
  105))⟩, ⟨(some 7), none, (.slot 1 [(.v (.int .i64 0)), (.v (.int .i64 0))])⟩, ⟨none, none, (.fill 1 2 (.tmp 7) (.tmp 113))⟩, ⟨(some 8), none, (.move (.tmp 114))⟩])) (.seq (.seq (.region false
  [⟨none, none, (.reserve 1)⟩]) (.region true [⟨(some 116), none, (.loadr 1 true 2 (.tmp 5))⟩, ⟨(some 117), none, (.fcall true [[(.v (.int .i64 0)), (.v (.int .i64 0))]] 5 [(.tmp 116)])⟩, ⟨(some 118),
  none, (.loadr 1 true 2 (.tmp 6))⟩, ⟨(some 119), none, (.fcall true [[(.v (.int .i64 0)), (.v (.int .i64 0))]] 5 [(.tmp 118)])⟩, ⟨(some 120), none, (.fieldAddr 12 (.tmp 1))⟩, ⟨(some 121), none,
  (.loadr 1 false 1 (.tmp 120))⟩, ⟨(some 122), none, (.fcall false [[(.v (.int .i64 0)), (.v (.int .i64 0))]] 12 [(.tmp 117), (.tmp 119), (.tmp 121)])⟩, ⟨(some 115), none, (.move (.tmp 122))⟩, ⟨(some
  123), none, (.extract 0 (.tmp 115))⟩, ⟨(some 124), none, (.extract 1 (.tmp 115))⟩, ⟨(some 9), none, (.slot 1 [(.v (.int .i64 0)), (.v (.int .i64 0))])⟩, ⟨none, none, (.fill 1 2 (.tmp 9) (.tmp
  123))⟩, ⟨(some 10), none, (.move (.tmp 124))⟩])) (.seq (.seq (.region false [⟨(some 125), none, (.move (.tmp 8))⟩, ⟨(some 126), none, (.arith .neq (.tmp 125) (.const (.v (.int .i64 0))))⟩, ⟨(some
  127), none, (.move (.tmp 126))⟩, ⟨(some 128), (some (127, false)), (.move (.tmp 10))⟩, ⟨(some 129), (some (127, false)), (.arith .neq (.tmp 128) (.const (.v (.int .i64 0))))⟩, ⟨(some 130), none,
  (.pick (.tmp 127) (.const (.v (.bool true))) (.tmp 129))⟩, ⟨(some 131), none, (.move (.tmp 130))⟩, ⟨(some 132), (some (131, false)), (.fieldAddr 0 (.tmp 9))⟩, ⟨(some 133), (some (131, false)),
  (.load false 1 (.tmp 132))⟩, ⟨(some 134), (some (131, false)), (.fieldAddr 0 (.tmp 7))⟩, ⟨(some 135), (some (131, false)), (.load false 1 (.tmp 134))⟩, ⟨(some 136), (some (131, false)), (.arith .gtr
  (.tmp 133) (.tmp 135))⟩, ⟨(some 137), none, (.pick (.tmp 131) (.const (.v (.bool true))) (.tmp 136))⟩, ⟨(some 138), none, (.move (.tmp 137))⟩, ⟨(some 139), (some (138, false)), (.fieldAddr 1 (.tmp
  9))⟩, ⟨(some 140), (some (138, false)), (.load false 1 (.tmp 139))⟩, ⟨(some 141), (some (138, false)), (.fieldAddr 1 (.tmp 7))⟩, ⟨(some 142), (some (138, false)), (.load false 1 (.tmp 141))⟩, ⟨(some
  143), (some (138, false)), (.arith .lss (.tmp 140) (.tmp 142))⟩, ⟨(some 144), none, (.pick (.tmp 138) (.const (.v (.bool true))) (.tmp 143))⟩]) (.cond (.tmp 144) (.seq (.region false [⟨(some 2),
  none, (.move (.const (.v (.bool false))))⟩]) .ret) .skip)) (.seq (.seq (.region false [⟨none, none, (.reserve 1)⟩]) (.region true [⟨(some 146), none, (.loadr 1 true 2 (.tmp 5))⟩, ⟨(some 147), none,
  (.fcall true [[(.v (.int .i64 0)), (.v (.int .i64 0))]] 5 [(.tmp 146)])⟩, ⟨(some 148), none, (.loadr 1 true 2 (.tmp 6))⟩, ⟨(some 149), none, (.fcall true [[(.v (.int .i64 0)), (.v (.int .i64 0))]] 5
  [(.tmp 148)])⟩, ⟨(some 150), none, (.fieldAddr 12 (.tmp 1))⟩, ⟨(some 151), none, (.loadr 1 false 1 (.tmp 150))⟩, ⟨(some 152), none, (.fcall false [[(.v (.int .i64 0)), (.v (.int .i64 0))]] 13 [(.tmp
  147), (.tmp 149), (.tmp 151)])⟩, ⟨(some 145), none, (.move (.tmp 152))⟩, ⟨(some 153), none, (.extract 0 (.tmp 145))⟩, ⟨(some 154), none, (.extract 1 (.tmp 145))⟩, ⟨(some 11), none, (.slot 1 [(.v
  (.int .i64 0)), (.v (.int .i64 0))])⟩, ⟨none, none, (.fill 1 2 (.tmp 11) (.tmp 153))⟩, ⟨(some 12), none, (.move (.tmp 154))⟩])) (.seq (.seq (.region false [⟨(some 155), none, (.move (.tmp 12))⟩,
  ⟨(some 156), none, (.arith .neq (.tmp 155) (.const (.v (.int .i64 0))))⟩]) (.cond (.tmp 156) (.seq (.region false [⟨(some 157), none, (.move (.tmp 12))⟩, ⟨(some 158), none, (.arith .eql (.tmp 157)
  (.const (.v (.int .i64 12))))⟩, ⟨(some 2), none, (.move (.tmp 158))⟩]) .ret) .skip)) (.seq (.seq (.region false [⟨none, none, (.reserve 1)⟩]) (.region true [⟨(some 160), none, (.loadr 1 true 2 (.tmp
  3))⟩, ⟨(some 161), none, (.fcall true [[(.v (.int .i64 0)), (.v (.int .i64 0))]] 5 [(.tmp 160)])⟩, ⟨(some 162), none, (.loadr 1 true 2 (.tmp 4))⟩, ⟨(some 163), none, (.fcall true [[(.v (.int .i64
  0)), (.v (.int .i64 0))]] 5 [(.tmp 162)])⟩, ⟨(some 164), none, (.fieldAddr 12 (.tmp 1))⟩, ⟨(some 165), none, (.loadr 1 false 1 (.tmp 164))⟩, ⟨(some 166), none, (.fcall false [[(.v (.int .i64 0)),
  (.v (.int .i64 0))]] 13 [(.tmp 161), (.tmp 163), (.tmp 165)])⟩, ⟨(some 159), none, (.move (.tmp 166))⟩, ⟨(some 167), none, (.extract 0 (.tmp 159))⟩, ⟨(some 168), none, (.extract 1 (.tmp 159))⟩,
  ⟨(some 13), none, (.slot 1 [(.v (.int .i64 0)), (.v (.int .i64 0))])⟩, ⟨none, none, (.fill 1 2 (.tmp 13) (.tmp 167))⟩, ⟨(some 14), none, (.move (.tmp 168))⟩])) (.seq (.seq (.region false [⟨(some
  169), none, (.move (.tmp 14))⟩, ⟨(some 170), none, (.arith .neq (.tmp 169) (.const (.v (.int .i64 0))))⟩, ⟨(some 171), none, (.move (.tmp 170))⟩, ⟨(some 172), (some (171, false)), (.fieldAddr 0
  (.tmp 13))⟩, ⟨(some 173), (some (171, false)), (.load false 1 (.tmp 172))⟩, ⟨(some 174), (some (171, false)), (.fieldAddr 0 (.tmp 11))⟩, ⟨(some 175), (some (171, false)), (.load false 1 (.tmp
  174))⟩, ⟨(some 176), (some (171, false)), (.arith .lss (.tmp 173) (.tmp 175))⟩, ⟨(some 177), none, (.pick (.tmp 171) (.const (.v (.bool true))) (.tmp 176))⟩, ⟨(some 178), none, (.move (.tmp 177))⟩,
  ⟨(some 179), (some (178, false)), (.fieldAddr 1 (.tmp 13))⟩, ⟨(some 180), (some (178, false)), (.load false 1 (.tmp 179))⟩, ⟨(some 181), (some (178, false)), (.fieldAddr 1 (.tmp 11))⟩, ⟨(some 182),
  (some (178, false)), (.load false 1 (.tmp 181))⟩, ⟨(some 183), (some (178, false)), (.arith .gtr (.tmp 180) (.tmp 182))⟩, ⟨(some 184), none, (.pick (.tmp 178) (.const (.v (.bool true))) (.tmp
  183))⟩]) (.cond (.tmp 184) (.seq (.region false [⟨(some 2), none, (.move (.const (.v (.bool false))))⟩]) .ret) .skip)) (.seq (.seq (.region false [⟨none, none, (.reserve 1)⟩]) (.region true [⟨(some
  186), none, (.loadr 1 true 2 (.tmp 5))⟩, ⟨(some 187), none, (.fcall true [[(.v (.int .i64 0)), (.v (.int .i64 0))]] 5 [(.tmp 186)])⟩, ⟨(some 188), none, (.loadr 1 true 2 (.tmp 6))⟩, ⟨(some 189),
  none, (.fcall true [[(.v (.int .i64 0)), (.v (.int .i64 0))]] 5 [(.tmp 188)])⟩, ⟨(some 190), none, (.fieldAddr 12 (.tmp 1))⟩, ⟨(some 191), none, (.loadr 1 false 1 (.tmp 190))⟩, ⟨(some 192), none,
  (.fcall false [[(.v (.int .i64 0)), (.v (.int .i64 0))]] 14 [(.tmp 187), (.tmp 189), (.tmp 191)])⟩, ⟨(some 185), none, (.move (.tmp 192))⟩, ⟨(some 193), none, (.extract 0 (.tmp 185))⟩, ⟨(some 194),
  none, (.extract 1 (.tmp 185))⟩, ⟨(some 15), none, (.slot 1 [(.v (.int .i64 0)), (.v (.int .i64 0))])⟩, ⟨none, none, (.fill 1 2 (.tmp 15) (.tmp 193))⟩, ⟨(some 16), none, (.move (.tmp 194))⟩])) (.seq
  (.seq (.region false [⟨(some 195), none, (.move (.tmp 16))⟩, ⟨(some 196), none, (.arith .neq (.tmp 195) (.const (.v (.int .i64 0))))⟩]) (.cond (.tmp 196) (.seq (.region false [⟨(some 197), none,
  (.move (.tmp 16))⟩, ⟨(some 198), none, (.arith .eql (.tmp 197) (.const (.v (.int .i64 12))))⟩, ⟨(some 199), none, (.move (.tmp 198))⟩, ⟨(some 200), (some (199, false)), (.move (.tmp 16))⟩, ⟨(some
  201), (some (199, false)), (.arith .eql (.tmp 200) (.const (.v (.int .i64 2))))⟩, ⟨(some 202), none, (.pick (.tmp 199) (.const (.v (.bool true))) (.tmp 201))⟩, ⟨(some 2), none, (.move (.tmp 202))⟩])
  .ret) .skip)) (.seq (.seq (.region false [⟨none, none, (.reserve 1)⟩]) (.region true [⟨(some 204), none, (.loadr 1 true 2 (.tmp 3))⟩, ⟨(some 205), none, (.fcall true [[(.v (.int .i64 0)), (.v (.int
  .i64 0))]] 5 [(.tmp 204)])⟩, ⟨(some 206), none, (.loadr 1 true 2 (.tmp 4))⟩, ⟨(some 207), none, (.fcall true [[(.v (.int .i64 0)), (.v (.int .i64 0))]] 5 [(.tmp 206)])⟩, ⟨(some 208), none,
  (.fieldAddr 12 (.tmp 1))⟩, ⟨(some 209), none, (.loadr 1 false 1 (.tmp 208))⟩, ⟨(some 210), none, (.fcall false [[(.v (.int .i64 0)), (.v (.int .i64 0))]] 14 [(.tmp 205), (.tmp 207), (.tmp 209)])⟩,
  ⟨(some 203), none, (.move (.tmp 210))⟩, ⟨(some 211), none, (.extract 0 (.tmp 203))⟩, ⟨(some 212), none, (.extract 1 (.tmp 203))⟩, ⟨(some 17), none, (.slot 1 [(.v (.int .i64 0)), (.v (.int .i64
  0))])⟩, ⟨none, none, (.fill 1 2 (.tmp 17) (.tmp 211))⟩, ⟨(some 18), none, (.move (.tmp 212))⟩])) (.seq (.region false [⟨(some 213), none, (.move (.tmp 18))⟩, ⟨(some 214), none, (.arith .eql (.tmp
  213) (.const (.v (.int .i64 0))))⟩, ⟨(some 215), none, (.move (.tmp 214))⟩, ⟨(some 216), (some (215, true)), (.fieldAddr 0 (.tmp 15))⟩, ⟨(some 217), (some (215, true)), (.load false 1 (.tmp 216))⟩,
  ⟨(some 218), (some (215, true)), (.fieldAddr 0 (.tmp 17))⟩, ⟨(some 219), (some (215, true)), (.load false 1 (.tmp 218))⟩, ⟨(some 220), (some (215, true)), (.arith .leq (.tmp 217) (.tmp 219))⟩,
  ⟨(some 221), none, (.pick (.tmp 215) (.tmp 220) (.const (.v (.bool false))))⟩, ⟨(some 222), none, (.move (.tmp 221))⟩, ⟨(some 223), (some (222, true)), (.fieldAddr 1 (.tmp 17))⟩, ⟨(some 224), (some
  (222, true)), (.load false 1 (.tmp 223))⟩, ⟨(some 225), (some (222, true)), (.fieldAddr 1 (.tmp 15))⟩, ⟨(some 226), (some (222, true)), (.load false 1 (.tmp 225))⟩, ⟨(some 227), (some (222, true)),
  (.arith .leq (.tmp 224) (.tmp 226))⟩, ⟨(some 228), none, (.pick (.tmp 222) (.tmp 227) (.const (.v (.bool false))))⟩, ⟨(some 2), none, (.move (.tmp 228))⟩]) .ret))))))))))))))))))
def c_t_TopPathLightTimes : AFn := .code 1 229 b_t_TopPathLightTimes [(.tmp 2)] false
def b_t_pathAwake : ACode := (.seq (.region false [⟨(some 0), none, (.move (.const (.v (.bool false))))⟩]) (.seq (.region false [⟨(some 6), none, (.call false 15 [])⟩, ⟨(some 7), none, (.call false 16
  [])⟩, ⟨(some 8), none, (.call false 12 [(.tmp 6), (.tmp 7), (.const (.v (.int .i64 500)))])⟩, ⟨(some 5), none, (.move (.tmp 8))⟩, ⟨(some 9), none, (.extract 0 (.tmp 5))⟩, ⟨(some 10), none, (.extract
  1 (.tmp 5))⟩, ⟨(some 1), none, (.alloc [(.v (.int .i64 0)), (.v (.int .i64 0))])⟩, ⟨none, none, (.store 2 (.tmp 1) (.tmp 9))⟩, ⟨(some 2), none, (.move (.tmp 10))⟩]) (.seq (.region false [⟨(some 12),
  none, (.call false 15 [])⟩, ⟨(some 13), none, (.call false 16 [])⟩, ⟨(some 14), none, (.call false 13 [(.tmp 12), (.tmp 13), (.const (.v (.int .i64 0)))])⟩, ⟨(some 11), none, (.move (.tmp 14))⟩,
  ⟨(some 15), none, (.extract 0 (.tmp 11))⟩, ⟨(some 16), none, (.extract 1 (.tmp 11))⟩, ⟨(some 3), none, (.alloc [(.v (.int .i64 0)), (.v (.int .i64 0))])⟩, ⟨none, none, (.store 2 (.tmp 3) (.tmp
  15))⟩, ⟨(some 4), none, (.move (.tmp 16))⟩]) (.seq (.region false [⟨(some 17), none, (.move (.tmp 2))⟩, ⟨(some 18), none, (.arith .eql (.tmp 17) (.const (.v (.int .i64 0))))⟩, ⟨(some 19), none,
  (.move (.tmp 18))⟩, ⟨(some 20), (some (19, true)), (.load true 2 (.tmp 1))⟩, ⟨(some 21), (some (19, true)), (.build [(.v (.int .i64 0)), (.v (.int .i64 0))] [(0, (1, (.const (.v (.int .i64 750))))),
  (1, (1, (.const (.v (.int .i64 750)))))])⟩, ⟨(some 22), (some (19, true)), (.eqv false (.agg [.int, .int]) (.tmp 20) (.tmp 21))⟩, ⟨(some 23), none, (.pick (.tmp 19) (.tmp 22) (.const (.v (.bool
  false))))⟩, ⟨(some 24), none, (.move (.tmp 23))⟩, ⟨(some 25), (some (24, true)), (.move (.tmp 4))⟩, ⟨(some 26), (some (24, true)), (.arith .eql (.tmp 25) (.const (.v (.int .i64 0))))⟩, ⟨(some 27),
  none, (.pick (.tmp 24) (.tmp 26) (.const (.v (.bool false))))⟩, ⟨(some 28), none, (.move (.tmp 27))⟩, ⟨(some 29), (some (28, true)), (.load true 2 (.tmp 3))⟩, ⟨(some 30), (some (28, true)), (.build
  [(.v (.int .i64 0)), (.v (.int .i64 0))] [(0, (1, (.const (.v (.int .i64 999))))), (1, (1, (.const (.v (.int .i64 1000)))))])⟩, ⟨(some 31), (some (28, true)), (.eqv false (.agg [.int, .int]) (.tmp
  29) (.tmp 30))⟩, ⟨(some 32), none, (.pick (.tmp 28) (.tmp 31) (.const (.v (.bool false))))⟩, ⟨(some 0), none, (.move (.tmp 32))⟩]) .ret))))
def c_t_pathAwake : AFn := .code 0 33 b_t_pathAwake [(.tmp 0)] false
def b_r_Copy : ACode := (.seq (.region false [⟨(some 1), none, (.box 2 (.tmp 0))⟩, ⟨(some 2), none, (.alloc [(.slice .nilS 0 []), (.v (.int .i64 0))])⟩]) (.seq (.seq (.region false [⟨none, none,
  (.reserve 1)⟩]) (.region true [⟨(some 3), none, (.buildSlice 4 [] [])⟩, ⟨(some 4), none, (.fieldAddr 0 (.tmp 1))⟩, ⟨(some 5), none, (.loadd false 1 (.tmp 4))⟩, ⟨(some 6), none, (.appendf 4 (.tmp 3)
  (.tmp 5))⟩, ⟨(some 7), none, (.fieldAddr 1 (.tmp 1))⟩, ⟨(some 8), none, (.loadd false 1 (.tmp 7))⟩, ⟨(some 9), none, (.build [(.slice .nilS 0 []), (.v (.int .i64 0))] [(0, (1, (.tmp 6))), (1, (1,
  (.tmp 8)))])⟩, ⟨none, none, (.store 2 (.tmp 2) (.tmp 9))⟩])) .ret))
def c_r_Copy : AFn := .code 1 10 b_r_Copy [(.cell true 2 2)] false
def b_l_Few : ACode := (.seq (.region false [⟨(some 1), none, (.box 2 (.tmp 0))⟩, ⟨(some 2), none, (.move (.const (.v (.bool false))))⟩]) (.seq (.region false [⟨(some 3), none, (.fieldAddr 0 (.tmp
 1))⟩, ⟨(some 4), none, (.load false 1 (.tmp 3))⟩, ⟨(some 5), none, (.len false (.tmp 4))⟩, ⟨(some 6), none, (.arith .leq (.tmp 5) (.const (.v (.int .i64 14))))⟩, ⟨(some 2), none, (.move (.tmp 6))⟩])
 .ret))
def c_l_Few : AFn := .code 1 7 b_l_Few [(.tmp 2)] false
def b_r_BothErr : ACode := (.seq (.region false [⟨(some 2), none, (.box 2 (.tmp 0))⟩, ⟨(some 3), none, (.box 2 (.tmp 1))⟩, ⟨(some 4), none, (.move (.const (.v (.int .i64 0))))⟩]) (.seq (.seq (.region
 false [⟨(some 6), none, (.load true 2 (.tmp 2))⟩, ⟨(some 7), none, (.call false 17 [(.tmp 6)])⟩, ⟨(some 5), none, (.move (.tmp 7))⟩]) (.seq (.region false [⟨(some 8), none, (.move (.tmp 5))⟩, ⟨(some
 9), none, (.arith .neq (.tmp 8) (.const (.v (.int .i64 0))))⟩]) (.cond (.tmp 9) (.seq (.region false [⟨(some 10), none, (.move (.tmp 5))⟩, ⟨(some 4), none, (.move (.tmp 10))⟩]) .ret) .skip))) (.seq
 (.region false [⟨(some 11), none, (.load true 2 (.tmp 3))⟩, ⟨(some 12), none, (.call false 17 [(.tmp 11)])⟩, ⟨(some 4), none, (.move (.tmp 12))⟩]) .ret)))
def c_r_BothErr : AFn := .code 2 13 b_r_BothErr [(.tmp 4)] false
def b_b_Within : ACode := (.seq (.region false [⟨(some 6), none, (.move (.const (.v (.bool false))))⟩]) (.seq (.region false [⟨(some 7), none, (.move (.tmp 1))⟩, ⟨(some 8), none, (.move (.tmp 0))⟩,
 ⟨(some 9), none, (.arith .leq (.tmp 7) (.tmp 8))⟩, ⟨(some 10), none, (.move (.tmp 9))⟩, ⟨(some 11), (some (10, true)), (.move (.tmp 0))⟩, ⟨(some 12), (some (10, true)), (.move (.tmp 2))⟩, ⟨(some
 13), (some (10, true)), (.arith .leq (.tmp 11) (.tmp 12))⟩, ⟨(some 14), none, (.pick (.tmp 10) (.tmp 13) (.const (.v (.bool false))))⟩, ⟨(some 6), none, (.move (.tmp 14))⟩]) .ret))
def c_b_Within : AFn := .code 3 15 b_b_Within [(.tmp 6)] false
def b_t_pathWithin : ACode := (.seq (.region false [⟨(some 2), none, (.box 3 (.tmp 0))⟩, ⟨(some 4), none, (.move (.const (.v (.bool false))))⟩]) (.seq (.region false [⟨(some 5), none, (.fieldAddr 0
  (.tmp 2))⟩, ⟨(some 6), none, (.load false 1 (.tmp 5))⟩, ⟨(some 7), none, (.move (.tmp 1))⟩, ⟨(some 8), none, (.un .neg (.tmp 7))⟩, ⟨(some 9), none, (.move (.tmp 1))⟩, ⟨(some 10), none, (.call false
  8 [(.tmp 6), (.tmp 8), (.tmp 9)])⟩, ⟨(some 11), none, (.move (.tmp 10))⟩, ⟨(some 12), (some (11, true)), (.fieldAddr 1 (.tmp 2))⟩, ⟨(some 13), (some (11, true)), (.load false 1 (.tmp 12))⟩, ⟨(some
  14), (some (11, true)), (.move (.tmp 1))⟩, ⟨(some 15), (some (11, true)), (.un .neg (.tmp 14))⟩, ⟨(some 16), (some (11, true)), (.move (.tmp 1))⟩, ⟨(some 17), (some (11, true)), (.call false 8
  [(.tmp 13), (.tmp 15), (.tmp 16)])⟩, ⟨(some 18), none, (.pick (.tmp 11) (.tmp 17) (.const (.v (.bool false))))⟩, ⟨(some 19), none, (.move (.tmp 18))⟩, ⟨(some 20), (some (19, true)), (.fieldAddr 2
  (.tmp 2))⟩, ⟨(some 21), (some (19, true)), (.load false 1 (.tmp 20))⟩, ⟨(some 22), (some (19, true)), (.move (.tmp 1))⟩, ⟨(some 23), (some (19, true)), (.un .neg (.tmp 22))⟩, ⟨(some 24), (some (19,
  true)), (.move (.tmp 1))⟩, ⟨(some 25), (some (19, true)), (.call false 8 [(.tmp 21), (.tmp 23), (.tmp 24)])⟩, ⟨(some 26), none, (.pick (.tmp 19) (.tmp 25) (.const (.v (.bool false))))⟩, ⟨(some 4),
  none, (.move (.tmp 26))⟩]) .ret))
def c_t_pathWithin : AFn := .code 2 27 b_t_pathWithin [(.tmp 4)] false
def b_r_TimesErr : ACode := (.seq (.region false [⟨(some 3), none, (.box 2 (.tmp 0))⟩, ⟨(some 4), none, (.box 2 (.tmp 1))⟩, ⟨(some 6), none, (.move (.const (.v (.int .i64 0))))⟩]) (.seq (.seq (.region
 false [⟨(some 8), none, (.load true 2 (.tmp 3))⟩, ⟨(some 9), none, (.move (.tmp 2))⟩, ⟨(some 10), none, (.call false 18 [(.tmp 8), (.tmp 9)])⟩, ⟨(some 7), none, (.move (.tmp 10))⟩]) (.seq (.region
 false [⟨(some 11), none, (.move (.tmp 7))⟩, ⟨(some 12), none, (.arith .neq (.tmp 11) (.const (.v (.int .i64 0))))⟩]) (.cond (.tmp 12) (.seq (.region false [⟨(some 13), none, (.move (.tmp 7))⟩,
 ⟨(some 6), none, (.move (.tmp 13))⟩]) .ret) .skip))) (.seq (.region false [⟨(some 14), none, (.load true 2 (.tmp 4))⟩, ⟨(some 15), none, (.move (.tmp 2))⟩, ⟨(some 16), none, (.call false 18 [(.tmp
 14), (.tmp 15)])⟩, ⟨(some 6), none, (.move (.tmp 16))⟩]) .ret)))
def c_r_TimesErr : AFn := .code 3 17 b_r_TimesErr [(.tmp 6)] false
def b_t_pathShifted_r0 : ACode := (.seq (.region false [⟨(some 48), none, (.load true 2 (.tmp 7))⟩, ⟨none, none, (.store 2 (.tmp 6) (.tmp 48))⟩]) .ret)
def b_t_pathShifted_l0 : ACode := (.seq (.seq (.region false [⟨(some 14), none, (.move (.tmp 8))⟩, ⟨(some 15), none, (.fieldAddr 0 (.tmp 7))⟩, ⟨(some 16), none, (.load false 1 (.tmp 15))⟩, ⟨(some 17),
  none, (.len false (.tmp 16))⟩, ⟨(some 18), none, (.arith .lss (.tmp 14) (.tmp 17))⟩]) (.cond (.tmp 18) .skip (.exit 0))) (.seq (.block 1 (.seq (.region false [⟨(some 21), none, (.fieldAddr 0 (.tmp
  7))⟩, ⟨(some 22), none, (.load false 1 (.tmp 21))⟩, ⟨(some 23), none, (.move (.tmp 8))⟩, ⟨(some 24), none, (.indexAddr none 4 (.tmp 22) (.tmp 23))⟩, ⟨(some 25), none, (.fieldAddr 1 (.tmp 24))⟩,
  ⟨(some 26), none, (.load true 3 (.tmp 25))⟩, ⟨(some 9), none, (.alloc [(.v (.int .i64 0)), (.v (.int .i64 0)), (.v (.int .i64 0))])⟩, ⟨none, none, (.store 3 (.tmp 9) (.tmp 26))⟩]) (.region false
  [⟨(some 27), none, (.fieldAddr 0 (.tmp 7))⟩, ⟨(some 28), none, (.load false 1 (.tmp 27))⟩, ⟨(some 29), none, (.move (.tmp 8))⟩, ⟨(some 30), none, (.fieldAddr 0 (.tmp 9))⟩, ⟨(some 31), none, (.load
  false 1 (.tmp 30))⟩, ⟨(some 32), none, (.fieldAddr 0 (.tmp 4))⟩, ⟨(some 33), none, (.load false 1 (.tmp 32))⟩, ⟨(some 34), none, (.arith .add (.tmp 31) (.tmp 33))⟩, ⟨(some 35), none, (.fieldAddr 1
  (.tmp 9))⟩, ⟨(some 36), none, (.load false 1 (.tmp 35))⟩, ⟨(some 37), none, (.fieldAddr 1 (.tmp 4))⟩, ⟨(some 38), none, (.load false 1 (.tmp 37))⟩, ⟨(some 39), none, (.arith .add (.tmp 36) (.tmp
  38))⟩, ⟨(some 40), none, (.fieldAddr 2 (.tmp 9))⟩, ⟨(some 41), none, (.load false 1 (.tmp 40))⟩, ⟨(some 42), none, (.fieldAddr 2 (.tmp 4))⟩, ⟨(some 43), none, (.load false 1 (.tmp 42))⟩, ⟨(some 44),
  none, (.arith .add (.tmp 41) (.tmp 43))⟩, ⟨(some 45), none, (.build [(.v (.int .i64 0)), (.v (.int .i64 0)), (.v (.int .i64 0))] [(0, (1, (.tmp 34))), (1, (1, (.tmp 39))), (2, (1, (.tmp 44)))])⟩,
  ⟨(some 46), none, (.indexAddr none 4 (.tmp 28) (.tmp 29))⟩, ⟨(some 47), none, (.fieldAddr 1 (.tmp 46))⟩, ⟨none, none, (.store 3 (.tmp 47) (.tmp 45))⟩]))) (.region false [⟨(some 19), none, (.move
  (.tmp 8))⟩, ⟨(some 20), none, (.arith .add (.tmp 19) (.const (.v (.int .i64 1))))⟩, ⟨(some 8), none, (.move (.tmp 20))⟩])))
def b_t_pathShifted : ACode := (.seq (.region false [⟨(some 3), none, (.box 2 (.tmp 0))⟩, ⟨(some 4), none, (.box 3 (.tmp 1))⟩, ⟨(some 6), none, (.alloc [(.slice .nilS 0 []), (.v (.int .i64 0))])⟩])
  (.seq (.region false [⟨(some 10), none, (.load true 2 (.tmp 3))⟩, ⟨(some 11), none, (.calli 5 [(.tmp 10)])⟩, ⟨(some 7), none, (.alloc [(.slice .nilS 0 []), (.v (.int .i64 0))])⟩, ⟨none, none,
  (.store 2 (.tmp 7) (.tmp 11))⟩]) (.seq (.region false [⟨(some 12), none, (.move (.tmp 2))⟩, ⟨(some 13), none, (.fieldAddr 1 (.tmp 7))⟩, ⟨none, none, (.store 1 (.tmp 13) (.tmp 12))⟩]) (.seq (.seq
  (.region false [⟨(some 8), none, (.move (.const (.v (.int .i64 0))))⟩]) (.block 0 (.loop b_t_pathShifted_l0))) b_t_pathShifted_r0))))
abbrev k_t_pathShifted_0 : List K := [.blk 0, .c b_t_pathShifted_r0]
abbrev f_t_pathShifted := finF [(.cell true 2 6)] false
def c_t_pathShifted : AFn := .code 3 49 b_t_pathShifted [(.cell true 2 6)] false
def b_path_DistanceAt : ACode := (.seq (.region false [⟨(some 3), none, (.box 2 (.tmp 0))⟩, ⟨(some 4), none, (.box 2 (.tmp 1))⟩, ⟨(some 6), none, (.alloc [(.v (.int .i64 0)), (.v (.int .i64 0))])⟩,
 ⟨(some 7), none, (.move (.const (.v (.int .i64 0))))⟩]) (.seq (.seq (.region false [⟨(some 10), none, (.load true 2 (.tmp 3))⟩, ⟨(some 11), none, (.load true 2 (.tmp 4))⟩, ⟨(some 12), none,
 (.buildSlice 2 [[(.slice .nilS 0 []), (.v (.int .i64 0))], [(.slice .nilS 0 []), (.v (.int .i64 0))]] [(0, (.tmp 10)), (1, (.tmp 11))])⟩, ⟨(some 13), none, (.call false 19 [(.tmp 12)])⟩, ⟨(some 8),
 none, (.move (.tmp 13))⟩]) (.seq (.region false [⟨(some 14), none, (.move (.tmp 8))⟩, ⟨(some 15), none, (.arith .neq (.tmp 14) (.const (.v (.int .i64 0))))⟩]) (.cond (.tmp 15) (.seq (.region false
 [⟨(some 16), none, (.build [(.v (.int .i64 0)), (.v (.int .i64 0))] [])⟩, ⟨(some 17), none, (.move (.tmp 8))⟩, ⟨none, none, (.store 2 (.tmp 6) (.tmp 16))⟩, ⟨(some 7), none, (.move (.tmp 17))⟩])
 .ret) .skip))) (.seq (.seq (.region false [⟨(some 18), none, (.move (.tmp 2))⟩, ⟨(some 19), none, (.load true 2 (.tmp 3))⟩, ⟨(some 20), none, (.load true 2 (.tmp 4))⟩, ⟨(some 21), none, (.buildSlice
 2 [[(.slice .nilS 0 []), (.v (.int .i64 0))], [(.slice .nilS 0 []), (.v (.int .i64 0))]] [(0, (.tmp 19)), (1, (.tmp 20))])⟩, ⟨(some 22), none, (.call false 20 [(.tmp 18), (.tmp 21)])⟩, ⟨(some 9),
 none, (.move (.tmp 22))⟩]) (.seq (.region false [⟨(some 23), none, (.move (.tmp 9))⟩, ⟨(some 24), none, (.arith .neq (.tmp 23) (.const (.v (.int .i64 0))))⟩]) (.cond (.tmp 24) (.seq (.region false
 [⟨(some 25), none, (.build [(.v (.int .i64 0)), (.v (.int .i64 0))] [])⟩, ⟨(some 26), none, (.move (.tmp 9))⟩, ⟨none, none, (.store 2 (.tmp 6) (.tmp 25))⟩, ⟨(some 7), none, (.move (.tmp 26))⟩])
 .ret) .skip))) (.seq (.region false [⟨(some 27), none, (.load true 2 (.tmp 3))⟩, ⟨(some 28), none, (.move (.tmp 2))⟩, ⟨(some 29), none, (.load true 2 (.tmp 4))⟩, ⟨(some 30), none, (.move (.tmp 2))⟩,
 ⟨(some 31), none, (.call false 21 [(.tmp 27), (.tmp 28), (.tmp 29), (.tmp 30)])⟩, ⟨(some 32), none, (.call false 22 [(.tmp 31)])⟩, ⟨none, none, (.store 2 (.tmp 6) (.tmp 32))⟩, ⟨(some 7), none,
 (.move (.const (.v (.int .i64 0))))⟩]) .ret))))
def c_path_DistanceAt : AFn := .code 3 33 b_path_DistanceAt [(.cell true 2 6), (.tmp 7)] false
def b_path_ReceivedAt : ACode := (.seq (.region false [⟨(some 3), none, (.box 2 (.tmp 0))⟩, ⟨(some 4), none, (.box 2 (.tmp 1))⟩, ⟨(some 6), none, (.alloc [(.v (.int .i64 0)), (.v (.int .i64 0))])⟩,
 ⟨(some 7), none, (.move (.const (.v (.int .i64 0))))⟩]) (.seq (.seq (.region false [⟨(some 10), none, (.load true 2 (.tmp 3))⟩, ⟨(some 11), none, (.load true 2 (.tmp 4))⟩, ⟨(some 12), none,
 (.buildSlice 2 [[(.slice .nilS 0 []), (.v (.int .i64 0))], [(.slice .nilS 0 []), (.v (.int .i64 0))]] [(0, (.tmp 10)), (1, (.tmp 11))])⟩, ⟨(some 13), none, (.call false 19 [(.tmp 12)])⟩, ⟨(some 8),
 none, (.move (.tmp 13))⟩]) (.seq (.region false [⟨(some 14), none, (.move (.tmp 8))⟩, ⟨(some 15), none, (.arith .neq (.tmp 14) (.const (.v (.int .i64 0))))⟩]) (.cond (.tmp 15) (.seq (.region false
 [⟨(some 16), none, (.build [(.v (.int .i64 0)), (.v (.int .i64 0))] [])⟩, ⟨(some 17), none, (.move (.tmp 8))⟩, ⟨none, none, (.store 2 (.tmp 6) (.tmp 16))⟩, ⟨(some 7), none, (.move (.tmp 17))⟩])
 .ret) .skip))) (.seq (.seq (.region false [⟨(some 18), none, (.move (.tmp 2))⟩, ⟨(some 19), none, (.load true 2 (.tmp 3))⟩, ⟨(some 20), none, (.load true 2 (.tmp 4))⟩, ⟨(some 21), none, (.buildSlice
 2 [[(.slice .nilS 0 []), (.v (.int .i64 0))], [(.slice .nilS 0 []), (.v (.int .i64 0))]] [(0, (.tmp 19)), (1, (.tmp 20))])⟩, ⟨(some 22), none, (.call false 20 [(.tmp 18), (.tmp 21)])⟩, ⟨(some 9),
 none, (.move (.tmp 22))⟩]) (.seq (.region false [⟨(some 23), none, (.move (.tmp 9))⟩, ⟨(some 24), none, (.arith .neq (.tmp 23) (.const (.v (.int .i64 0))))⟩]) (.cond (.tmp 24) (.seq (.region false
 [⟨(some 25), none, (.build [(.v (.int .i64 0)), (.v (.int .i64 0))] [])⟩, ⟨(some 26), none, (.move (.tmp 9))⟩, ⟨none, none, (.store 2 (.tmp 6) (.tmp 25))⟩, ⟨(some 7), none, (.move (.tmp 26))⟩])
 .ret) .skip))) (.seq (.region false [⟨(some 27), none, (.load true 2 (.tmp 3))⟩, ⟨(some 28), none, (.load true 2 (.tmp 4))⟩, ⟨(some 29), none, (.move (.tmp 2))⟩, ⟨(some 30), none, (.call false 23
 [(.tmp 27), (.tmp 28), (.tmp 29)])⟩, ⟨(some 31), none, (.extract 0 (.tmp 30))⟩, ⟨(some 32), none, (.extract 1 (.tmp 30))⟩, ⟨none, none, (.store 2 (.tmp 6) (.tmp 31))⟩, ⟨(some 7), none, (.move (.tmp
 32))⟩]) .ret))))
def c_path_ReceivedAt : AFn := .code 3 33 b_path_ReceivedAt [(.cell true 2 6), (.tmp 7)] false
def b_path_RoundTrip : ACode := (.seq (.region false [⟨(some 3), none, (.box 2 (.tmp 0))⟩, ⟨(some 4), none, (.box 2 (.tmp 1))⟩, ⟨(some 6), none, (.alloc [(.v (.int .i64 0)), (.v (.int .i64 0))])⟩,
  ⟨(some 7), none, (.move (.const (.v (.int .i64 0))))⟩]) (.seq (.region false [⟨(some 14), none, (.load true 2 (.tmp 3))⟩, ⟨(some 15), none, (.load true 2 (.tmp 4))⟩, ⟨(some 16), none, (.move (.tmp
  2))⟩, ⟨(some 17), none, (.call false 13 [(.tmp 14), (.tmp 15), (.tmp 16)])⟩, ⟨(some 13), none, (.move (.tmp 17))⟩, ⟨(some 18), none, (.extract 0 (.tmp 13))⟩, ⟨(some 19), none, (.extract 1 (.tmp
  13))⟩, ⟨(some 8), none, (.alloc [(.v (.int .i64 0)), (.v (.int .i64 0))])⟩, ⟨none, none, (.store 2 (.tmp 8) (.tmp 18))⟩, ⟨(some 9), none, (.move (.tmp 19))⟩]) (.seq (.seq (.region false [⟨(some 20),
  none, (.move (.tmp 9))⟩, ⟨(some 21), none, (.arith .neq (.tmp 20) (.const (.v (.int .i64 0))))⟩]) (.cond (.tmp 21) (.seq (.region false [⟨(some 22), none, (.build [(.v (.int .i64 0)), (.v (.int .i64
  0))] [])⟩, ⟨(some 23), none, (.move (.tmp 9))⟩, ⟨none, none, (.store 2 (.tmp 6) (.tmp 22))⟩, ⟨(some 7), none, (.move (.tmp 23))⟩]) .ret) .skip)) (.seq (.region false [⟨(some 25), none, (.load true 2
  (.tmp 4))⟩, ⟨(some 26), none, (.load true 2 (.tmp 3))⟩, ⟨(some 27), none, (.fieldAddr 0 (.tmp 8))⟩, ⟨(some 28), none, (.load false 1 (.tmp 27))⟩, ⟨(some 29), none, (.call false 13 [(.tmp 25), (.tmp
  26), (.tmp 28)])⟩, ⟨(some 24), none, (.move (.tmp 29))⟩, ⟨(some 30), none, (.extract 0 (.tmp 24))⟩, ⟨(some 31), none, (.extract 1 (.tmp 24))⟩, ⟨(some 10), none, (.alloc [(.v (.int .i64 0)), (.v
  (.int .i64 0))])⟩, ⟨none, none, (.store 2 (.tmp 10) (.tmp 30))⟩, ⟨(some 9), none, (.move (.tmp 31))⟩]) (.seq (.region false [⟨(some 33), none, (.load true 2 (.tmp 4))⟩, ⟨(some 34), none, (.load true
  2 (.tmp 3))⟩, ⟨(some 35), none, (.fieldAddr 1 (.tmp 8))⟩, ⟨(some 36), none, (.load false 1 (.tmp 35))⟩, ⟨(some 37), none, (.call false 13 [(.tmp 33), (.tmp 34), (.tmp 36)])⟩, ⟨(some 32), none,
  (.move (.tmp 37))⟩, ⟨(some 38), none, (.extract 0 (.tmp 32))⟩, ⟨(some 39), none, (.extract 1 (.tmp 32))⟩, ⟨(some 11), none, (.alloc [(.v (.int .i64 0)), (.v (.int .i64 0))])⟩, ⟨none, none, (.store 2
  (.tmp 11) (.tmp 38))⟩, ⟨(some 12), none, (.move (.tmp 39))⟩]) (.seq (.seq (.region false [⟨(some 40), none, (.move (.tmp 9))⟩, ⟨(some 41), none, (.move (.tmp 12))⟩, ⟨(some 42), none, (.buildSlice 1
  [[(.v (.int .i64 0))], [(.v (.int .i64 0))]] [(0, (.tmp 40)), (1, (.tmp 41))])⟩, ⟨(some 43), none, (.call false 24 [(.tmp 42)])⟩, ⟨(some 9), none, (.move (.tmp 43))⟩]) (.seq (.region false [⟨(some
  44), none, (.move (.tmp 9))⟩, ⟨(some 45), none, (.arith .neq (.tmp 44) (.const (.v (.int .i64 0))))⟩]) (.cond (.tmp 45) (.seq (.region false [⟨(some 46), none, (.build [(.v (.int .i64 0)), (.v (.int
  .i64 0))] [])⟩, ⟨(some 47), none, (.move (.tmp 9))⟩, ⟨none, none, (.store 2 (.tmp 6) (.tmp 46))⟩, ⟨(some 7), none, (.move (.tmp 47))⟩]) .ret) .skip))) (.seq (.region false [⟨(some 48), none,
  (.fieldAddr 0 (.tmp 10))⟩, ⟨(some 49), none, (.load false 1 (.tmp 48))⟩, ⟨(some 50), none, (.fieldAddr 1 (.tmp 11))⟩, ⟨(some 51), none, (.load false 1 (.tmp 50))⟩, ⟨(some 52), none, (.build [(.v
  (.int .i64 0)), (.v (.int .i64 0))] [(0, (1, (.tmp 49))), (1, (1, (.tmp 51)))])⟩, ⟨none, none, (.store 2 (.tmp 6) (.tmp 52))⟩, ⟨(some 7), none, (.move (.const (.v (.int .i64 0))))⟩]) .ret)))))))
def c_path_RoundTrip : AFn := .code 3 53 b_path_RoundTrip [(.cell true 2 6), (.tmp 7)] false
def b_l_Station : ACode := (.seq (.region false [⟨(some 0), none, (.alloc [(.slice .nilS 0 []), (.v (.int .i64 0))])⟩]) (.seq (.region false [⟨(some 1), none, (.build [(.v (.int .i64 0)), (.v (.int
 .i64 0)), (.v (.int .i64 0)), (.v (.int .i64 0))] [])⟩, ⟨(some 2), none, (.build [(.v (.int .i64 0)), (.v (.int .i64 0)), (.v (.int .i64 0)), (.v (.int .i64 0))] [(0, (1, (.const (.v (.int .i64
 1000)))))])⟩, ⟨(some 3), none, (.buildSlice 4 [[(.v (.int .i64 0)), (.v (.int .i64 0)), (.v (.int .i64 0)), (.v (.int .i64 0))], [(.v (.int .i64 0)), (.v (.int .i64 0)), (.v (.int .i64 0)), (.v
 (.int .i64 0))]] [(0, (.tmp 1)), (1, (.tmp 2))])⟩, ⟨(some 4), none, (.build [(.slice .nilS 0 []), (.v (.int .i64 0))] [(0, (1, (.tmp 3)))])⟩, ⟨none, none, (.store 2 (.tmp 0) (.tmp 4))⟩]) .ret))
def c_l_Station : AFn := .code 0 5 b_l_Station [(.cell true 2 0)] false
def b_l_Probe : ACode := (.seq (.region false [⟨(some 0), none, (.alloc [(.slice .nilS 0 []), (.v (.int .i64 0))])⟩]) (.seq (.region false [⟨(some 1), none, (.build [(.v (.int .i64 0)), (.v (.int .i64
  0)), (.v (.int .i64 0))] [(0, (1, (.const (.v (.int .i64 300))))), (1, (1, (.const (.v (.int .i64 400)))))])⟩, ⟨(some 2), none, (.build [(.v (.int .i64 0)), (.v (.int .i64 0)), (.v (.int .i64 0)),
  (.v (.int .i64 0))] [(1, (3, (.tmp 1)))])⟩, ⟨(some 3), none, (.build [(.v (.int .i64 0)), (.v (.int .i64 0)), (.v (.int .i64 0))] [(0, (1, (.const (.v (.int .i64 600))))), (1, (1, (.const (.v (.int
  .i64 800)))))])⟩, ⟨(some 4), none, (.build [(.v (.int .i64 0)), (.v (.int .i64 0)), (.v (.int .i64 0)), (.v (.int .i64 0))] [(0, (1, (.const (.v (.int .i64 1000))))), (1, (3, (.tmp 3)))])⟩, ⟨(some
  5), none, (.buildSlice 4 [[(.v (.int .i64 0)), (.v (.int .i64 0)), (.v (.int .i64 0)), (.v (.int .i64 0))], [(.v (.int .i64 0)), (.v (.int .i64 0)), (.v (.int .i64 0)), (.v (.int .i64 0))]] [(0,
  (.tmp 2)), (1, (.tmp 4))])⟩, ⟨(some 6), none, (.build [(.slice .nilS 0 []), (.v (.int .i64 0))] [(0, (1, (.tmp 5)))])⟩, ⟨none, none, (.store 2 (.tmp 0) (.tmp 6))⟩]) .ret))
def c_l_Probe : AFn := .code 0 7 b_l_Probe [(.cell true 2 0)] false
def b_r_TrackErr : ACode := (.seq (.region false [⟨(some 1), none, (.box 2 (.tmp 0))⟩, ⟨(some 2), none, (.move (.const (.v (.int .i64 0))))⟩]) (.seq (.region false [⟨(some 6), none, (.load true 2
 (.tmp 1))⟩, ⟨(some 7), none, (.call false 25 [(.tmp 6)])⟩, ⟨(some 5), none, (.move (.tmp 7))⟩, ⟨(some 8), none, (.extract 0 (.tmp 5))⟩, ⟨(some 9), none, (.extract 1 (.tmp 5))⟩, ⟨(some 3), none,
 (.move (.tmp 8))⟩, ⟨(some 4), none, (.move (.tmp 9))⟩]) (.seq (.region false [⟨(some 10), none, (.move (.tmp 4))⟩, ⟨(some 2), none, (.move (.tmp 10))⟩]) .ret)))
def c_r_TrackErr : AFn := .code 1 11 b_r_TrackErr [(.tmp 2)] false
def b_r_TimeErr : ACode := (.seq (.region false [⟨(some 2), none, (.box 2 (.tmp 0))⟩, ⟨(some 4), none, (.move (.const (.v (.int .i64 0))))⟩]) (.seq (.seq (.region true [⟨(some 5), none, (.move (.tmp
 1))⟩, ⟨(some 6), none, (.load true 2 (.tmp 2))⟩, ⟨(some 7), none, (.call true 26 [(.tmp 6)])⟩, ⟨(some 8), none, (.load true 2 (.tmp 2))⟩, ⟨(some 9), none, (.call false 27 [(.tmp 8)])⟩, ⟨(some 10),
 none, (.call false 8 [(.tmp 5), (.tmp 7), (.tmp 9)])⟩, ⟨(some 11), none, (.un .not (.tmp 10))⟩]) (.cond (.tmp 11) (.seq (.region false [⟨(some 4), none, (.move (.const (.v (.int .i64 2))))⟩]) .ret)
 .skip)) (.seq (.region false [⟨(some 4), none, (.move (.const (.v (.int .i64 0))))⟩]) .ret)))
def c_r_TimeErr : AFn := .code 2 12 b_r_TimeErr [(.tmp 4)] false
def b_path_trackErr_r0 : ACode := (.seq (.region false [⟨(some 2), none, (.move (.const (.v (.int .i64 0))))⟩]) .ret)
def b_path_trackErr_l0 : ACode := (.seq (.region false [⟨(some 10), none, (.arith .lss (.tmp 9) (.tmp 8))⟩]) (.seq (.cond (.tmp 10) .skip (.exit 0)) (.seq (.block 1 (.seq (.region false [⟨(some 11),
 none, (.indexAddr none 2 (.tmp 7) (.tmp 9))⟩, ⟨(some 12), none, (.load true 2 (.tmp 11))⟩, ⟨(some 4), none, (.alloc [(.slice .nilS 0 []), (.v (.int .i64 0))])⟩, ⟨none, none, (.store 2 (.tmp 4) (.tmp
 12))⟩]) (.seq (.region false [⟨(some 14), none, (.load true 2 (.tmp 4))⟩, ⟨(some 15), none, (.call false 28 [(.tmp 14)])⟩, ⟨(some 13), none, (.move (.tmp 15))⟩, ⟨(some 16), none, (.extract 0 (.tmp
 13))⟩, ⟨(some 17), none, (.extract 1 (.tmp 13))⟩, ⟨(some 5), none, (.move (.tmp 16))⟩, ⟨(some 6), none, (.move (.tmp 17))⟩]) (.seq (.region false [⟨(some 18), none, (.move (.tmp 6))⟩, ⟨(some 19),
 none, (.arith .neq (.tmp 18) (.const (.v (.int .i64 0))))⟩]) (.cond (.tmp 19) (.seq (.region false [⟨(some 20), none, (.move (.tmp 6))⟩, ⟨(some 2), none, (.move (.tmp 20))⟩]) .ret) .skip)))))
 (.region false [⟨(some 21), none, (.arith .add (.tmp 9) (.const (.v (.int .i64 1))))⟩, ⟨(some 9), none, (.move (.tmp 21))⟩]))))
def b_path_trackErr : ACode := (.seq (.region false [⟨(some 2), none, (.move (.const (.v (.int .i64 0))))⟩]) (.seq (.seq (.region false [⟨(some 7), none, (.move (.tmp 0))⟩, ⟨(some 8), none, (.len
 false (.tmp 7))⟩, ⟨(some 9), none, (.move (.const (.v (.int .i64 0))))⟩]) (.block 0 (.loop b_path_trackErr_l0))) b_path_trackErr_r0))
abbrev k_path_trackErr_0 : List K := [.blk 0, .c b_path_trackErr_r0]
abbrev f_path_trackErr := finF [(.tmp 2)] false
def c_path_trackErr : AFn := .code 1 22 b_path_trackErr [(.tmp 2)] false
def b_path_timeErr_r0 : ACode := (.seq (.region false [⟨(some 4), none, (.move (.const (.v (.int .i64 0))))⟩]) .ret)
def b_path_timeErr_l0 : ACode := (.seq (.region false [⟨(some 10), none, (.arith .lss (.tmp 9) (.tmp 8))⟩]) (.seq (.cond (.tmp 10) .skip (.exit 0)) (.seq (.block 1 (.seq (.region false [⟨(some 11),
 none, (.indexAddr none 2 (.tmp 7) (.tmp 9))⟩, ⟨(some 12), none, (.load true 2 (.tmp 11))⟩, ⟨(some 6), none, (.alloc [(.slice .nilS 0 []), (.v (.int .i64 0))])⟩, ⟨none, none, (.store 2 (.tmp 6) (.tmp
 12))⟩]) (.seq (.region true [⟨(some 13), none, (.move (.tmp 0))⟩, ⟨(some 14), none, (.fieldAddr 0 (.tmp 6))⟩, ⟨(some 15), none, (.load false 1 (.tmp 14))⟩, ⟨(some 16), none, (.indexAddr none 4 (.tmp
 15) (.const (.v (.int .i64 0))))⟩, ⟨(some 17), none, (.fieldAddr 0 (.tmp 16))⟩, ⟨(some 18), none, (.load false 1 (.tmp 17))⟩, ⟨(some 19), none, (.load true 2 (.tmp 6))⟩, ⟨(some 20), none, (.call
 true 30 [(.tmp 19)])⟩, ⟨(some 21), none, (.call false 29 [(.tmp 13), (.tmp 18), (.tmp 20)])⟩, ⟨(some 22), none, (.un .not (.tmp 21))⟩]) (.cond (.tmp 22) (.seq (.region false [⟨(some 4), none, (.move
 (.const (.v (.int .i64 2))))⟩]) .ret) .skip)))) (.region false [⟨(some 23), none, (.arith .add (.tmp 9) (.const (.v (.int .i64 1))))⟩, ⟨(some 9), none, (.move (.tmp 23))⟩]))))
def b_path_timeErr : ACode := (.seq (.region false [⟨(some 4), none, (.move (.const (.v (.int .i64 0))))⟩]) (.seq (.seq (.region false [⟨(some 7), none, (.move (.tmp 1))⟩, ⟨(some 8), none, (.len false
 (.tmp 7))⟩, ⟨(some 9), none, (.move (.const (.v (.int .i64 0))))⟩]) (.block 0 (.loop b_path_timeErr_l0))) b_path_timeErr_r0))
abbrev k_path_timeErr_0 : List K := [.blk 0, .c b_path_timeErr_r0]
abbrev f_path_timeErr := finF [(.tmp 4)] false
def c_path_timeErr : AFn := .code 2 24 b_path_timeErr [(.tmp 4)] false
def b_path_between_r0 : ACode := (.seq (.region false [⟨(some 54), none, (.load true 5 (.tmp 11))⟩, ⟨none, none, (.store 5 (.tmp 8) (.tmp 54))⟩]) .ret)
def b_path_between_l0 : ACode := (.seq (.region false [⟨(some 32), none, (.arith .lss (.tmp 31) (.const (.v (.int .i64 3))))⟩]) (.seq (.cond (.tmp 32) .skip (.exit 0)) (.seq (.block 1 (.seq (.region
  false [⟨(some 33), none, (.move (.tmp 31))⟩, ⟨(some 12), none, (.move (.tmp 33))⟩]) (.region true [⟨(some 34), none, (.move (.tmp 12))⟩, ⟨(some 35), none, (.move (.tmp 12))⟩, ⟨(some 36), none,
  (.fieldAddr 0 (.tmp 10))⟩, ⟨(some 37), none, (.indexAddr (some 3) 1 (.tmp 36) (.tmp 35))⟩, ⟨(some 38), none, (.load false 1 (.tmp 37))⟩, ⟨(some 39), none, (.fieldAddr 3 (.tmp 9))⟩, ⟨(some 40), none,
  (.load false 1 (.tmp 39))⟩, ⟨(some 41), none, (.arith .mul (.tmp 38) (.tmp 40))⟩, ⟨(some 42), none, (.move (.tmp 12))⟩, ⟨(some 43), none, (.fieldAddr 0 (.tmp 9))⟩, ⟨(some 44), none, (.indexAddr
  (some 3) 1 (.tmp 43) (.tmp 42))⟩, ⟨(some 45), none, (.load false 1 (.tmp 44))⟩, ⟨(some 46), none, (.fieldAddr 3 (.tmp 10))⟩, ⟨(some 47), none, (.load false 1 (.tmp 46))⟩, ⟨(some 48), none, (.arith
  .mul (.tmp 45) (.tmp 47))⟩, ⟨(some 49), none, (.arith .sub (.tmp 41) (.tmp 48))⟩, ⟨(some 50), none, (.fieldAddr 0 (.tmp 11))⟩, ⟨(some 51), none, (.fieldAddr 0 (.tmp 50))⟩, ⟨(some 52), none,
  (.indexAddr (some 3) 1 (.tmp 51) (.tmp 34))⟩, ⟨none, none, (.store 1 (.tmp 52) (.tmp 49))⟩]))) (.region false [⟨(some 53), none, (.arith .add (.tmp 31) (.const (.v (.int .i64 1))))⟩, ⟨(some 31),
  none, (.move (.tmp 53))⟩]))))
def b_path_between : ACode := (.seq (.region false [⟨(some 4), none, (.box 2 (.tmp 0))⟩, ⟨(some 6), none, (.box 2 (.tmp 2))⟩, ⟨(some 8), none, (.alloc [(.v (.int .i64 0)), (.v (.int .i64 0)), (.v
  (.int .i64 0)), (.v (.int .i64 0)), (.v (.int .i64 0))])⟩]) (.seq (.seq (.region false [⟨none, none, (.reserve 2)⟩]) (.region true [⟨(some 13), none, (.loadr 2 true 2 (.tmp 4))⟩, ⟨(some 14), none,
  (.move (.tmp 1))⟩, ⟨(some 15), none, (.fcall true [[(.v (.int .i64 0)), (.v (.int .i64 0)), (.v (.int .i64 0)), (.v (.int .i64 0))], [(.v (.int .i64 0)), (.v (.int .i64 0)), (.v (.int .i64 0)), (.v
  (.int .i64 0))]] 31 [(.tmp 13), (.tmp 14)])⟩, ⟨(some 16), none, (.loadr 2 true 2 (.tmp 6))⟩, ⟨(some 17), none, (.move (.tmp 3))⟩, ⟨(some 18), none, (.fcall false [[(.v (.int .i64 0)), (.v (.int .i64
  0)), (.v (.int .i64 0)), (.v (.int .i64 0))], [(.v (.int .i64 0)), (.v (.int .i64 0)), (.v (.int .i64 0)), (.v (.int .i64 0))]] 31 [(.tmp 16), (.tmp 17)])⟩, ⟨(some 9), none, (.slot 2 [(.v (.int .i64
  0)), (.v (.int .i64 0)), (.v (.int .i64 0)), (.v (.int .i64 0))])⟩, ⟨(some 10), none, (.slot 1 [(.v (.int .i64 0)), (.v (.int .i64 0)), (.v (.int .i64 0)), (.v (.int .i64 0))])⟩, ⟨none, none, (.fill
  2 4 (.tmp 9) (.tmp 15))⟩, ⟨none, none, (.fill 1 4 (.tmp 10) (.tmp 18))⟩])) (.seq (.region false [⟨(some 19), none, (.fieldAddr 3 (.tmp 9))⟩, ⟨(some 20), none, (.load false 1 (.tmp 19))⟩, ⟨(some 21),
  none, (.fieldAddr 3 (.tmp 10))⟩, ⟨(some 22), none, (.load false 1 (.tmp 21))⟩, ⟨(some 23), none, (.arith .mul (.tmp 20) (.tmp 22))⟩, ⟨(some 24), none, (.build [(.v (.int .i64 0)), (.v (.int .i64
  0)), (.v (.int .i64 0)), (.v (.int .i64 0))] [(3, (1, (.tmp 23)))])⟩, ⟨(some 25), none, (.fieldAddr 1 (.tmp 4))⟩, ⟨(some 26), none, (.load false 1 (.tmp 25))⟩, ⟨(some 27), none, (.fieldAddr 1 (.tmp
  6))⟩, ⟨(some 28), none, (.load false 1 (.tmp 27))⟩, ⟨(some 29), none, (.arith .add (.tmp 26) (.tmp 28))⟩, ⟨(some 30), none, (.build [(.v (.int .i64 0)), (.v (.int .i64 0)), (.v (.int .i64 0)), (.v
  (.int .i64 0)), (.v (.int .i64 0))] [(0, (4, (.tmp 24))), (4, (1, (.tmp 29)))])⟩, ⟨(some 11), none, (.alloc [(.v (.int .i64 0)), (.v (.int .i64 0)), (.v (.int .i64 0)), (.v (.int .i64 0)), (.v (.int
  .i64 0))])⟩, ⟨none, none, (.store 5 (.tmp 11) (.tmp 30))⟩]) (.seq (.seq (.region false [⟨(some 31), none, (.move (.const (.v (.int .i64 0))))⟩]) (.block 0 (.loop b_path_between_l0)))
  b_path_between_r0))))
def c_path_between : AFn := .code 4 55 b_path_between [(.cell true 5 8)] false
def b_path_gap_distances : ACode := (.seq (.region false [⟨(some 1), none, (.box 5 (.tmp 0))⟩, ⟨(some 2), none, (.alloc [(.v (.int .i64 0)), (.v (.int .i64 0))])⟩]) (.seq (.seq (.region false [⟨none,
 none, (.reserve 2)⟩]) (.region true [⟨(some 5), none, (.loadr 2 true 5 (.tmp 1))⟩, ⟨(some 6), none, (.fcall true [[(.v (.int .u64 0)), (.v (.int .u64 0))], [(.v (.int .u64 0)), (.v (.int .u64 0))]]
 32 [(.tmp 5)])⟩, ⟨(some 7), none, (.loadr 2 true 5 (.tmp 1))⟩, ⟨(some 8), none, (.fcall false [[(.v (.int .u64 0)), (.v (.int .u64 0))], [(.v (.int .u64 0)), (.v (.int .u64 0))]] 33 [(.tmp 7)])⟩,
 ⟨(some 3), none, (.slot 2 [(.v (.int .u64 0)), (.v (.int .u64 0))])⟩, ⟨(some 4), none, (.slot 1 [(.v (.int .u64 0)), (.v (.int .u64 0))])⟩, ⟨none, none, (.fill 2 2 (.tmp 3) (.tmp 6))⟩, ⟨none, none,
 (.fill 1 2 (.tmp 4) (.tmp 8))⟩])) (.seq (.region false [⟨(some 9), none, (.mkFn 35 [] [(.tmp 3), (.tmp 1)])⟩, ⟨(some 10), none, (.call false 34 [(.const (.v (.int .i64 8000000))), (.tmp 9)])⟩,
 ⟨(some 11), none, (.mkFn 38 [] [(.tmp 1), (.tmp 4)])⟩, ⟨(some 12), none, (.call false 34 [(.const (.v (.int .i64 8000000))), (.tmp 11)])⟩, ⟨(some 13), none, (.build [(.v (.int .i64 0)), (.v (.int
 .i64 0))] [(0, (1, (.tmp 10))), (1, (1, (.tmp 12)))])⟩, ⟨none, none, (.store 2 (.tmp 2) (.tmp 13))⟩]) .ret)))
def c_path_gap_distances : AFn := .code 1 14 b_path_gap_distances [(.cell true 2 2)] false
def b_path_received : ACode := (.seq (.region false [⟨(some 3), none, (.box 2 (.tmp 0))⟩, ⟨(some 4), none, (.box 2 (.tmp 1))⟩, ⟨(some 5), none, (.box 1 (.tmp 2))⟩, ⟨(some 6), none, (.alloc [(.v (.int
 .i64 0)), (.v (.int .i64 0))])⟩, ⟨(some 7), none, (.move (.const (.v (.int .i64 0))))⟩]) (.seq (.region false [⟨(some 11), none, (.load true 2 (.tmp 4))⟩, ⟨(some 12), none, (.call false 30 [(.tmp
 11)])⟩, ⟨(some 8), none, (.move (.tmp 12))⟩]) (.seq (.seq (.region false [⟨(some 13), none, (.load true 2 (.tmp 3))⟩, ⟨(some 14), none, (.load false 1 (.tmp 5))⟩, ⟨(some 15), none, (.load true 2
 (.tmp 4))⟩, ⟨(some 16), none, (.move (.tmp 8))⟩, ⟨(some 17), none, (.call false 39 [(.tmp 13), (.tmp 14), (.tmp 15), (.tmp 16)])⟩, ⟨(some 18), none, (.un .not (.tmp 17))⟩]) (.cond (.tmp 18) (.seq
 (.region false [⟨(some 19), none, (.build [(.v (.int .i64 0)), (.v (.int .i64 0))] [])⟩, ⟨none, none, (.store 2 (.tmp 6) (.tmp 19))⟩, ⟨(some 7), none, (.move (.const (.v (.int .i64 12))))⟩]) .ret)
 .skip)) (.seq (.region false [⟨(some 20), none, (.move (.tmp 8))⟩, ⟨(some 21), none, (.load false 1 (.tmp 5))⟩, ⟨(some 22), none, (.arith .sub (.tmp 20) (.tmp 21))⟩, ⟨(some 23), none, (.mkFn 40 []
 [(.tmp 3), (.tmp 5), (.tmp 4)])⟩, ⟨(some 24), none, (.call false 34 [(.tmp 22), (.tmp 23)])⟩, ⟨(some 9), none, (.move (.tmp 24))⟩]) (.seq (.region false [⟨(some 25), none, (.move (.tmp 8))⟩, ⟨(some
 26), none, (.load false 1 (.tmp 5))⟩, ⟨(some 27), none, (.arith .sub (.tmp 25) (.tmp 26))⟩, ⟨(some 28), none, (.mkFn 41 [] [(.tmp 3), (.tmp 5), (.tmp 4)])⟩, ⟨(some 29), none, (.call false 34 [(.tmp
 27), (.tmp 28)])⟩, ⟨(some 10), none, (.move (.tmp 29))⟩]) (.seq (.region false [⟨(some 30), none, (.load false 1 (.tmp 5))⟩, ⟨(some 31), none, (.move (.tmp 10))⟩, ⟨(some 32), none, (.arith .sub
 (.tmp 31) (.const (.v (.int .i64 1))))⟩, ⟨(some 33), none, (.minmax true [(.const (.v (.int .i64 0))), (.tmp 32)])⟩, ⟨(some 34), none, (.arith .add (.tmp 30) (.tmp 33))⟩, ⟨(some 35), none, (.load
 false 1 (.tmp 5))⟩, ⟨(some 36), none, (.move (.tmp 9))⟩, ⟨(some 37), none, (.arith .add (.tmp 35) (.tmp 36))⟩, ⟨(some 38), none, (.build [(.v (.int .i64 0)), (.v (.int .i64 0))] [(0, (1, (.tmp
 34))), (1, (1, (.tmp 37)))])⟩, ⟨none, none, (.store 2 (.tmp 6) (.tmp 38))⟩, ⟨(some 7), none, (.move (.const (.v (.int .i64 0))))⟩]) .ret))))))
def c_path_received : AFn := .code 3 39 b_path_received [(.cell true 2 6), (.tmp 7)] false
def b_path_first_r0 : ACode := (.seq (.region false [⟨(some 2), none, (.move (.const (.v (.int .i64 0))))⟩]) .ret)
def b_path_first_l0 : ACode := (.seq (.region false [⟨(some 8), none, (.arith .lss (.tmp 7) (.tmp 6))⟩]) (.seq (.cond (.tmp 8) .skip (.exit 0)) (.seq (.block 1 (.seq (.region false [⟨(some 9), none,
  (.indexAddr none 1 (.tmp 5) (.tmp 7))⟩, ⟨(some 10), none, (.load false 1 (.tmp 9))⟩, ⟨(some 4), none, (.move (.tmp 10))⟩]) (.seq (.region false [⟨(some 11), none, (.move (.tmp 4))⟩, ⟨(some 12),
  none, (.arith .neq (.tmp 11) (.const (.v (.int .i64 0))))⟩]) (.cond (.tmp 12) (.seq (.region false [⟨(some 13), none, (.move (.tmp 4))⟩, ⟨(some 2), none, (.move (.tmp 13))⟩]) .ret) .skip))))
  (.region false [⟨(some 14), none, (.arith .add (.tmp 7) (.const (.v (.int .i64 1))))⟩, ⟨(some 7), none, (.move (.tmp 14))⟩]))))
def b_path_first : ACode := (.seq (.region false [⟨(some 2), none, (.move (.const (.v (.int .i64 0))))⟩]) (.seq (.seq (.region false [⟨(some 5), none, (.move (.tmp 0))⟩, ⟨(some 6), none, (.len false
 (.tmp 5))⟩, ⟨(some 7), none, (.move (.const (.v (.int .i64 0))))⟩]) (.block 0 (.loop b_path_first_l0))) b_path_first_r0))
abbrev k_path_first_0 : List K := [.blk 0, .c b_path_first_r0]
abbrev f_path_first := finF [(.tmp 2)] false
def c_path_first : AFn := .code 1 15 b_path_first [(.tmp 2)] false
def b_r_CheckTrack_r0 : ACode := (.seq (.seq (.region false [⟨(some 29), none, (.fieldAddr 1 (.tmp 1))⟩, ⟨(some 30), none, (.load false 1 (.tmp 29))⟩, ⟨(some 31), none, (.call false 8 [(.tmp 30),
  (.const (.v (.int .i64 0))), (.const (.v (.int .i64 1000)))])⟩, ⟨(some 32), none, (.un .not (.tmp 31))⟩]) (.cond (.tmp 32) (.seq (.region false [⟨(some 2), none, (.move (.const (.v (.int .i64
  0))))⟩, ⟨(some 3), none, (.move (.const (.v (.int .i64 2))))⟩]) .ret) .skip)) (.seq (.region false [⟨(some 2), none, (.move (.const (.v (.int .i64 0))))⟩, ⟨(some 3), none, (.move (.const (.v (.int
  .i64 0))))⟩]) .ret))
def b_r_CheckTrack_l0 : ACode := (.seq (.seq (.region false [⟨(some 14), none, (.move (.tmp 4))⟩, ⟨(some 15), none, (.fieldAddr 0 (.tmp 1))⟩, ⟨(some 16), none, (.load false 1 (.tmp 15))⟩, ⟨(some 17),
  none, (.len false (.tmp 16))⟩, ⟨(some 18), none, (.arith .lss (.tmp 14) (.tmp 17))⟩]) (.cond (.tmp 18) .skip (.exit 0))) (.seq (.block 1 (.seq (.region false [⟨(some 21), none, (.fieldAddr 0 (.tmp
  1))⟩, ⟨(some 22), none, (.load false 1 (.tmp 21))⟩, ⟨(some 23), none, (.move (.tmp 4))⟩, ⟨(some 24), none, (.call false 43 [(.tmp 22), (.tmp 23)])⟩, ⟨(some 5), none, (.move (.tmp 24))⟩]) (.seq
  (.region false [⟨(some 25), none, (.move (.tmp 5))⟩, ⟨(some 26), none, (.arith .neq (.tmp 25) (.const (.v (.int .i64 0))))⟩]) (.cond (.tmp 26) (.seq (.region false [⟨(some 27), none, (.move (.tmp
  4))⟩, ⟨(some 28), none, (.move (.tmp 5))⟩, ⟨(some 2), none, (.move (.tmp 27))⟩, ⟨(some 3), none, (.move (.tmp 28))⟩]) .ret) .skip)))) (.region false [⟨(some 19), none, (.move (.tmp 4))⟩, ⟨(some 20),
  none, (.arith .add (.tmp 19) (.const (.v (.int .i64 1))))⟩, ⟨(some 4), none, (.move (.tmp 20))⟩])))
def b_r_CheckTrack : ACode := (.seq (.region false [⟨(some 1), none, (.box 2 (.tmp 0))⟩, ⟨(some 2), none, (.move (.const (.v (.int .i64 0))))⟩, ⟨(some 3), none, (.move (.const (.v (.int .i64 0))))⟩])
  (.seq (.seq (.region false [⟨(some 6), none, (.fieldAddr 0 (.tmp 1))⟩, ⟨(some 7), none, (.load false 1 (.tmp 6))⟩, ⟨(some 8), none, (.len false (.tmp 7))⟩, ⟨(some 9), none, (.arith .eql (.tmp 8)
  (.const (.v (.int .i64 0))))⟩]) (.cond (.tmp 9) (.seq (.region false [⟨(some 2), none, (.move (.const (.v (.int .i64 0))))⟩, ⟨(some 3), none, (.move (.const (.v (.int .i64 10))))⟩]) .ret) .skip))
  (.seq (.seq (.region false [⟨(some 10), none, (.fieldAddr 0 (.tmp 1))⟩, ⟨(some 11), none, (.load false 1 (.tmp 10))⟩, ⟨(some 12), none, (.len false (.tmp 11))⟩, ⟨(some 13), none, (.arith .gtr (.tmp
  12) (.const (.v (.int .i64 12))))⟩]) (.cond (.tmp 13) (.seq (.region false [⟨(some 2), none, (.move (.const (.v (.int .i64 0))))⟩, ⟨(some 3), none, (.move (.const (.v (.int .i64 8))))⟩]) .ret)
  .skip)) (.seq (.seq (.region false [⟨(some 4), none, (.move (.const (.v (.int .i64 0))))⟩]) (.block 0 (.loop b_r_CheckTrack_l0))) b_r_CheckTrack_r0))))
abbrev k_r_CheckTrack_0 : List K := [.blk 0, .c b_r_CheckTrack_r0]
abbrev f_r_CheckTrack := finF [(.tmp 2), (.tmp 3)] false
def c_r_CheckTrack : AFn := .code 1 33 b_r_CheckTrack [(.tmp 2), (.tmp 3)] false
def b_r_First : ACode := (.seq (.region false [⟨(some 1), none, (.box 2 (.tmp 0))⟩, ⟨(some 2), none, (.move (.const (.v (.int .i64 0))))⟩]) (.seq (.region false [⟨(some 3), none, (.fieldAddr 0 (.tmp
 1))⟩, ⟨(some 4), none, (.load false 1 (.tmp 3))⟩, ⟨(some 5), none, (.indexAddr none 4 (.tmp 4) (.const (.v (.int .i64 0))))⟩, ⟨(some 6), none, (.fieldAddr 0 (.tmp 5))⟩, ⟨(some 7), none, (.load false
 1 (.tmp 6))⟩, ⟨(some 2), none, (.move (.tmp 7))⟩]) .ret))
def c_r_First : AFn := .code 1 8 b_r_First [(.tmp 2)] false
def b_r_Last : ACode := (.seq (.region false [⟨(some 1), none, (.box 2 (.tmp 0))⟩, ⟨(some 2), none, (.move (.const (.v (.int .i64 0))))⟩]) (.seq (.region false [⟨(some 3), none, (.fieldAddr 0 (.tmp
  1))⟩, ⟨(some 4), none, (.load false 1 (.tmp 3))⟩, ⟨(some 5), none, (.fieldAddr 0 (.tmp 1))⟩, ⟨(some 6), none, (.load false 1 (.tmp 5))⟩, ⟨(some 7), none, (.len false (.tmp 6))⟩, ⟨(some 8), none,
  (.arith .sub (.tmp 7) (.const (.v (.int .i64 1))))⟩, ⟨(some 9), none, (.indexAddr none 4 (.tmp 4) (.tmp 8))⟩, ⟨(some 10), none, (.fieldAddr 0 (.tmp 9))⟩, ⟨(some 11), none, (.load false 1 (.tmp
  10))⟩, ⟨(some 2), none, (.move (.tmp 11))⟩]) .ret))
def c_r_Last : AFn := .code 1 12 b_r_Last [(.tmp 2)] false
def b_path_CheckTrack_r0 : ACode := (.seq (.region false [⟨(some 45), none, (.fieldAddr 1 (.tmp 1))⟩, ⟨(some 46), none, (.load false 1 (.tmp 45))⟩, ⟨(some 47), none, (.call false 29 [(.tmp 46),
 (.const (.v (.int .i64 0))), (.const (.v (.int .i64 1000)))])⟩, ⟨(some 48), none, (.call false 44 [(.tmp 47), (.const (.v (.int .i64 2)))])⟩, ⟨(some 2), none, (.move (.const (.v (.int .i64 0))))⟩,
 ⟨(some 3), none, (.move (.tmp 48))⟩]) .ret)
def b_path_CheckTrack_l0 : ACode := (.seq (.region false [⟨(some 27), none, (.arith .lss (.tmp 26) (.tmp 25))⟩]) (.seq (.cond (.tmp 27) .skip (.exit 0)) (.seq (.block 1 (.seq (.region false [⟨(some
  28), none, (.move (.tmp 26))⟩, ⟨(some 6), none, (.move (.tmp 28))⟩]) (.seq (.seq (.region false [⟨(some 29), none, (.fieldAddr 0 (.tmp 1))⟩, ⟨(some 30), none, (.load false 1 (.tmp 29))⟩, ⟨(some 31),
  none, (.move (.tmp 6))⟩, ⟨(some 32), none, (.indexAddr none 4 (.tmp 30) (.tmp 31))⟩, ⟨(some 33), none, (.load true 4 (.tmp 32))⟩, ⟨(some 34), none, (.move (.tmp 5))⟩, ⟨(some 35), none, (.call false
  45 [(.tmp 33), (.tmp 34)])⟩, ⟨(some 7), none, (.move (.tmp 35))⟩]) (.seq (.region false [⟨(some 36), none, (.move (.tmp 7))⟩, ⟨(some 37), none, (.arith .neq (.tmp 36) (.const (.v (.int .i64 0))))⟩])
  (.cond (.tmp 37) (.seq (.region false [⟨(some 38), none, (.move (.tmp 6))⟩, ⟨(some 39), none, (.move (.tmp 7))⟩, ⟨(some 2), none, (.move (.tmp 38))⟩, ⟨(some 3), none, (.move (.tmp 39))⟩]) .ret)
  .skip))) (.region false [⟨(some 40), none, (.fieldAddr 0 (.tmp 1))⟩, ⟨(some 41), none, (.load false 1 (.tmp 40))⟩, ⟨(some 42), none, (.move (.tmp 6))⟩, ⟨(some 43), none, (.indexAddr none 4 (.tmp 41)
  (.tmp 42))⟩, ⟨(some 5), none, (.move (.tmp 43))⟩])))) (.region false [⟨(some 44), none, (.arith .add (.tmp 26) (.const (.v (.int .i64 1))))⟩, ⟨(some 26), none, (.move (.tmp 44))⟩]))))
def b_path_CheckTrack : ACode := (.seq (.region false [⟨(some 1), none, (.box 2 (.tmp 0))⟩, ⟨(some 2), none, (.move (.const (.v (.int .i64 0))))⟩, ⟨(some 3), none, (.move (.const (.v (.int .i64
  0))))⟩]) (.seq (.seq (.region true [⟨(some 8), none, (.fieldAddr 0 (.tmp 1))⟩, ⟨(some 9), none, (.load false 1 (.tmp 8))⟩, ⟨(some 10), none, (.len false (.tmp 9))⟩, ⟨(some 11), none, (.arith .gtr
  (.tmp 10) (.const (.v (.int .i64 0))))⟩, ⟨(some 12), none, (.call true 44 [(.tmp 11), (.const (.v (.int .i64 10)))])⟩, ⟨(some 13), none, (.fieldAddr 0 (.tmp 1))⟩, ⟨(some 14), none, (.load false 1
  (.tmp 13))⟩, ⟨(some 15), none, (.len false (.tmp 14))⟩, ⟨(some 16), none, (.arith .leq (.tmp 15) (.const (.v (.int .i64 12))))⟩, ⟨(some 17), none, (.call false 44 [(.tmp 16), (.const (.v (.int .i64
  8)))])⟩, ⟨(some 18), none, (.buildSlice 1 [[(.v (.int .i64 0))], [(.v (.int .i64 0))]] [(0, (.tmp 12)), (1, (.tmp 17))])⟩, ⟨(some 19), none, (.call false 24 [(.tmp 18)])⟩, ⟨(some 4), none, (.move
  (.tmp 19))⟩]) (.seq (.region false [⟨(some 20), none, (.move (.tmp 4))⟩, ⟨(some 21), none, (.arith .neq (.tmp 20) (.const (.v (.int .i64 0))))⟩]) (.cond (.tmp 21) (.seq (.region false [⟨(some 22),
  none, (.move (.tmp 4))⟩, ⟨(some 2), none, (.move (.const (.v (.int .i64 0))))⟩, ⟨(some 3), none, (.move (.tmp 22))⟩]) .ret) .skip))) (.seq (.region false [⟨(some 5), none, (.move (.const (.v
  (.pointer none))))⟩]) (.seq (.seq (.region false [⟨(some 23), none, (.fieldAddr 0 (.tmp 1))⟩, ⟨(some 24), none, (.load false 1 (.tmp 23))⟩, ⟨(some 25), none, (.len false (.tmp 24))⟩, ⟨(some 26),
  none, (.move (.const (.v (.int .i64 0))))⟩]) (.block 0 (.loop b_path_CheckTrack_l0))) b_path_CheckTrack_r0))))
abbrev k_path_CheckTrack_0 : List K := [.blk 0, .c b_path_CheckTrack_r0]
abbrev f_path_CheckTrack := finF [(.tmp 2), (.tmp 3)] false
def c_path_CheckTrack : AFn := .code 1 49 b_path_CheckTrack [(.tmp 2), (.tmp 3)] false
def b_path_within : ACode := (.seq (.region false [⟨(some 6), none, (.move (.const (.v (.bool false))))⟩]) (.seq (.region false [⟨(some 7), none, (.move (.tmp 1))⟩, ⟨(some 8), none, (.move (.tmp 0))⟩,
 ⟨(some 9), none, (.arith .leq (.tmp 7) (.tmp 8))⟩, ⟨(some 10), none, (.move (.tmp 9))⟩, ⟨(some 11), (some (10, true)), (.move (.tmp 0))⟩, ⟨(some 12), (some (10, true)), (.move (.tmp 2))⟩, ⟨(some
 13), (some (10, true)), (.arith .leq (.tmp 11) (.tmp 12))⟩, ⟨(some 14), none, (.pick (.tmp 10) (.tmp 13) (.const (.v (.bool false))))⟩, ⟨(some 6), none, (.move (.tmp 14))⟩]) .ret))
def c_path_within : AFn := .code 3 15 b_path_within [(.tmp 6)] false
def b_path_last : ACode := (.seq (.region false [⟨(some 1), none, (.box 2 (.tmp 0))⟩, ⟨(some 2), none, (.move (.const (.v (.int .i64 0))))⟩]) (.seq (.region false [⟨(some 3), none, (.fieldAddr 0 (.tmp
  1))⟩, ⟨(some 4), none, (.load false 1 (.tmp 3))⟩, ⟨(some 5), none, (.fieldAddr 0 (.tmp 1))⟩, ⟨(some 6), none, (.load false 1 (.tmp 5))⟩, ⟨(some 7), none, (.len false (.tmp 6))⟩, ⟨(some 8), none,
  (.arith .sub (.tmp 7) (.const (.v (.int .i64 1))))⟩, ⟨(some 9), none, (.indexAddr none 4 (.tmp 4) (.tmp 8))⟩, ⟨(some 10), none, (.fieldAddr 0 (.tmp 9))⟩, ⟨(some 11), none, (.load false 1 (.tmp
  10))⟩, ⟨(some 2), none, (.move (.tmp 11))⟩]) .ret))
def c_path_last : AFn := .code 1 12 b_path_last [(.tmp 2)] false
def b_path_at_r0 : ACode := (.seq (.region false [⟨(some 75), none, (.load true 4 (.tmp 11))⟩, ⟨none, none, (.store 4 (.tmp 4) (.tmp 75))⟩]) .ret)
def b_path_at_l0 : ACode := (.seq (.region false [⟨(some 55), none, (.arith .lss (.tmp 54) (.const (.v (.int .i64 3))))⟩]) (.seq (.cond (.tmp 55) .skip (.exit 0)) (.seq (.block 1 (.seq (.region false
 [⟨(some 56), none, (.move (.tmp 54))⟩, ⟨(some 12), none, (.move (.tmp 56))⟩]) (.region true [⟨(some 57), none, (.move (.tmp 12))⟩, ⟨(some 58), none, (.move (.tmp 12))⟩, ⟨(some 59), none, (.indexAddr
 (some 3) 1 (.tmp 8) (.tmp 58))⟩, ⟨(some 60), none, (.load false 1 (.tmp 59))⟩, ⟨(some 61), none, (.move (.tmp 10))⟩, ⟨(some 62), none, (.arith .mul (.tmp 60) (.tmp 61))⟩, ⟨(some 63), none, (.move
 (.tmp 12))⟩, ⟨(some 64), none, (.indexAddr (some 3) 1 (.tmp 9) (.tmp 63))⟩, ⟨(some 65), none, (.load false 1 (.tmp 64))⟩, ⟨(some 66), none, (.load false 1 (.tmp 3))⟩, ⟨(some 67), none, (.fieldAddr 0
 (.tmp 7))⟩, ⟨(some 68), none, (.load false 1 (.tmp 67))⟩, ⟨(some 69), none, (.arith .sub (.tmp 66) (.tmp 68))⟩, ⟨(some 70), none, (.arith .mul (.tmp 65) (.tmp 69))⟩, ⟨(some 71), none, (.arith .add
 (.tmp 62) (.tmp 70))⟩, ⟨(some 72), none, (.fieldAddr 0 (.tmp 11))⟩, ⟨(some 73), none, (.indexAddr (some 3) 1 (.tmp 72) (.tmp 57))⟩, ⟨none, none, (.store 1 (.tmp 73) (.tmp 71))⟩]))) (.region false
 [⟨(some 74), none, (.arith .add (.tmp 54) (.const (.v (.int .i64 1))))⟩, ⟨(some 54), none, (.move (.tmp 74))⟩]))))
def b_path_at : ACode := (.seq (.region false [⟨(some 2), none, (.box 2 (.tmp 0))⟩, ⟨(some 3), none, (.box 1 (.tmp 1))⟩, ⟨(some 4), none, (.alloc [(.v (.int .i64 0)), (.v (.int .i64 0)), (.v (.int
  .i64 0)), (.v (.int .i64 0))])⟩]) (.seq (.region false [⟨(some 13), none, (.fieldAddr 0 (.tmp 2))⟩, ⟨(some 14), none, (.load false 1 (.tmp 13))⟩, ⟨(some 15), none, (.len false (.tmp 14))⟩, ⟨(some
  16), none, (.mkFn 46 [] [(.tmp 2), (.tmp 3)])⟩, ⟨(some 17), none, (.call false 34 [(.tmp 15), (.tmp 16)])⟩, ⟨(some 5), none, (.move (.tmp 17))⟩]) (.seq (.region false [⟨(some 18), none, (.fieldAddr
  0 (.tmp 2))⟩, ⟨(some 19), none, (.load false 1 (.tmp 18))⟩, ⟨(some 20), none, (.move (.tmp 5))⟩, ⟨(some 21), none, (.indexAddr none 4 (.tmp 19) (.tmp 20))⟩, ⟨(some 22), none, (.load true 4 (.tmp
  21))⟩, ⟨(some 6), none, (.alloc [(.v (.int .i64 0)), (.v (.int .i64 0)), (.v (.int .i64 0)), (.v (.int .i64 0))])⟩, ⟨none, none, (.store 4 (.tmp 6) (.tmp 22))⟩]) (.seq (.seq (.region false [⟨(some
  23), none, (.fieldAddr 0 (.tmp 6))⟩, ⟨(some 24), none, (.load false 1 (.tmp 23))⟩, ⟨(some 25), none, (.load false 1 (.tmp 3))⟩, ⟨(some 26), none, (.arith .eql (.tmp 24) (.tmp 25))⟩]) (.cond (.tmp
  26) (.seq (.region false [⟨(some 27), none, (.fieldAddr 1 (.tmp 6))⟩, ⟨(some 28), none, (.load true 3 (.tmp 27))⟩, ⟨(some 29), none, (.call false 47 [(.tmp 28)])⟩, ⟨(some 30), none, (.build [(.v
  (.int .i64 0)), (.v (.int .i64 0)), (.v (.int .i64 0)), (.v (.int .i64 0))] [(0, (3, (.tmp 29))), (3, (1, (.const (.v (.int .i64 1)))))])⟩, ⟨none, none, (.store 4 (.tmp 4) (.tmp 30))⟩]) .ret)
  .skip)) (.seq (.region false [⟨(some 31), none, (.fieldAddr 0 (.tmp 2))⟩, ⟨(some 32), none, (.load false 1 (.tmp 31))⟩, ⟨(some 33), none, (.move (.tmp 5))⟩, ⟨(some 34), none, (.arith .sub (.tmp 33)
  (.const (.v (.int .i64 1))))⟩, ⟨(some 35), none, (.indexAddr none 4 (.tmp 32) (.tmp 34))⟩, ⟨(some 36), none, (.load true 4 (.tmp 35))⟩, ⟨(some 7), none, (.alloc [(.v (.int .i64 0)), (.v (.int .i64
  0)), (.v (.int .i64 0)), (.v (.int .i64 0))])⟩, ⟨none, none, (.store 4 (.tmp 7) (.tmp 36))⟩]) (.seq (.seq (.region false [⟨none, none, (.reserve 2)⟩]) (.region true [⟨(some 37), none, (.fieldAddr 1
  (.tmp 7))⟩, ⟨(some 38), none, (.loadr 2 true 3 (.tmp 37))⟩, ⟨(some 39), none, (.fcall true [[(.v (.int .i64 0)), (.v (.int .i64 0)), (.v (.int .i64 0))], [(.v (.int .i64 0)), (.v (.int .i64 0)), (.v
  (.int .i64 0))]] 47 [(.tmp 38)])⟩, ⟨(some 40), none, (.fieldAddr 1 (.tmp 6))⟩, ⟨(some 41), none, (.loadr 2 true 3 (.tmp 40))⟩, ⟨(some 42), none, (.fcall true [[(.v (.int .i64 0)), (.v (.int .i64
  0)), (.v (.int .i64 0))], [(.v (.int .i64 0)), (.v (.int .i64 0)), (.v (.int .i64 0))]] 47 [(.tmp 41)])⟩, ⟨(some 43), none, (.fieldAddr 1 (.tmp 7))⟩, ⟨(some 44), none, (.loadr 2 true 3 (.tmp 43))⟩,
  ⟨(some 45), none, (.fcall true [[(.v (.int .i64 0)), (.v (.int .i64 0)), (.v (.int .i64 0))], [(.v (.int .i64 0)), (.v (.int .i64 0)), (.v (.int .i64 0))]] 47 [(.tmp 44)])⟩, ⟨(some 46), none,
  (.fcall true [[(.v (.int .i64 0)), (.v (.int .i64 0)), (.v (.int .i64 0))], [(.v (.int .i64 0)), (.v (.int .i64 0)), (.v (.int .i64 0))]] 48 [(.tmp 42), (.tmp 45)])⟩, ⟨(some 47), none, (.fieldAddr 0
  (.tmp 6))⟩, ⟨(some 48), none, (.loadr 2 false 1 (.tmp 47))⟩, ⟨(some 49), none, (.fieldAddr 0 (.tmp 7))⟩, ⟨(some 50), none, (.loadr 2 false 1 (.tmp 49))⟩, ⟨(some 51), none, (.arith .sub (.tmp 48)
  (.tmp 50))⟩, ⟨(some 8), none, (.slot 2 [(.v (.int .i64 0)), (.v (.int .i64 0)), (.v (.int .i64 0))])⟩, ⟨(some 9), none, (.slot 1 [(.v (.int .i64 0)), (.v (.int .i64 0)), (.v (.int .i64 0))])⟩,
  ⟨none, none, (.fill 2 3 (.tmp 8) (.tmp 39))⟩, ⟨none, none, (.fill 1 3 (.tmp 9) (.tmp 46))⟩, ⟨(some 10), none, (.move (.tmp 51))⟩])) (.seq (.region false [⟨(some 52), none, (.move (.tmp 10))⟩, ⟨(some
  53), none, (.build [(.v (.int .i64 0)), (.v (.int .i64 0)), (.v (.int .i64 0)), (.v (.int .i64 0))] [(3, (1, (.tmp 52)))])⟩, ⟨(some 11), none, (.alloc [(.v (.int .i64 0)), (.v (.int .i64 0)), (.v
  (.int .i64 0)), (.v (.int .i64 0))])⟩, ⟨none, none, (.store 4 (.tmp 11) (.tmp 53))⟩]) (.seq (.seq (.region false [⟨(some 54), none, (.move (.const (.v (.int .i64 0))))⟩]) (.block 0 (.loop
  b_path_at_l0))) b_path_at_r0))))))))
def c_path_at : AFn := .code 2 76 b_path_at [(.cell true 4 4)] false
def b_path_gap_nearest : ACode := (.seq (.region false [⟨(some 1), none, (.box 5 (.tmp 0))⟩, ⟨(some 2), none, (.alloc [(.v (.int .u64 0)), (.v (.int .u64 0))])⟩]) (.seq (.region false [⟨(some 3),
 none, (.load true 5 (.tmp 1))⟩, ⟨(some 4), none, (.mkFn 50 [] [(.tmp 1)])⟩, ⟨(some 5), none, (.call false 49 [(.tmp 3), (.tmp 4)])⟩, ⟨none, none, (.store 2 (.tmp 2) (.tmp 5))⟩]) .ret))
def c_path_gap_nearest : AFn := .code 1 6 b_path_gap_nearest [(.cell true 2 2)] false
def b_path_gap_farthest : ACode := (.seq (.region false [⟨(some 1), none, (.box 5 (.tmp 0))⟩, ⟨(some 2), none, (.alloc [(.v (.int .u64 0)), (.v (.int .u64 0))])⟩]) (.seq (.region false [⟨(some 3),
 none, (.load true 5 (.tmp 1))⟩, ⟨(some 4), none, (.mkFn 51 [] [(.tmp 1)])⟩, ⟨(some 5), none, (.call false 49 [(.tmp 3), (.tmp 4)])⟩, ⟨none, none, (.store 2 (.tmp 2) (.tmp 5))⟩]) .ret))
def c_path_gap_farthest : AFn := .code 1 6 b_path_gap_farthest [(.cell true 2 2)] false
def b_sort_Search_r0 : ACode := (.seq (.region false [⟨(some 25), none, (.move (.tmp 5))⟩, ⟨(some 4), none, (.move (.tmp 25))⟩]) .ret)
def b_sort_Search_l0 : ACode := (.seq (.seq (.region false [⟨(some 9), none, (.move (.tmp 5))⟩, ⟨(some 10), none, (.move (.tmp 6))⟩, ⟨(some 11), none, (.arith .lss (.tmp 9) (.tmp 10))⟩]) (.cond (.tmp
  11) .skip (.exit 0))) (.block 1 (.seq (.region false [⟨(some 12), none, (.move (.tmp 5))⟩, ⟨(some 13), none, (.move (.tmp 6))⟩, ⟨(some 14), none, (.arith .add (.tmp 12) (.tmp 13))⟩, ⟨(some 15),
  none, (.conv (.int .u64) (.tmp 14))⟩, ⟨(some 16), none, (.arith .shr (.tmp 15) (.const (.v (.int .u64 1))))⟩, ⟨(some 17), none, (.conv (.int .i64) (.tmp 16))⟩, ⟨(some 7), none, (.move (.tmp 17))⟩])
  (.seq (.region false [⟨(some 18), none, (.move (.tmp 1))⟩, ⟨(some 19), none, (.move (.tmp 7))⟩, ⟨(some 20), none, (.callv false (.tmp 18) [(.tmp 19)])⟩, ⟨(some 21), none, (.un .not (.tmp 20))⟩])
  (.cond (.tmp 21) (.region false [⟨(some 22), none, (.move (.tmp 7))⟩, ⟨(some 23), none, (.arith .add (.tmp 22) (.const (.v (.int .i64 1))))⟩, ⟨(some 5), none, (.move (.tmp 23))⟩]) (.region false
  [⟨(some 24), none, (.move (.tmp 7))⟩, ⟨(some 6), none, (.move (.tmp 24))⟩]))))))
def b_sort_Search : ACode := (.seq (.region false [⟨(some 4), none, (.move (.const (.v (.int .i64 0))))⟩]) (.seq (.region false [⟨(some 8), none, (.move (.tmp 0))⟩, ⟨(some 5), none, (.move (.const (.v
 (.int .i64 0))))⟩, ⟨(some 6), none, (.move (.tmp 8))⟩]) (.seq (.block 0 (.loop b_sort_Search_l0)) b_sort_Search_r0)))
abbrev k_sort_Search_0 : List K := [.blk 0, .c b_sort_Search_r0]
abbrev f_sort_Search := finF [(.tmp 4)] false
def c_sort_Search : AFn := .code 2 26 b_sort_Search [(.tmp 4)] false
def b_path_gap_distances_1 : ACode := (.seq (.region false [⟨(some 4), none, (.move (.const (.v (.bool false))))⟩]) (.seq (.region true [⟨(some 5), none, (.load true 2 (.tmp 1))⟩, ⟨(some 6), none,
 (.move (.tmp 0))⟩, ⟨(some 7), none, (.arith .add (.tmp 6) (.const (.v (.int .i64 1))))⟩, ⟨(some 8), none, (.fieldAddr 0 (.tmp 2))⟩, ⟨(some 9), none, (.fieldAddr 3 (.tmp 8))⟩, ⟨(some 10), none,
 (.load false 1 (.tmp 9))⟩, ⟨(some 11), none, (.arith .mul (.tmp 7) (.tmp 10))⟩, ⟨(some 12), none, (.call true 37 [(.tmp 11)])⟩, ⟨(some 13), none, (.call false 36 [(.tmp 5), (.tmp 12)])⟩, ⟨(some 4),
 none, (.move (.tmp 13))⟩]) .ret))
def c_path_gap_distances_1 : AFn := .code 3 14 b_path_gap_distances_1 [(.tmp 4)] false
def b_path_wide_less : ACode := (.seq (.region false [⟨(some 2), none, (.box 2 (.tmp 0))⟩, ⟨(some 3), none, (.box 2 (.tmp 1))⟩, ⟨(some 4), none, (.move (.const (.v (.bool false))))⟩]) (.seq (.region
 false [⟨(some 5), none, (.indexAddr (some 2) 1 (.tmp 2) (.const (.v (.int .i64 0))))⟩, ⟨(some 6), none, (.load false 1 (.tmp 5))⟩, ⟨(some 7), none, (.indexAddr (some 2) 1 (.tmp 3) (.const (.v (.int
 .i64 0))))⟩, ⟨(some 8), none, (.load false 1 (.tmp 7))⟩, ⟨(some 9), none, (.arith .lss (.tmp 6) (.tmp 8))⟩, ⟨(some 10), none, (.move (.tmp 9))⟩, ⟨(some 11), (some (10, false)), (.indexAddr (some 2)
 1 (.tmp 2) (.const (.v (.int .i64 0))))⟩, ⟨(some 12), (some (10, false)), (.load false 1 (.tmp 11))⟩, ⟨(some 13), (some (10, false)), (.indexAddr (some 2) 1 (.tmp 3) (.const (.v (.int .i64 0))))⟩,
 ⟨(some 14), (some (10, false)), (.load false 1 (.tmp 13))⟩, ⟨(some 15), (some (10, false)), (.arith .eql (.tmp 12) (.tmp 14))⟩, ⟨(some 16), (some (10, false)), (.move (.tmp 15))⟩, ⟨(some 17), (some
 (16, true)), (.indexAddr (some 2) 1 (.tmp 2) (.const (.v (.int .i64 1))))⟩, ⟨(some 18), (some (16, true)), (.load false 1 (.tmp 17))⟩, ⟨(some 19), (some (16, true)), (.indexAddr (some 2) 1 (.tmp 3)
 (.const (.v (.int .i64 1))))⟩, ⟨(some 20), (some (16, true)), (.load false 1 (.tmp 19))⟩, ⟨(some 21), (some (16, true)), (.arith .lss (.tmp 18) (.tmp 20))⟩, ⟨(some 22), (some (10, false)), (.pick
 (.tmp 16) (.tmp 21) (.const (.v (.bool false))))⟩, ⟨(some 23), none, (.pick (.tmp 10) (.const (.v (.bool true))) (.tmp 22))⟩, ⟨(some 4), none, (.move (.tmp 23))⟩]) .ret))
def c_path_wide_less : AFn := .code 2 24 b_path_wide_less [(.tmp 4)] false
def b_path_squared : ACode := (.seq (.region false [⟨(some 2), none, (.alloc [(.v (.int .u64 0)), (.v (.int .u64 0))])⟩]) (.seq (.region false [⟨(some 6), none, (.move (.tmp 0))⟩, ⟨(some 7), none,
  (.move (.tmp 0))⟩, ⟨(some 8), none, (.un .neg (.tmp 7))⟩, ⟨(some 9), none, (.minmax true [(.tmp 6), (.tmp 8)])⟩, ⟨(some 10), none, (.conv (.int .u64) (.tmp 9))⟩, ⟨(some 3), none, (.move (.tmp
  10))⟩]) (.seq (.region false [⟨(some 12), none, (.move (.tmp 3))⟩, ⟨(some 13), none, (.move (.tmp 3))⟩, ⟨(some 14), none, (.call false 52 [(.tmp 12), (.tmp 13)])⟩, ⟨(some 11), none, (.move (.tmp
  14))⟩, ⟨(some 15), none, (.extract 0 (.tmp 11))⟩, ⟨(some 16), none, (.extract 1 (.tmp 11))⟩, ⟨(some 4), none, (.move (.tmp 15))⟩, ⟨(some 5), none, (.move (.tmp 16))⟩]) (.seq (.region false [⟨(some
  17), none, (.move (.tmp 4))⟩, ⟨(some 18), none, (.move (.tmp 5))⟩, ⟨(some 19), none, (.build [(.v (.int .u64 0)), (.v (.int .u64 0))] [(0, (1, (.tmp 17))), (1, (1, (.tmp 18)))])⟩, ⟨none, none,
  (.store 2 (.tmp 2) (.tmp 19))⟩]) .ret))))
def c_path_squared : AFn := .code 1 20 b_path_squared [(.cell true 2 2)] false
def b_path_gap_distances_2 : ACode := (.seq (.region false [⟨(some 4), none, (.move (.const (.v (.bool false))))⟩]) (.seq (.region true [⟨(some 5), none, (.move (.tmp 0))⟩, ⟨(some 6), none,
  (.fieldAddr 0 (.tmp 1))⟩, ⟨(some 7), none, (.fieldAddr 3 (.tmp 6))⟩, ⟨(some 8), none, (.load false 1 (.tmp 7))⟩, ⟨(some 9), none, (.arith .mul (.tmp 5) (.tmp 8))⟩, ⟨(some 10), none, (.call true 37
  [(.tmp 9)])⟩, ⟨(some 11), none, (.load true 2 (.tmp 2))⟩, ⟨(some 12), none, (.call false 36 [(.tmp 10), (.tmp 11)])⟩, ⟨(some 13), none, (.un .not (.tmp 12))⟩, ⟨(some 4), none, (.move (.tmp 13))⟩])
  .ret))
def c_path_gap_distances_2 : AFn := .code 3 14 b_path_gap_distances_2 [(.tmp 4)] false
def b_path_arrived : ACode := (.seq (.region false [⟨(some 4), none, (.box 2 (.tmp 0))⟩, ⟨(some 6), none, (.box 2 (.tmp 2))⟩, ⟨(some 8), none, (.move (.const (.v (.bool false))))⟩]) (.seq (.region
  false [⟨(some 10), none, (.load true 2 (.tmp 4))⟩, ⟨(some 11), none, (.move (.tmp 1))⟩, ⟨(some 12), none, (.load true 2 (.tmp 6))⟩, ⟨(some 13), none, (.move (.tmp 3))⟩, ⟨(some 14), none, (.call
  false 21 [(.tmp 10), (.tmp 11), (.tmp 12), (.tmp 13)])⟩, ⟨(some 9), none, (.alloc [(.v (.int .i64 0)), (.v (.int .i64 0)), (.v (.int .i64 0)), (.v (.int .i64 0)), (.v (.int .i64 0))])⟩, ⟨none, none,
  (.store 5 (.tmp 9) (.tmp 14))⟩]) (.seq (.region true [⟨(some 15), none, (.move (.tmp 3))⟩, ⟨(some 16), none, (.move (.tmp 1))⟩, ⟨(some 17), none, (.arith .sub (.tmp 15) (.tmp 16))⟩, ⟨(some 18),
  none, (.fieldAddr 0 (.tmp 9))⟩, ⟨(some 19), none, (.fieldAddr 3 (.tmp 18))⟩, ⟨(some 20), none, (.load false 1 (.tmp 19))⟩, ⟨(some 21), none, (.arith .mul (.tmp 17) (.tmp 20))⟩, ⟨(some 22), none,
  (.call true 37 [(.tmp 21)])⟩, ⟨(some 23), none, (.load true 5 (.tmp 9))⟩, ⟨(some 24), none, (.call false 33 [(.tmp 23)])⟩, ⟨(some 25), none, (.call false 36 [(.tmp 22), (.tmp 24)])⟩, ⟨(some 26),
  none, (.un .not (.tmp 25))⟩, ⟨(some 8), none, (.move (.tmp 26))⟩]) .ret)))
def c_path_arrived : AFn := .code 4 27 b_path_arrived [(.tmp 8)] false
def b_path_received_1 : ACode := (.seq (.region false [⟨(some 5), none, (.move (.const (.v (.bool false))))⟩]) (.seq (.region false [⟨(some 6), none, (.load true 2 (.tmp 1))⟩, ⟨(some 7), none, (.load
 false 1 (.tmp 2))⟩, ⟨(some 8), none, (.load true 2 (.tmp 3))⟩, ⟨(some 9), none, (.load false 1 (.tmp 2))⟩, ⟨(some 10), none, (.move (.tmp 0))⟩, ⟨(some 11), none, (.arith .add (.tmp 9) (.tmp 10))⟩,
 ⟨(some 12), none, (.call false 39 [(.tmp 6), (.tmp 7), (.tmp 8), (.tmp 11)])⟩, ⟨(some 5), none, (.move (.tmp 12))⟩]) .ret))
def c_path_received_1 : AFn := .code 4 13 b_path_received_1 [(.tmp 5)] false
def b_path_received_2 : ACode := (.seq (.region false [⟨(some 5), none, (.move (.const (.v (.bool false))))⟩]) (.seq (.region false [⟨(some 6), none, (.load true 2 (.tmp 1))⟩, ⟨(some 7), none, (.load
 false 1 (.tmp 2))⟩, ⟨(some 8), none, (.load true 2 (.tmp 3))⟩, ⟨(some 9), none, (.load false 1 (.tmp 2))⟩, ⟨(some 10), none, (.move (.tmp 0))⟩, ⟨(some 11), none, (.arith .add (.tmp 9) (.tmp 10))⟩,
 ⟨(some 12), none, (.call false 42 [(.tmp 6), (.tmp 7), (.tmp 8), (.tmp 11)])⟩, ⟨(some 13), none, (.un .not (.tmp 12))⟩, ⟨(some 5), none, (.move (.tmp 13))⟩]) .ret))
def c_path_received_2 : AFn := .code 4 14 b_path_received_2 [(.tmp 5)] false
def b_path_missing : ACode := (.seq (.region false [⟨(some 4), none, (.box 2 (.tmp 0))⟩, ⟨(some 6), none, (.box 2 (.tmp 2))⟩, ⟨(some 8), none, (.move (.const (.v (.bool false))))⟩]) (.seq (.region
  false [⟨(some 10), none, (.load true 2 (.tmp 4))⟩, ⟨(some 11), none, (.move (.tmp 1))⟩, ⟨(some 12), none, (.load true 2 (.tmp 6))⟩, ⟨(some 13), none, (.move (.tmp 3))⟩, ⟨(some 14), none, (.call
  false 21 [(.tmp 10), (.tmp 11), (.tmp 12), (.tmp 13)])⟩, ⟨(some 9), none, (.alloc [(.v (.int .i64 0)), (.v (.int .i64 0)), (.v (.int .i64 0)), (.v (.int .i64 0)), (.v (.int .i64 0))])⟩, ⟨none, none,
  (.store 5 (.tmp 9) (.tmp 14))⟩]) (.seq (.region true [⟨(some 15), none, (.move (.tmp 3))⟩, ⟨(some 16), none, (.move (.tmp 1))⟩, ⟨(some 17), none, (.arith .sub (.tmp 15) (.tmp 16))⟩, ⟨(some 18),
  none, (.fieldAddr 0 (.tmp 9))⟩, ⟨(some 19), none, (.fieldAddr 3 (.tmp 18))⟩, ⟨(some 20), none, (.load false 1 (.tmp 19))⟩, ⟨(some 21), none, (.arith .mul (.tmp 17) (.tmp 20))⟩, ⟨(some 22), none,
  (.call true 37 [(.tmp 21)])⟩, ⟨(some 23), none, (.load true 5 (.tmp 9))⟩, ⟨(some 24), none, (.call false 32 [(.tmp 23)])⟩, ⟨(some 25), none, (.call false 36 [(.tmp 22), (.tmp 24)])⟩, ⟨(some 8),
  none, (.move (.tmp 25))⟩]) .ret)))
def c_path_missing : AFn := .code 4 26 b_path_missing [(.tmp 8)] false
def b_r_knotErr : ACode := (.seq (.region false [⟨(some 4), none, (.move (.const (.v (.int .i64 0))))⟩]) (.seq (.region false [⟨(some 8), none, (.move (.tmp 0))⟩, ⟨(some 9), none, (.move (.tmp 1))⟩,
  ⟨(some 10), none, (.indexAddr none 4 (.tmp 8) (.tmp 9))⟩, ⟨(some 11), none, (.load true 4 (.tmp 10))⟩, ⟨(some 5), none, (.alloc [(.v (.int .i64 0)), (.v (.int .i64 0)), (.v (.int .i64 0)), (.v (.int
  .i64 0))])⟩, ⟨none, none, (.store 4 (.tmp 5) (.tmp 11))⟩]) (.seq (.region false [⟨(some 6), none, (.move (.const (.v (.int .i64 1000000))))⟩]) (.seq (.seq (.region false [⟨(some 12), none,
  (.fieldAddr 0 (.tmp 5))⟩, ⟨(some 13), none, (.load false 1 (.tmp 12))⟩, ⟨(some 14), none, (.call false 53 [(.tmp 13)])⟩, ⟨(some 15), none, (.un .not (.tmp 14))⟩, ⟨(some 16), none, (.move (.tmp
  15))⟩, ⟨(some 17), (some (16, false)), (.fieldAddr 1 (.tmp 5))⟩, ⟨(some 18), (some (16, false)), (.fieldAddr 0 (.tmp 17))⟩, ⟨(some 19), (some (16, false)), (.load false 1 (.tmp 18))⟩, ⟨(some 20),
  (some (16, false)), (.move (.tmp 6))⟩, ⟨(some 21), (some (16, false)), (.un .neg (.tmp 20))⟩, ⟨(some 22), (some (16, false)), (.move (.tmp 6))⟩, ⟨(some 23), (some (16, false)), (.call false 8 [(.tmp
  19), (.tmp 21), (.tmp 22)])⟩, ⟨(some 24), (some (16, false)), (.un .not (.tmp 23))⟩, ⟨(some 25), none, (.pick (.tmp 16) (.const (.v (.bool true))) (.tmp 24))⟩, ⟨(some 26), none, (.move (.tmp 25))⟩,
  ⟨(some 27), (some (26, false)), (.fieldAddr 1 (.tmp 5))⟩, ⟨(some 28), (some (26, false)), (.fieldAddr 1 (.tmp 27))⟩, ⟨(some 29), (some (26, false)), (.load false 1 (.tmp 28))⟩, ⟨(some 30), (some
  (26, false)), (.move (.tmp 6))⟩, ⟨(some 31), (some (26, false)), (.un .neg (.tmp 30))⟩, ⟨(some 32), (some (26, false)), (.move (.tmp 6))⟩, ⟨(some 33), (some (26, false)), (.call false 8 [(.tmp 29),
  (.tmp 31), (.tmp 32)])⟩, ⟨(some 34), (some (26, false)), (.un .not (.tmp 33))⟩, ⟨(some 35), none, (.pick (.tmp 26) (.const (.v (.bool true))) (.tmp 34))⟩, ⟨(some 36), none, (.move (.tmp 35))⟩,
  ⟨(some 37), (some (36, false)), (.fieldAddr 1 (.tmp 5))⟩, ⟨(some 38), (some (36, false)), (.fieldAddr 2 (.tmp 37))⟩, ⟨(some 39), (some (36, false)), (.load false 1 (.tmp 38))⟩, ⟨(some 40), (some
  (36, false)), (.move (.tmp 6))⟩, ⟨(some 41), (some (36, false)), (.un .neg (.tmp 40))⟩, ⟨(some 42), (some (36, false)), (.move (.tmp 6))⟩, ⟨(some 43), (some (36, false)), (.call false 8 [(.tmp 39),
  (.tmp 41), (.tmp 42)])⟩, ⟨(some 44), (some (36, false)), (.un .not (.tmp 43))⟩, ⟨(some 45), none, (.pick (.tmp 36) (.const (.v (.bool true))) (.tmp 44))⟩]) (.cond (.tmp 45) (.seq (.region false
  [⟨(some 4), none, (.move (.const (.v (.int .i64 2))))⟩]) .ret) .skip)) (.seq (.seq (.region false [⟨(some 46), none, (.move (.tmp 1))⟩, ⟨(some 47), none, (.arith .eql (.tmp 46) (.const (.v (.int
  .i64 0))))⟩]) (.cond (.tmp 47) (.seq (.region false [⟨(some 4), none, (.move (.const (.v (.int .i64 0))))⟩]) .ret) .skip)) (.seq (.region false [⟨(some 48), none, (.move (.tmp 0))⟩, ⟨(some 49),
  none, (.move (.tmp 1))⟩, ⟨(some 50), none, (.arith .sub (.tmp 49) (.const (.v (.int .i64 1))))⟩, ⟨(some 51), none, (.indexAddr none 4 (.tmp 48) (.tmp 50))⟩, ⟨(some 52), none, (.load true 4 (.tmp
  51))⟩, ⟨(some 7), none, (.alloc [(.v (.int .i64 0)), (.v (.int .i64 0)), (.v (.int .i64 0)), (.v (.int .i64 0))])⟩, ⟨none, none, (.store 4 (.tmp 7) (.tmp 52))⟩]) (.seq (.seq (.region false [⟨(some
  53), none, (.fieldAddr 0 (.tmp 5))⟩, ⟨(some 54), none, (.load false 1 (.tmp 53))⟩, ⟨(some 55), none, (.fieldAddr 0 (.tmp 7))⟩, ⟨(some 56), none, (.load false 1 (.tmp 55))⟩, ⟨(some 57), none, (.arith
  .leq (.tmp 54) (.tmp 56))⟩]) (.cond (.tmp 57) (.seq (.region false [⟨(some 4), none, (.move (.const (.v (.int .i64 9))))⟩]) .ret) .skip)) (.seq (.seq (.region false [⟨(some 58), none, (.fieldAddr 0
  (.tmp 5))⟩, ⟨(some 59), none, (.load false 1 (.tmp 58))⟩, ⟨(some 60), none, (.fieldAddr 0 (.tmp 7))⟩, ⟨(some 61), none, (.load false 1 (.tmp 60))⟩, ⟨(some 62), none, (.arith .sub (.tmp 59) (.tmp
  61))⟩, ⟨(some 63), none, (.arith .gtr (.tmp 62) (.const (.v (.int .i64 10000))))⟩]) (.cond (.tmp 63) (.seq (.region false [⟨(some 4), none, (.move (.const (.v (.int .i64 14))))⟩]) .ret) .skip))
  (.seq (.seq (.region true [⟨(some 64), none, (.fieldAddr 1 (.tmp 5))⟩, ⟨(some 65), none, (.load true 3 (.tmp 64))⟩, ⟨(some 66), none, (.fieldAddr 1 (.tmp 7))⟩, ⟨(some 67), none, (.load true 3 (.tmp
  66))⟩, ⟨(some 68), none, (.call true 55 [(.tmp 65), (.tmp 67)])⟩, ⟨(some 69), none, (.call true 54 [(.tmp 68)])⟩, ⟨(some 70), none, (.arith .mul (.const (.v (.int .i64 4))) (.tmp 69))⟩, ⟨(some 71),
  none, (.fieldAddr 0 (.tmp 5))⟩, ⟨(some 72), none, (.load false 1 (.tmp 71))⟩, ⟨(some 73), none, (.fieldAddr 0 (.tmp 7))⟩, ⟨(some 74), none, (.load false 1 (.tmp 73))⟩, ⟨(some 75), none, (.arith .sub
  (.tmp 72) (.tmp 74))⟩, ⟨(some 76), none, (.fieldAddr 0 (.tmp 5))⟩, ⟨(some 77), none, (.load false 1 (.tmp 76))⟩, ⟨(some 78), none, (.fieldAddr 0 (.tmp 7))⟩, ⟨(some 79), none, (.load false 1 (.tmp
  78))⟩, ⟨(some 80), none, (.arith .sub (.tmp 77) (.tmp 79))⟩, ⟨(some 81), none, (.arith .mul (.tmp 75) (.tmp 80))⟩, ⟨(some 82), none, (.arith .gtr (.tmp 70) (.tmp 81))⟩]) (.cond (.tmp 82) (.seq
  (.region false [⟨(some 4), none, (.move (.const (.v (.int .i64 23))))⟩]) .ret) .skip)) (.seq (.region false [⟨(some 4), none, (.move (.const (.v (.int .i64 0))))⟩]) .ret))))))))))
def c_r_knotErr : AFn := .code 2 83 b_r_knotErr [(.tmp 4)] false
def b_path_unless : ACode := (.seq (.region false [⟨(some 4), none, (.move (.const (.v (.int .i64 0))))⟩]) (.seq (.seq (.region false [⟨(some 5), none, (.move (.tmp 0))⟩]) (.cond (.tmp 5) (.seq
 (.region false [⟨(some 4), none, (.move (.const (.v (.int .i64 0))))⟩]) .ret) .skip)) (.seq (.region false [⟨(some 6), none, (.move (.tmp 1))⟩, ⟨(some 4), none, (.move (.tmp 6))⟩]) .ret)))
def c_path_unless : AFn := .code 2 7 b_path_unless [(.tmp 4)] false
def b_path_knotErr : ACode := (.seq (.region false [⟨(some 2), none, (.box 4 (.tmp 0))⟩, ⟨(some 4), none, (.move (.const (.v (.int .i64 0))))⟩]) (.seq (.region false [⟨(some 10), none, (.fieldAddr 1
  (.tmp 2))⟩, ⟨(some 11), none, (.load true 3 (.tmp 10))⟩, ⟨(some 12), none, (.call false 47 [(.tmp 11)])⟩, ⟨(some 5), none, (.alloc [(.v (.int .i64 0)), (.v (.int .i64 0)), (.v (.int .i64 0))])⟩,
  ⟨none, none, (.store 3 (.tmp 5) (.tmp 12))⟩]) (.seq (.region false [⟨(some 6), none, (.move (.const (.fn 56 [] [])))⟩]) (.seq (.seq (.region false [⟨(some 13), none, (.fieldAddr 0 (.tmp 2))⟩, ⟨(some
  14), none, (.load false 1 (.tmp 13))⟩, ⟨(some 15), none, (.call false 29 [(.tmp 14), (.const (.v (.int .i64 0))), (.const (.v (.int .i64 1000000000000)))])⟩, ⟨(some 16), none, (.move (.tmp 15))⟩,
  ⟨(some 17), (some (16, true)), (.load true 3 (.tmp 5))⟩, ⟨(some 18), (some (16, true)), (.move (.tmp 6))⟩, ⟨(some 19), (some (16, true)), (.call false 58 [(.tmp 17), (.tmp 18)])⟩, ⟨(some 20), none,
  (.pick (.tmp 16) (.tmp 19) (.const (.v (.bool false))))⟩, ⟨(some 21), none, (.call false 44 [(.tmp 20), (.const (.v (.int .i64 2)))])⟩, ⟨(some 7), none, (.move (.tmp 21))⟩]) (.seq (.region false
  [⟨(some 22), none, (.move (.tmp 7))⟩, ⟨(some 23), none, (.arith .neq (.tmp 22) (.const (.v (.int .i64 0))))⟩, ⟨(some 24), none, (.move (.tmp 23))⟩, ⟨(some 25), (some (24, false)), (.move (.tmp 1))⟩,
  ⟨(some 26), (some (24, false)), (.eqv false .ptr (.tmp 25) (.const (.v (.pointer none))))⟩, ⟨(some 27), none, (.pick (.tmp 24) (.const (.v (.bool true))) (.tmp 26))⟩]) (.cond (.tmp 27) (.seq
  (.region false [⟨(some 28), none, (.move (.tmp 7))⟩, ⟨(some 4), none, (.move (.tmp 28))⟩]) .ret) .skip))) (.seq (.seq (.region false [⟨none, none, (.reserve 1)⟩]) (.region true [⟨(some 29), none,
  (.fieldAddr 0 (.tmp 2))⟩, ⟨(some 30), none, (.loadr 1 false 1 (.tmp 29))⟩, ⟨(some 31), none, (.move (.tmp 1))⟩, ⟨(some 32), none, (.nilCheck (.tmp 31))⟩, ⟨(some 33), none, (.fieldAddr 0 (.tmp 32))⟩,
  ⟨(some 34), none, (.loadr 1 false 1 (.tmp 33))⟩, ⟨(some 35), none, (.arith .sub (.tmp 30) (.tmp 34))⟩, ⟨(some 36), none, (.loadr 1 true 3 (.tmp 5))⟩, ⟨(some 37), none, (.move (.tmp 1))⟩, ⟨(some 38),
  none, (.nilCheck (.tmp 37))⟩, ⟨(some 39), none, (.fieldAddr 1 (.tmp 38))⟩, ⟨(some 40), none, (.loadr 1 true 3 (.tmp 39))⟩, ⟨(some 41), none, (.fcall true [[(.v (.int .i64 0)), (.v (.int .i64 0)),
  (.v (.int .i64 0))]] 47 [(.tmp 40)])⟩, ⟨(some 42), none, (.fcall true [[(.v (.int .i64 0)), (.v (.int .i64 0)), (.v (.int .i64 0))]] 48 [(.tmp 36), (.tmp 41)])⟩, ⟨(some 9), none, (.slot 1 [(.v (.int
  .i64 0)), (.v (.int .i64 0)), (.v (.int .i64 0))])⟩, ⟨(some 8), none, (.move (.tmp 35))⟩, ⟨none, none, (.fill 1 3 (.tmp 9) (.tmp 42))⟩])) (.seq (.region true [⟨(some 43), none, (.move (.tmp 8))⟩,
  ⟨(some 44), none, (.arith .gtr (.tmp 43) (.const (.v (.int .i64 0))))⟩, ⟨(some 45), none, (.call true 44 [(.tmp 44), (.const (.v (.int .i64 9)))])⟩, ⟨(some 46), none, (.move (.tmp 8))⟩, ⟨(some 47),
  none, (.arith .leq (.tmp 46) (.const (.v (.int .i64 10000))))⟩, ⟨(some 48), none, (.call true 44 [(.tmp 47), (.const (.v (.int .i64 14)))])⟩, ⟨(some 49), none, (.load true 3 (.tmp 9))⟩, ⟨(some 50),
  none, (.load true 3 (.tmp 9))⟩, ⟨(some 51), none, (.call false 59 [(.tmp 49), (.tmp 50)])⟩, ⟨(some 52), none, (.arith .mul (.const (.v (.int .i64 4))) (.tmp 51))⟩, ⟨(some 53), none, (.move (.tmp
  8))⟩, ⟨(some 54), none, (.move (.tmp 8))⟩, ⟨(some 55), none, (.arith .mul (.tmp 53) (.tmp 54))⟩, ⟨(some 56), none, (.arith .leq (.tmp 52) (.tmp 55))⟩, ⟨(some 57), none, (.call false 44 [(.tmp 56),
  (.const (.v (.int .i64 23)))])⟩, ⟨(some 58), none, (.buildSlice 1 [[(.v (.int .i64 0))], [(.v (.int .i64 0))], [(.v (.int .i64 0))]] [(0, (.tmp 45)), (1, (.tmp 48)), (2, (.tmp 57))])⟩, ⟨(some 59),
  none, (.call false 24 [(.tmp 58)])⟩, ⟨(some 4), none, (.move (.tmp 59))⟩]) .ret))))))
def c_path_knotErr : AFn := .code 2 60 b_path_knotErr [(.tmp 4)] false
def b_path_at_1 : ACode := (.seq (.region false [⟨(some 4), none, (.move (.const (.v (.bool false))))⟩]) (.seq (.region true [⟨(some 5), none, (.fieldAddr 0 (.tmp 1))⟩, ⟨(some 6), none, (.load false 1
 (.tmp 5))⟩, ⟨(some 7), none, (.move (.tmp 0))⟩, ⟨(some 8), none, (.indexAddr none 4 (.tmp 6) (.tmp 7))⟩, ⟨(some 9), none, (.fieldAddr 0 (.tmp 8))⟩, ⟨(some 10), none, (.load false 1 (.tmp 9))⟩,
 ⟨(some 11), none, (.load false 1 (.tmp 2))⟩, ⟨(some 12), none, (.arith .geq (.tmp 10) (.tmp 11))⟩, ⟨(some 4), none, (.move (.tmp 12))⟩]) .ret))
def c_path_at_1 : AFn := .code 3 13 b_path_at_1 [(.tmp 4)] false
def b_path_ofPoint : ACode := (.seq (.region false [⟨(some 1), none, (.box 3 (.tmp 0))⟩, ⟨(some 2), none, (.alloc [(.v (.int .i64 0)), (.v (.int .i64 0)), (.v (.int .i64 0))])⟩]) (.seq (.region false
  [⟨(some 3), none, (.fieldAddr 0 (.tmp 1))⟩, ⟨(some 4), none, (.load false 1 (.tmp 3))⟩, ⟨(some 5), none, (.fieldAddr 1 (.tmp 1))⟩, ⟨(some 6), none, (.load false 1 (.tmp 5))⟩, ⟨(some 7), none,
  (.fieldAddr 2 (.tmp 1))⟩, ⟨(some 8), none, (.load false 1 (.tmp 7))⟩, ⟨(some 9), none, (.build [(.v (.int .i64 0)), (.v (.int .i64 0)), (.v (.int .i64 0))] [(0, (1, (.tmp 4))), (1, (1, (.tmp 6))),
  (2, (1, (.tmp 8)))])⟩, ⟨none, none, (.store 3 (.tmp 2) (.tmp 9))⟩]) .ret))
def c_path_ofPoint : AFn := .code 1 10 b_path_ofPoint [(.cell true 3 2)] false
def b_path_triple_minus : ACode := (.seq (.region false [⟨(some 2), none, (.box 3 (.tmp 0))⟩, ⟨(some 3), none, (.box 3 (.tmp 1))⟩, ⟨(some 4), none, (.alloc [(.v (.int .i64 0)), (.v (.int .i64 0)), (.v
  (.int .i64 0))])⟩]) (.seq (.region false [⟨(some 5), none, (.indexAddr (some 3) 1 (.tmp 2) (.const (.v (.int .i64 0))))⟩, ⟨(some 6), none, (.load false 1 (.tmp 5))⟩, ⟨(some 7), none, (.indexAddr
  (some 3) 1 (.tmp 3) (.const (.v (.int .i64 0))))⟩, ⟨(some 8), none, (.load false 1 (.tmp 7))⟩, ⟨(some 9), none, (.arith .sub (.tmp 6) (.tmp 8))⟩, ⟨(some 10), none, (.indexAddr (some 3) 1 (.tmp 2)
  (.const (.v (.int .i64 1))))⟩, ⟨(some 11), none, (.load false 1 (.tmp 10))⟩, ⟨(some 12), none, (.indexAddr (some 3) 1 (.tmp 3) (.const (.v (.int .i64 1))))⟩, ⟨(some 13), none, (.load false 1 (.tmp
  12))⟩, ⟨(some 14), none, (.arith .sub (.tmp 11) (.tmp 13))⟩, ⟨(some 15), none, (.indexAddr (some 3) 1 (.tmp 2) (.const (.v (.int .i64 2))))⟩, ⟨(some 16), none, (.load false 1 (.tmp 15))⟩, ⟨(some
  17), none, (.indexAddr (some 3) 1 (.tmp 3) (.const (.v (.int .i64 2))))⟩, ⟨(some 18), none, (.load false 1 (.tmp 17))⟩, ⟨(some 19), none, (.arith .sub (.tmp 16) (.tmp 18))⟩, ⟨(some 20), none,
  (.build [(.v (.int .i64 0)), (.v (.int .i64 0)), (.v (.int .i64 0))] [(0, (1, (.tmp 9))), (1, (1, (.tmp 14))), (2, (1, (.tmp 19)))])⟩, ⟨none, none, (.store 3 (.tmp 4) (.tmp 20))⟩]) .ret))
def c_path_triple_minus : AFn := .code 2 21 b_path_triple_minus [(.cell true 3 4)] false
def b_path_gap_sum_r0 : ACode := (.seq (.region false [⟨(some 24), none, (.load true 2 (.tmp 5))⟩, ⟨none, none, (.store 2 (.tmp 4) (.tmp 24))⟩]) .ret)
def b_path_gap_sum_l0 : ACode := (.seq (.region false [⟨(some 12), none, (.arith .lss (.tmp 11) (.const (.v (.int .i64 3))))⟩]) (.seq (.cond (.tmp 12) .skip (.exit 0)) (.seq (.block 1 (.seq (.region
 false [⟨(some 13), none, (.index 3 1 false (.tmp 10) (.tmp 11))⟩, ⟨(some 7), none, (.move (.tmp 13))⟩]) (.region true [⟨(some 14), none, (.load true 2 (.tmp 5))⟩, ⟨(some 15), none, (.move (.tmp
 1))⟩, ⟨(some 16), none, (.move (.tmp 7))⟩, ⟨(some 17), none, (.move (.tmp 7))⟩, ⟨(some 18), none, (.un .neg (.tmp 17))⟩, ⟨(some 19), none, (.minmax true [(.tmp 16), (.tmp 18)])⟩, ⟨(some 20), none,
 (.callv true (.tmp 15) [(.tmp 19)])⟩, ⟨(some 21), none, (.call true 37 [(.tmp 20)])⟩, ⟨(some 22), none, (.call false 60 [(.tmp 14), (.tmp 21)])⟩, ⟨none, none, (.store 2 (.tmp 5) (.tmp 22))⟩])))
 (.region false [⟨(some 23), none, (.arith .add (.tmp 11) (.const (.v (.int .i64 1))))⟩, ⟨(some 11), none, (.move (.tmp 23))⟩]))))
def b_path_gap_sum : ACode := (.seq (.region false [⟨(some 2), none, (.box 5 (.tmp 0))⟩, ⟨(some 4), none, (.alloc [(.v (.int .u64 0)), (.v (.int .u64 0))])⟩]) (.seq (.region false [⟨(some 5), none,
  (.alloc [(.v (.int .u64 0)), (.v (.int .u64 0))])⟩]) (.seq (.seq (.region false [⟨(some 8), none, (.fieldAddr 0 (.tmp 2))⟩, ⟨(some 9), none, (.fieldAddr 0 (.tmp 8))⟩, ⟨(some 10), none, (.load true 3
  (.tmp 9))⟩, ⟨(some 11), none, (.move (.const (.v (.int .i64 0))))⟩]) (.block 0 (.loop b_path_gap_sum_l0))) b_path_gap_sum_r0)))
def c_path_gap_sum : AFn := .code 2 25 b_path_gap_sum [(.cell true 2 4)] false
def b_path_gap_nearest_1 : ACode := (.seq (.region false [⟨(some 3), none, (.move (.const (.v (.int .i64 0))))⟩]) (.seq (.region false [⟨(some 4), none, (.move (.tmp 0))⟩, ⟨(some 5), none, (.fieldAddr
 4 (.tmp 1))⟩, ⟨(some 6), none, (.load false 1 (.tmp 5))⟩, ⟨(some 7), none, (.fieldAddr 0 (.tmp 1))⟩, ⟨(some 8), none, (.fieldAddr 3 (.tmp 7))⟩, ⟨(some 9), none, (.load false 1 (.tmp 8))⟩, ⟨(some
 10), none, (.arith .mul (.tmp 6) (.tmp 9))⟩, ⟨(some 11), none, (.arith .sub (.tmp 4) (.tmp 10))⟩, ⟨(some 12), none, (.minmax true [(.const (.v (.int .i64 0))), (.tmp 11)])⟩, ⟨(some 3), none, (.move
 (.tmp 12))⟩]) .ret))
def c_path_gap_nearest_1 : AFn := .code 2 13 b_path_gap_nearest_1 [(.tmp 3)] false
def b_path_gap_farthest_1 : ACode := (.seq (.region false [⟨(some 3), none, (.move (.const (.v (.int .i64 0))))⟩]) (.seq (.region false [⟨(some 4), none, (.move (.tmp 0))⟩, ⟨(some 5), none,
  (.fieldAddr 4 (.tmp 1))⟩, ⟨(some 6), none, (.load false 1 (.tmp 5))⟩, ⟨(some 7), none, (.fieldAddr 0 (.tmp 1))⟩, ⟨(some 8), none, (.fieldAddr 3 (.tmp 7))⟩, ⟨(some 9), none, (.load false 1 (.tmp
  8))⟩, ⟨(some 10), none, (.arith .mul (.tmp 6) (.tmp 9))⟩, ⟨(some 11), none, (.arith .add (.tmp 4) (.tmp 10))⟩, ⟨(some 3), none, (.move (.tmp 11))⟩]) .ret))
def c_path_gap_farthest_1 : AFn := .code 2 12 b_path_gap_farthest_1 [(.tmp 3)] false
def b_math_bits_Mul64 : ACode := (.seq (.region false [⟨(some 4), none, (.move (.const (.v (.int .u64 0))))⟩, ⟨(some 5), none, (.move (.const (.v (.int .u64 0))))⟩]) (.seq (.region false [⟨(some 14),
  none, (.move (.tmp 0))⟩, ⟨(some 15), none, (.arith .and (.tmp 14) (.const (.v (.int .u64 4294967295))))⟩, ⟨(some 6), none, (.move (.tmp 15))⟩]) (.seq (.region false [⟨(some 16), none, (.move (.tmp
  0))⟩, ⟨(some 17), none, (.arith .shr (.tmp 16) (.const (.v (.int .u64 32))))⟩, ⟨(some 7), none, (.move (.tmp 17))⟩]) (.seq (.region false [⟨(some 18), none, (.move (.tmp 1))⟩, ⟨(some 19), none,
  (.arith .and (.tmp 18) (.const (.v (.int .u64 4294967295))))⟩, ⟨(some 8), none, (.move (.tmp 19))⟩]) (.seq (.region false [⟨(some 20), none, (.move (.tmp 1))⟩, ⟨(some 21), none, (.arith .shr (.tmp
  20) (.const (.v (.int .u64 32))))⟩, ⟨(some 9), none, (.move (.tmp 21))⟩]) (.seq (.region false [⟨(some 22), none, (.move (.tmp 6))⟩, ⟨(some 23), none, (.move (.tmp 8))⟩, ⟨(some 24), none, (.arith
  .mul (.tmp 22) (.tmp 23))⟩, ⟨(some 10), none, (.move (.tmp 24))⟩]) (.seq (.region false [⟨(some 25), none, (.move (.tmp 7))⟩, ⟨(some 26), none, (.move (.tmp 8))⟩, ⟨(some 27), none, (.arith .mul
  (.tmp 25) (.tmp 26))⟩, ⟨(some 28), none, (.move (.tmp 10))⟩, ⟨(some 29), none, (.arith .shr (.tmp 28) (.const (.v (.int .u64 32))))⟩, ⟨(some 30), none, (.arith .add (.tmp 27) (.tmp 29))⟩, ⟨(some
  11), none, (.move (.tmp 30))⟩]) (.seq (.region false [⟨(some 31), none, (.move (.tmp 11))⟩, ⟨(some 32), none, (.arith .and (.tmp 31) (.const (.v (.int .u64 4294967295))))⟩, ⟨(some 12), none, (.move
  (.tmp 32))⟩]) (.seq (.region false [⟨(some 33), none, (.move (.tmp 11))⟩, ⟨(some 34), none, (.arith .shr (.tmp 33) (.const (.v (.int .u64 32))))⟩, ⟨(some 13), none, (.move (.tmp 34))⟩]) (.seq
  (.region false [⟨(some 35), none, (.move (.tmp 12))⟩, ⟨(some 36), none, (.move (.tmp 6))⟩, ⟨(some 37), none, (.move (.tmp 9))⟩, ⟨(some 38), none, (.arith .mul (.tmp 36) (.tmp 37))⟩, ⟨(some 39),
  none, (.arith .add (.tmp 35) (.tmp 38))⟩, ⟨(some 12), none, (.move (.tmp 39))⟩]) (.seq (.region false [⟨(some 40), none, (.move (.tmp 7))⟩, ⟨(some 41), none, (.move (.tmp 9))⟩, ⟨(some 42), none,
  (.arith .mul (.tmp 40) (.tmp 41))⟩, ⟨(some 43), none, (.move (.tmp 13))⟩, ⟨(some 44), none, (.arith .add (.tmp 42) (.tmp 43))⟩, ⟨(some 45), none, (.move (.tmp 12))⟩, ⟨(some 46), none, (.arith .shr
  (.tmp 45) (.const (.v (.int .u64 32))))⟩, ⟨(some 47), none, (.arith .add (.tmp 44) (.tmp 46))⟩, ⟨(some 4), none, (.move (.tmp 47))⟩]) (.seq (.region false [⟨(some 48), none, (.move (.tmp 0))⟩,
  ⟨(some 49), none, (.move (.tmp 1))⟩, ⟨(some 50), none, (.arith .mul (.tmp 48) (.tmp 49))⟩, ⟨(some 5), none, (.move (.tmp 50))⟩]) .ret))))))))))))
def c_math_bits_Mul64 : AFn := .code 2 51 b_math_bits_Mul64 [(.tmp 4), (.tmp 5)] false
def b_b_IsTick : ACode := (.seq (.region false [⟨(some 2), none, (.move (.const (.v (.bool false))))⟩]) (.seq (.region false [⟨(some 3), none, (.move (.tmp 0))⟩, ⟨(some 4), none, (.call false 8 [(.tmp
 3), (.const (.v (.int .i64 0))), (.const (.v (.int .i64 1000000000000)))])⟩, ⟨(some 2), none, (.move (.tmp 4))⟩]) .ret))
def c_b_IsTick : AFn := .code 1 5 b_b_IsTick [(.tmp 2)] false
def b_b_Square : ACode := (.seq (.region false [⟨(some 1), none, (.box 3 (.tmp 0))⟩, ⟨(some 2), none, (.move (.const (.v (.int .i64 0))))⟩]) (.seq (.region false [⟨(some 3), none, (.load true 3 (.tmp
 1))⟩, ⟨(some 4), none, (.load true 3 (.tmp 1))⟩, ⟨(some 5), none, (.call false 61 [(.tmp 3), (.tmp 4)])⟩, ⟨(some 2), none, (.move (.tmp 5))⟩]) .ret))
def c_b_Square : AFn := .code 1 6 b_b_Square [(.tmp 2)] false
def b_b_Minus : ACode := (.seq (.region false [⟨(some 2), none, (.box 3 (.tmp 0))⟩, ⟨(some 3), none, (.box 3 (.tmp 1))⟩, ⟨(some 4), none, (.alloc [(.v (.int .i64 0)), (.v (.int .i64 0)), (.v (.int
 .i64 0))])⟩]) (.seq (.region false [⟨(some 5), none, (.fieldAddr 0 (.tmp 2))⟩, ⟨(some 6), none, (.load false 1 (.tmp 5))⟩, ⟨(some 7), none, (.fieldAddr 0 (.tmp 3))⟩, ⟨(some 8), none, (.load false 1
 (.tmp 7))⟩, ⟨(some 9), none, (.arith .sub (.tmp 6) (.tmp 8))⟩, ⟨(some 10), none, (.fieldAddr 1 (.tmp 2))⟩, ⟨(some 11), none, (.load false 1 (.tmp 10))⟩, ⟨(some 12), none, (.fieldAddr 1 (.tmp 3))⟩,
 ⟨(some 13), none, (.load false 1 (.tmp 12))⟩, ⟨(some 14), none, (.arith .sub (.tmp 11) (.tmp 13))⟩, ⟨(some 15), none, (.fieldAddr 2 (.tmp 2))⟩, ⟨(some 16), none, (.load false 1 (.tmp 15))⟩, ⟨(some
 17), none, (.fieldAddr 2 (.tmp 3))⟩, ⟨(some 18), none, (.load false 1 (.tmp 17))⟩, ⟨(some 19), none, (.arith .sub (.tmp 16) (.tmp 18))⟩, ⟨(some 20), none, (.build [(.v (.int .i64 0)), (.v (.int .i64
 0)), (.v (.int .i64 0))] [(0, (1, (.tmp 9))), (1, (1, (.tmp 14))), (2, (1, (.tmp 19)))])⟩, ⟨none, none, (.store 3 (.tmp 4) (.tmp 20))⟩]) .ret))
def c_b_Minus : AFn := .code 2 21 b_b_Minus [(.cell true 3 4)] false
def b_path_knotErr_1 : ACode := (.seq (.region false [⟨(some 2), none, (.move (.const (.v (.bool false))))⟩]) (.seq (.region false [⟨(some 3), none, (.move (.tmp 0))⟩, ⟨(some 4), none, (.call false 57
 [(.tmp 3), (.const (.v (.int .i64 1000000)))])⟩, ⟨(some 2), none, (.move (.tmp 4))⟩]) .ret))
def c_path_knotErr_1 : AFn := .code 1 5 b_path_knotErr_1 [(.tmp 2)] false
def b_path_small : ACode := (.seq (.region false [⟨(some 4), none, (.move (.const (.v (.bool false))))⟩]) (.seq (.region false [⟨(some 5), none, (.move (.tmp 0))⟩, ⟨(some 6), none, (.move (.tmp 1))⟩,
 ⟨(some 7), none, (.un .neg (.tmp 6))⟩, ⟨(some 8), none, (.move (.tmp 1))⟩, ⟨(some 9), none, (.call false 29 [(.tmp 5), (.tmp 7), (.tmp 8)])⟩, ⟨(some 4), none, (.move (.tmp 9))⟩]) .ret))
def c_path_small : AFn := .code 2 10 b_path_small [(.tmp 4)] false
def b_path_triple_all : ACode := (.seq (.region false [⟨(some 2), none, (.box 3 (.tmp 0))⟩, ⟨(some 4), none, (.move (.const (.v (.bool false))))⟩]) (.seq (.region false [⟨(some 5), none, (.move (.tmp
  1))⟩, ⟨(some 6), none, (.indexAddr (some 3) 1 (.tmp 2) (.const (.v (.int .i64 0))))⟩, ⟨(some 7), none, (.load false 1 (.tmp 6))⟩, ⟨(some 8), none, (.callv false (.tmp 5) [(.tmp 7)])⟩, ⟨(some 9),
  none, (.move (.tmp 8))⟩, ⟨(some 10), (some (9, true)), (.move (.tmp 1))⟩, ⟨(some 11), (some (9, true)), (.indexAddr (some 3) 1 (.tmp 2) (.const (.v (.int .i64 1))))⟩, ⟨(some 12), (some (9, true)),
  (.load false 1 (.tmp 11))⟩, ⟨(some 13), (some (9, true)), (.callv false (.tmp 10) [(.tmp 12)])⟩, ⟨(some 14), none, (.pick (.tmp 9) (.tmp 13) (.const (.v (.bool false))))⟩, ⟨(some 15), none, (.move
  (.tmp 14))⟩, ⟨(some 16), (some (15, true)), (.move (.tmp 1))⟩, ⟨(some 17), (some (15, true)), (.indexAddr (some 3) 1 (.tmp 2) (.const (.v (.int .i64 2))))⟩, ⟨(some 18), (some (15, true)), (.load
  false 1 (.tmp 17))⟩, ⟨(some 19), (some (15, true)), (.callv false (.tmp 16) [(.tmp 18)])⟩, ⟨(some 20), none, (.pick (.tmp 15) (.tmp 19) (.const (.v (.bool false))))⟩, ⟨(some 4), none, (.move (.tmp
  20))⟩]) .ret))
def c_path_triple_all : AFn := .code 2 21 b_path_triple_all [(.tmp 4)] false
def b_path_triple_dot : ACode := (.seq (.region false [⟨(some 2), none, (.box 3 (.tmp 0))⟩, ⟨(some 3), none, (.box 3 (.tmp 1))⟩, ⟨(some 4), none, (.move (.const (.v (.int .i64 0))))⟩]) (.seq (.region
  false [⟨(some 5), none, (.indexAddr (some 3) 1 (.tmp 2) (.const (.v (.int .i64 0))))⟩, ⟨(some 6), none, (.load false 1 (.tmp 5))⟩, ⟨(some 7), none, (.indexAddr (some 3) 1 (.tmp 3) (.const (.v (.int
  .i64 0))))⟩, ⟨(some 8), none, (.load false 1 (.tmp 7))⟩, ⟨(some 9), none, (.arith .mul (.tmp 6) (.tmp 8))⟩, ⟨(some 10), none, (.indexAddr (some 3) 1 (.tmp 2) (.const (.v (.int .i64 1))))⟩, ⟨(some
  11), none, (.load false 1 (.tmp 10))⟩, ⟨(some 12), none, (.indexAddr (some 3) 1 (.tmp 3) (.const (.v (.int .i64 1))))⟩, ⟨(some 13), none, (.load false 1 (.tmp 12))⟩, ⟨(some 14), none, (.arith .mul
  (.tmp 11) (.tmp 13))⟩, ⟨(some 15), none, (.arith .add (.tmp 9) (.tmp 14))⟩, ⟨(some 16), none, (.indexAddr (some 3) 1 (.tmp 2) (.const (.v (.int .i64 2))))⟩, ⟨(some 17), none, (.load false 1 (.tmp
  16))⟩, ⟨(some 18), none, (.indexAddr (some 3) 1 (.tmp 3) (.const (.v (.int .i64 2))))⟩, ⟨(some 19), none, (.load false 1 (.tmp 18))⟩, ⟨(some 20), none, (.arith .mul (.tmp 17) (.tmp 19))⟩, ⟨(some
  21), none, (.arith .add (.tmp 15) (.tmp 20))⟩, ⟨(some 4), none, (.move (.tmp 21))⟩]) .ret))
def c_path_triple_dot : AFn := .code 2 22 b_path_triple_dot [(.tmp 4)] false
def b_path_wide_plus : ACode := (.seq (.region false [⟨(some 2), none, (.box 2 (.tmp 0))⟩, ⟨(some 3), none, (.box 2 (.tmp 1))⟩, ⟨(some 4), none, (.alloc [(.v (.int .u64 0)), (.v (.int .u64 0))])⟩])
  (.seq (.region false [⟨(some 8), none, (.indexAddr (some 2) 1 (.tmp 2) (.const (.v (.int .i64 1))))⟩, ⟨(some 9), none, (.load false 1 (.tmp 8))⟩, ⟨(some 10), none, (.indexAddr (some 2) 1 (.tmp 3)
  (.const (.v (.int .i64 1))))⟩, ⟨(some 11), none, (.load false 1 (.tmp 10))⟩, ⟨(some 12), none, (.calln 62 [(.tmp 9), (.tmp 11), (.const (.v (.int .u64 0)))])⟩, ⟨(some 7), none, (.move (.tmp 12))⟩,
  ⟨(some 13), none, (.extract 0 (.tmp 7))⟩, ⟨(some 14), none, (.extract 1 (.tmp 7))⟩, ⟨(some 5), none, (.move (.tmp 13))⟩, ⟨(some 6), none, (.move (.tmp 14))⟩]) (.seq (.region false [⟨(some 15), none,
  (.indexAddr (some 2) 1 (.tmp 2) (.const (.v (.int .i64 0))))⟩, ⟨(some 16), none, (.load false 1 (.tmp 15))⟩, ⟨(some 17), none, (.indexAddr (some 2) 1 (.tmp 3) (.const (.v (.int .i64 0))))⟩, ⟨(some
  18), none, (.load false 1 (.tmp 17))⟩, ⟨(some 19), none, (.arith .add (.tmp 16) (.tmp 18))⟩, ⟨(some 20), none, (.move (.tmp 6))⟩, ⟨(some 21), none, (.arith .add (.tmp 19) (.tmp 20))⟩, ⟨(some 22),
  none, (.move (.tmp 5))⟩, ⟨(some 23), none, (.build [(.v (.int .u64 0)), (.v (.int .u64 0))] [(0, (1, (.tmp 21))), (1, (1, (.tmp 22)))])⟩, ⟨none, none, (.store 2 (.tmp 4) (.tmp 23))⟩]) .ret)))
def c_path_wide_plus : AFn := .code 2 24 b_path_wide_plus [(.cell true 2 4)] false
def b_b_Dot : ACode := (.seq (.region false [⟨(some 2), none, (.box 3 (.tmp 0))⟩, ⟨(some 3), none, (.box 3 (.tmp 1))⟩, ⟨(some 4), none, (.move (.const (.v (.int .i64 0))))⟩]) (.seq (.region false
  [⟨(some 5), none, (.fieldAddr 0 (.tmp 2))⟩, ⟨(some 6), none, (.load false 1 (.tmp 5))⟩, ⟨(some 7), none, (.fieldAddr 0 (.tmp 3))⟩, ⟨(some 8), none, (.load false 1 (.tmp 7))⟩, ⟨(some 9), none,
  (.arith .mul (.tmp 6) (.tmp 8))⟩, ⟨(some 10), none, (.fieldAddr 1 (.tmp 2))⟩, ⟨(some 11), none, (.load false 1 (.tmp 10))⟩, ⟨(some 12), none, (.fieldAddr 1 (.tmp 3))⟩, ⟨(some 13), none, (.load false
  1 (.tmp 12))⟩, ⟨(some 14), none, (.arith .mul (.tmp 11) (.tmp 13))⟩, ⟨(some 15), none, (.arith .add (.tmp 9) (.tmp 14))⟩, ⟨(some 16), none, (.fieldAddr 2 (.tmp 2))⟩, ⟨(some 17), none, (.load false 1
  (.tmp 16))⟩, ⟨(some 18), none, (.fieldAddr 2 (.tmp 3))⟩, ⟨(some 19), none, (.load false 1 (.tmp 18))⟩, ⟨(some 20), none, (.arith .mul (.tmp 17) (.tmp 19))⟩, ⟨(some 21), none, (.arith .add (.tmp 15)
  (.tmp 20))⟩, ⟨(some 4), none, (.move (.tmp 21))⟩]) .ret))
def c_b_Dot : AFn := .code 2 22 b_b_Dot [(.tmp 4)] false
def tab : List (Option AFn) := [none, none, none, some c_t_TopPathLightTimes, some c_t_pathAwake, some c_r_Copy, some c_l_Few, some c_r_BothErr, some c_b_Within, some c_t_pathWithin, some
 c_r_TimesErr, some c_t_pathShifted, some c_path_DistanceAt, some c_path_ReceivedAt, some c_path_RoundTrip, some c_l_Station, some c_l_Probe, some c_r_TrackErr, some c_r_TimeErr, some
 c_path_trackErr, some c_path_timeErr, some c_path_between, some c_path_gap_distances, some c_path_received, some c_path_first, some c_r_CheckTrack, some c_r_First, some c_r_Last, some
 c_path_CheckTrack, some c_path_within, some c_path_last, some c_path_at, some c_path_gap_nearest, some c_path_gap_farthest, some c_sort_Search, some c_path_gap_distances_1, some c_path_wide_less,
 some c_path_squared, some c_path_gap_distances_2, some c_path_arrived, some c_path_received_1, some c_path_received_2, some c_path_missing, some c_r_knotErr, some c_path_unless, some c_path_knotErr,
 some c_path_at_1, some c_path_ofPoint, some c_path_triple_minus, some c_path_gap_sum, some c_path_gap_nearest_1, some c_path_gap_farthest_1, some c_math_bits_Mul64, some c_b_IsTick, some c_b_Square,
 some c_b_Minus, some c_path_knotErr_1, some c_path_small, some c_path_triple_all, some c_path_triple_dot, some c_path_wide_plus, some c_b_Dot, some pAdd64]
def AP : FuncId → Option AFn := fun f => (tab[f]?).join
end Go.Ax.Sx.Lt
