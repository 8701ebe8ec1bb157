/- The codes of the functions, as compFn gives them. -/
import Derived.Test.YtnjhjlbbddebfaaGreatDoorT7
namespace Go.Ax.Sx.Sc
open Go.Ax
abbrev o1 (d : Nat) (x : AOp) : AOper := ⟨some d, none, x⟩
abbrev t1 (n : Nat) : AOpd := .tmp n

-- 3
def b_l_ScheduleAntennas_r0 : ACode := (.seq (.region false [(o1 195 (.move (t1 12))), (o1 196 (.move (t1 13))), (o1 197 (.arith .add (t1 195) (t1 196))), (o1 198 (.move (t1 14))), (o1 199 (.arith
  .add (t1 197) (t1 198))), (o1 200 (.fieldAddr 0 (t1 3))), (o1 201 (.load false 1 (t1 200))), (o1 202 (.arith .eql (t1 199) (t1 201))), (o1 6 (.move (t1 202)))]) .ret)
def b_l_ScheduleAntennas_r1 : ACode := (.region false [(o1 154 (.move (t1 17))), (o1 155 (.arith .add (t1 154) (.const (.v (.int .i64 1))))), (o1 17 (.move (t1 155)))])
def b_l_ScheduleAntennas_r2 : ACode := (.seq (.region false [(o1 192 (.move (t1 18)))]) (.cond (t1 192) (.region false [(o1 193 (.move (t1 14))), (o1 194 (.arith .add (t1 193) (.const (.v (.int .i64
  1))))), (o1 14 (.move (t1 194)))]) .skip))
def b_l_ScheduleAntennas_l1 : ACode := (.seq (.seq (.region false [(o1 156 (.move (t1 19))), (o1 157 (.fieldAddr 1 (t1 3))), (o1 158 (.load false 1 (t1 157))), (o1 159 (.move (t1 2))), (o1 160
  (.indexAddr none 3 (t1 158) (t1 159))), (o1 161 (.fieldAddr 2 (t1 160))), (o1 162 (.load false 1 (t1 161))), (o1 163 (.len false (t1 162))), (o1 164 (.arith .lss (t1 156) (t1 163)))]) (.cond (t1
  164) .skip (.exit 6))) (.seq (.block 7 (.region true [(o1 167 (.move (t1 18))), (o1 168 (.move (t1 167))), ⟨(some 169), (some (168, false)), (.move (t1 17))⟩, ⟨(some 170), (some (168, false)),
  (.fieldAddr 1 (t1 3))⟩, ⟨(some 171), (some (168, false)), (.load false 1 (t1 170))⟩, ⟨(some 172), (some (168, false)), (.move (t1 2))⟩, ⟨(some 173), (some (168, false)), (.indexAddr none 3 (t1 171)
  (t1 172))⟩, ⟨(some 174), (some (168, false)), (.fieldAddr 2 (t1 173))⟩, ⟨(some 175), (some (168, false)), (.load false 1 (t1 174))⟩, ⟨(some 176), (some (168, false)), (.move (t1 19))⟩, ⟨(some 177),
  (some (168, false)), (.indexAddr none 2 (t1 175) (t1 176))⟩, ⟨(some 178), (some (168, false)), (.fieldAddr 0 (t1 177))⟩, ⟨(some 179), (some (168, false)), (.load false 1 (t1 178))⟩, ⟨(some 180),
  (some (168, false)), (.fieldAddr 1 (t1 3))⟩, ⟨(some 181), (some (168, false)), (.load false 1 (t1 180))⟩, ⟨(some 182), (some (168, false)), (.move (t1 2))⟩, ⟨(some 183), (some (168, false)),
  (.indexAddr none 3 (t1 181) (t1 182))⟩, ⟨(some 184), (some (168, false)), (.fieldAddr 2 (t1 183))⟩, ⟨(some 185), (some (168, false)), (.load false 1 (t1 184))⟩, ⟨(some 186), (some (168, false)),
  (.move (t1 19))⟩, ⟨(some 187), (some (168, false)), (.indexAddr none 2 (t1 185) (t1 186))⟩, ⟨(some 188), (some (168, false)), (.fieldAddr 1 (t1 187))⟩, ⟨(some 189), (some (168, false)), (.load false
  1 (t1 188))⟩, ⟨(some 190), (some (168, false)), (.call false 12 [(t1 169), (t1 179), (t1 189)])⟩, (o1 191 (.pick (t1 168) (.const (.v (.bool true))) (t1 190))), (o1 18 (.move (t1 191)))])) (.region
  false [(o1 165 (.move (t1 19))), (o1 166 (.arith .add (t1 165) (.const (.v (.int .i64 1))))), (o1 19 (.move (t1 166)))])))
def b_l_ScheduleAntennas_l0 : ACode := (.seq (.seq (.region false [(o1 150 (.move (t1 17))), (o1 151 (.fieldAddr 0 (t1 3))), (o1 152 (.load false 1 (t1 151))), (o1 153 (.arith .lss (t1 150) (t1
  152)))]) (.cond (t1 153) .skip (.exit 4))) (.seq (.block 5 (.seq (.region false [(o1 18 (.move (.const (.v (.bool false)))))]) (.seq (.seq (.region false [(o1 19 (.move (.const (.v (.int .i64
  0)))))]) (.block 6 (.loop b_l_ScheduleAntennas_l1))) b_l_ScheduleAntennas_r2))) b_l_ScheduleAntennas_r1))
def b_l_ScheduleAntennas_r3 : ACode := (.seq (.seq (.region false [(o1 17 (.move (.const (.v (.int .i64 0)))))]) (.block 4 (.loop b_l_ScheduleAntennas_l0))) b_l_ScheduleAntennas_r0)
def b_l_ScheduleAntennas_l2 : ACode := (.seq (.seq (.region false [(o1 125 (.move (t1 16))), (o1 126 (.move (t1 1))), (o1 127 (.len false (t1 126))), (o1 128 (.arith .lss (t1 125) (t1 127)))]) (.cond
  (t1 128) .skip (.exit 2))) (.seq (.block 3 (.seq (.region false [(o1 131 (.move (t1 1))), (o1 132 (.move (t1 16))), (o1 133 (.indexAddr none 3 (t1 131) (t1 132))), (o1 134 (.fieldAddr 2 (t1 133))),
  (o1 135 (.load false 1 (t1 134))), (o1 136 (.move (t1 2))), (o1 137 (.call false 16 [(t1 135), (t1 136)]))]) (.cond (t1 137) (.region true [(o1 138 (.move (t1 13))), (o1 139 (.fieldAddr 2 (t1 3))),
  (o1 140 (.load false 1 (t1 139))), (o1 141 (.move (t1 1))), (o1 142 (.move (t1 16))), (o1 143 (.indexAddr none 3 (t1 141) (t1 142))), (o1 144 (.fieldAddr 0 (t1 143))), (o1 145 (.load false 1 (t1
  144))), (o1 146 (.indexAddr none 7 (t1 140) (t1 145))), (o1 147 (.fieldAddr 3 (t1 146))), (o1 148 (.load false 1 (t1 147))), (o1 149 (.arith .add (t1 138) (t1 148))), (o1 13 (.move (t1 149)))])
  .skip))) (.region false [(o1 129 (.move (t1 16))), (o1 130 (.arith .add (t1 129) (.const (.v (.int .i64 1))))), (o1 16 (.move (t1 130)))])))
def b_l_ScheduleAntennas_r4 : ACode := (.seq (.seq (.region false [(o1 16 (.move (.const (.v (.int .i64 0)))))]) (.block 2 (.loop b_l_ScheduleAntennas_l2))) b_l_ScheduleAntennas_r3)
def b_l_ScheduleAntennas_l3 : ACode := (.seq (.seq (.region false [(o1 105 (.move (t1 15))), (o1 106 (.move (t1 7))), (o1 107 (.len false (t1 106))), (o1 108 (.arith .lss (t1 105) (t1 107)))]) (.cond
  (t1 108) .skip (.exit 0))) (.seq (.block 1 (.region true [(o1 111 (.move (t1 12))), (o1 112 (.move (t1 7))), (o1 113 (.move (t1 15))), (o1 114 (.indexAddr none 2 (t1 112) (t1 113))), (o1 115
  (.fieldAddr 1 (t1 114))), (o1 116 (.load false 1 (t1 115))), (o1 117 (.arith .add (t1 111) (t1 116))), (o1 118 (.move (t1 7))), (o1 119 (.move (t1 15))), (o1 120 (.indexAddr none 2 (t1 118) (t1
  119))), (o1 121 (.fieldAddr 0 (t1 120))), (o1 122 (.load false 1 (t1 121))), (o1 123 (.arith .sub (t1 117) (t1 122))), (o1 124 (.arith .add (t1 123) (.const (.v (.int .i64 1))))), (o1 12 (.move (t1
  124)))])) (.region false [(o1 109 (.move (t1 15))), (o1 110 (.arith .add (t1 109) (.const (.v (.int .i64 1))))), (o1 15 (.move (t1 110)))])))
def b_l_ScheduleAntennas : ACode := (.seq (.region false [(o1 3 (.box 3 (t1 0))), (o1 6 (.move (.const (.v (.bool false)))))]) (.seq (.seq (.region false [(o1 20 (.call false 4 [])), (o1 21 (.un .not
  (t1 20)))]) (.cond (t1 21) (.seq (.region false [(o1 6 (.move (.const (.v (.bool false)))))]) .ret) .skip)) (.seq (.seq (.region false [(o1 22 (.load true 3 (t1 3))), (o1 23 (.call false 5 [(t1
  22)])), (o1 24 (.un .not (t1 23))), (o1 25 (.move (t1 24))), ⟨(some 26), (some (25, false)), (.move (t1 1))⟩, ⟨(some 27), (some (25, false)), (.call false 6 [(t1 26)])⟩, ⟨(some 28), (some (25,
  false)), (.un .not (t1 27))⟩, (o1 29 (.pick (t1 25) (.const (.v (.bool true))) (t1 28)))]) (.cond (t1 29) (.seq (.region false [(o1 6 (.move (.const (.v (.bool true)))))]) .ret) .skip)) (.seq
  (.region false [(o1 31 (.load true 3 (t1 3))), (o1 32 (.call false 8 [(t1 31)])), (o1 33 (.move (t1 1))), (o1 34 (.call false 9 [(t1 33)])), (o1 35 (.move (t1 2))), (o1 36 (.call false 7 [(t1 32),
  (t1 34), (t1 35)])), (o1 30 (.move (t1 36))), (o1 37 (.extract 0 (t1 30))), (o1 38 (.extract 1 (t1 30))), (o1 7 (.move (t1 37))), (o1 8 (.move (t1 38)))]) (.seq (.region false [(o1 40 (.load true 3
  (t1 3))), (o1 41 (.call false 8 [(t1 40)])), (o1 42 (.move (t1 1))), (o1 43 (.call false 9 [(t1 42)])), (o1 44 (.move (t1 2))), (o1 45 (.call false 10 [(t1 41), (t1 43), (t1 44)])), (o1 39 (.move
  (t1 45))), (o1 46 (.extract 0 (t1 39))), (o1 47 (.extract 1 (t1 39))), (o1 9 (.alloc [(.v (.int .i64 0)), (.v (.int .i64 0))])), ⟨none, none, (.store 2 (t1 9) (t1 46))⟩, (o1 10 (.move (t1 47)))])
  (.seq (.region false [(o1 48 (.load true 3 (t1 3))), (o1 49 (.move (t1 1))), (o1 50 (.call false 11 [(t1 48), (t1 49)])), (o1 11 (.move (t1 50)))]) (.seq (.seq (.region false [(o1 51 (.move (t1
  11))), (o1 52 (.arith .eql (t1 51) (.const (.v (.int .i64 0))))), (o1 53 (.move (t1 52))), ⟨(some 54), (some (53, true)), (.move (t1 2))⟩, ⟨(some 55), (some (53, true)), (.fieldAddr 1 (t1 3))⟩,
  ⟨(some 56), (some (53, true)), (.load false 1 (t1 55))⟩, ⟨(some 57), (some (53, true)), (.len false (t1 56))⟩, ⟨(some 58), (some (53, true)), (.arith .sub (t1 57) (.const (.v (.int .i64 1))))⟩,
  ⟨(some 59), (some (53, true)), (.call false 12 [(t1 54), (.const (.v (.int .i64 0))), (t1 58)])⟩, ⟨(some 60), (some (53, true)), (.un .not (t1 59))⟩, (o1 61 (.pick (t1 53) (t1 60) (.const (.v (.bool
  false)))))]) (.cond (t1 61) (.region false [(o1 11 (.move (.const (.v (.int .i64 6)))))]) .skip)) (.seq (.seq (.region false [(o1 62 (.move (t1 11))), (o1 63 (.arith .neq (t1 62) (.const (.v (.int
  .i64 0)))))]) (.cond (t1 63) (.seq (.region false [(o1 64 (.move (t1 8))), (o1 65 (.move (t1 11))), (o1 66 (.arith .eql (t1 64) (t1 65))), (o1 67 (.move (t1 66))), ⟨(some 68), (some (67, true)),
  (.move (t1 10))⟩, ⟨(some 69), (some (67, true)), (.move (t1 11))⟩, ⟨(some 70), (some (67, true)), (.arith .eql (t1 68) (t1 69))⟩, (o1 71 (.pick (t1 67) (t1 70) (.const (.v (.bool false))))), (o1 72
  (.move (t1 71))), ⟨(some 73), (some (72, true)), (.move (t1 7))⟩, ⟨(some 74), (some (72, true)), (.len false (t1 73))⟩, ⟨(some 75), (some (72, true)), (.arith .eql (t1 74) (.const (.v (.int .i64
  0))))⟩, (o1 76 (.pick (t1 72) (t1 75) (.const (.v (.bool false))))), (o1 77 (.move (t1 76))), ⟨(some 78), (some (77, true)), (.load true 2 (t1 9))⟩, ⟨(some 79), (some (77, true)), (.build [(.v (.int
  .i64 0)), (.v (.int .i64 0))] [])⟩, ⟨(some 80), (some (77, true)), (.eqv false (.agg [.int, .int]) (t1 78) (t1 79))⟩, (o1 81 (.pick (t1 77) (t1 80) (.const (.v (.bool false))))), (o1 6 (.move (t1
  81)))]) .ret) .skip)) (.seq (.seq (.region true [(o1 82 (.move (t1 8))), (o1 83 (.arith .neq (t1 82) (.const (.v (.int .i64 0))))), (o1 84 (.move (t1 83))), ⟨(some 85), (some (84, false)), (.move
  (t1 7))⟩, ⟨(some 86), (some (84, false)), (.load true 3 (t1 3))⟩, ⟨(some 87), (some (84, false)), (.move (t1 1))⟩, ⟨(some 88), (some (84, false)), (.move (t1 2))⟩, ⟨(some 89), (some (84, false)),
  (.call false 14 [(t1 86), (t1 87), (t1 88)])⟩, ⟨(some 90), (some (84, false)), (.call false 13 [(t1 85), (t1 89)])⟩, ⟨(some 91), (some (84, false)), (.un .not (t1 90))⟩, (o1 92 (.pick (t1 84)
  (.const (.v (.bool true))) (t1 91))), (o1 93 (.move (t1 92))), ⟨(some 94), (some (93, false)), (.move (t1 10))⟩, ⟨(some 95), (some (93, false)), (.arith .neq (t1 94) (.const (.v (.int .i64 0))))⟩,
  (o1 96 (.pick (t1 93) (.const (.v (.bool true))) (t1 95))), (o1 97 (.move (t1 96))), ⟨(some 98), (some (97, false)), (.load true 2 (t1 9))⟩, ⟨(some 99), (some (97, false)), (.load true 3 (t1 3))⟩,
  ⟨(some 100), (some (97, false)), (.move (t1 1))⟩, ⟨(some 101), (some (97, false)), (.move (t1 2))⟩, ⟨(some 102), (some (97, false)), (.call true 15 [(t1 99), (t1 100), (t1 101)])⟩, ⟨(some 103),
  (some (97, false)), (.eqv true (.agg [.int, .int]) (t1 98) (t1 102))⟩, (o1 104 (.pick (t1 97) (.const (.v (.bool true))) (t1 103)))]) (.cond (t1 104) (.seq (.region false [(o1 6 (.move (.const (.v
  (.bool false)))))]) .ret) .skip)) (.seq (.region false [(o1 12 (.move (.const (.v (.int .i64 0))))), (o1 13 (.move (.const (.v (.int .i64 0))))), (o1 14 (.move (.const (.v (.int .i64 0)))))]) (.seq
  (.seq (.region false [(o1 15 (.move (.const (.v (.int .i64 0)))))]) (.block 0 (.loop b_l_ScheduleAntennas_l3))) b_l_ScheduleAntennas_r4)))))))))))
abbrev k_l_ScheduleAntennas_1 : List K := [.blk 6, .c b_l_ScheduleAntennas_r2, .blk 5, .c b_l_ScheduleAntennas_r1, .lp b_l_ScheduleAntennas_l0, .blk 4, .c b_l_ScheduleAntennas_r0]
abbrev k_l_ScheduleAntennas_0 : List K := [.blk 4, .c b_l_ScheduleAntennas_r0]
abbrev k_l_ScheduleAntennas_2 : List K := [.blk 2, .c b_l_ScheduleAntennas_r3]
abbrev k_l_ScheduleAntennas_3 : List K := [.blk 0, .c b_l_ScheduleAntennas_r4]
abbrev f_l_ScheduleAntennas := finF [(.tmp 6)] false
def c_l_ScheduleAntennas : AFn := .code 3 203 b_l_ScheduleAntennas [(.tmp 6)] false
-- 4
def b_l_awake : ACode := (.seq (.region false [(o1 0 (.move (.const (.v (.bool false)))))]) (.seq (.region false [(o1 7 (.call false 18 [])), (o1 8 (.call false 17 [(t1 7)])), (o1 6 (.move (t1 8))),
  (o1 9 (.extract 0 (t1 6))), (o1 10 (.extract 1 (t1 6))), (o1 11 (.extract 2 (t1 6))), (o1 1 (.move (t1 9))), (o1 2 (.move (t1 10))), (o1 3 (.move (t1 11)))]) (.seq (.region false [(o1 13 (.call
  false 18 [])), (o1 14 (.move (t1 1))), (o1 15 (.call false 19 [(t1 13), (t1 14), (.const (.v (.string ⟨#[109, 97, 114, 115]⟩)))])), (o1 12 (.move (t1 15))), (o1 16 (.extract 0 (t1 12))), (o1 17
  (.extract 1 (t1 12))), (o1 4 (.alloc [(.v (.int .i64 0)), (.v (.int .i64 0))])), ⟨none, none, (.store 2 (t1 4) (t1 16))⟩, (o1 5 (.move (t1 17)))]) (.seq (.region true [(o1 18 (.move (t1 3))), (o1 19
  (.arith .eql (t1 18) (.const (.v (.int .i64 0))))), (o1 20 (.move (t1 19))), ⟨(some 21), (some (20, true)), (.move (t1 2))⟩, ⟨(some 22), (some (20, true)), (.arith .eql (t1 21) (.const (.v (.int
  .i64 23))))⟩, (o1 23 (.pick (t1 20) (t1 22) (.const (.v (.bool false))))), (o1 24 (.move (t1 23))), ⟨(some 25), (some (24, true)), (.move (t1 1))⟩, ⟨(some 26), (some (24, true)), (.call false 20
  [(t1 25)])⟩, ⟨(some 27), (some (24, true)), (.arith .eql (t1 26) (.const (.v (.string ⟨#[48, 64, 48, 43, 48, 32, 49, 64, 48, 43, 49, 32, 50, 64, 53, 43, 48, 43, 49]⟩))))⟩, (o1 28 (.pick (t1 24) (t1
  27) (.const (.v (.bool false))))), (o1 29 (.move (t1 28))), ⟨(some 30), (some (29, true)), (.move (t1 5))⟩, ⟨(some 31), (some (29, true)), (.arith .eql (t1 30) (.const (.v (.int .i64 0))))⟩, (o1 32
  (.pick (t1 29) (t1 31) (.const (.v (.bool false))))), (o1 33 (.move (t1 32))), ⟨(some 34), (some (33, true)), (.load true 2 (t1 4))⟩, ⟨(some 35), (some (33, true)), (.call true 21 [(.const (.v (.int
  .i64 1)))])⟩, ⟨(some 36), (some (33, true)), (.eqv false (.agg [.int, .int]) (t1 34) (t1 35))⟩, (o1 37 (.pick (t1 33) (t1 36) (.const (.v (.bool false))))), (o1 0 (.move (t1 37)))]) .ret))))
abbrev f_l_awake := finF [(.tmp 0)] false
def c_l_awake : AFn := .code 0 38 b_l_awake [(.tmp 0)] false
-- 5
def b_l_Few_r0 : ACode := (.seq (.region false [(o1 2 (.move (.const (.v (.bool true)))))]) .ret)
def b_l_Few_l0 : ACode := (.seq (.seq (.region false [(o1 40 (.move (t1 4))), (o1 41 (.fieldAddr 2 (t1 1))), (o1 42 (.load false 1 (t1 41))), (o1 43 (.len false (t1 42))), (o1 44 (.arith .lss (t1 40)
  (t1 43)))]) (.cond (t1 44) .skip (.exit 2))) (.seq (.block 3 (.seq (.region false [(o1 47 (.fieldAddr 2 (t1 1))), (o1 48 (.load false 1 (t1 47))), (o1 49 (.move (t1 4))), (o1 50 (.indexAddr none 7
  (t1 48) (t1 49))), (o1 51 (.fieldAddr 0 (t1 50))), (o1 52 (.load false 1 (t1 51))), (o1 53 (.len true (t1 52))), (o1 54 (.arith .gtr (t1 53) (.const (.v (.int .i64 20))))), (o1 55 (.move (t1 54))),
  ⟨(some 56), (some (55, false)), (.fieldAddr 2 (t1 1))⟩, ⟨(some 57), (some (55, false)), (.load false 1 (t1 56))⟩, ⟨(some 58), (some (55, false)), (.move (t1 4))⟩, ⟨(some 59), (some (55, false)),
  (.indexAddr none 7 (t1 57) (t1 58))⟩, ⟨(some 60), (some (55, false)), (.fieldAddr 5 (t1 59))⟩, ⟨(some 61), (some (55, false)), (.load false 1 (t1 60))⟩, ⟨(some 62), (some (55, false)), (.len false
  (t1 61))⟩, ⟨(some 63), (some (55, false)), (.arith .gtr (t1 62) (.const (.v (.int .i64 6))))⟩, (o1 64 (.pick (t1 55) (.const (.v (.bool true))) (t1 63)))]) (.cond (t1 64) (.seq (.region false [(o1 2
  (.move (.const (.v (.bool false)))))]) .ret) .skip))) (.region false [(o1 45 (.move (t1 4))), (o1 46 (.arith .add (t1 45) (.const (.v (.int .i64 1))))), (o1 4 (.move (t1 46)))])))
def b_l_Few_r1 : ACode := (.seq (.seq (.region false [(o1 4 (.move (.const (.v (.int .i64 0)))))]) (.block 2 (.loop b_l_Few_l0))) b_l_Few_r0)
def b_l_Few_l1 : ACode := (.seq (.seq (.region false [(o1 15 (.move (t1 3))), (o1 16 (.fieldAddr 1 (t1 1))), (o1 17 (.load false 1 (t1 16))), (o1 18 (.len false (t1 17))), (o1 19 (.arith .lss (t1 15)
  (t1 18)))]) (.cond (t1 19) .skip (.exit 0))) (.seq (.block 1 (.seq (.region false [(o1 22 (.fieldAddr 1 (t1 1))), (o1 23 (.load false 1 (t1 22))), (o1 24 (.move (t1 3))), (o1 25 (.indexAddr none 3
  (t1 23) (t1 24))), (o1 26 (.fieldAddr 0 (t1 25))), (o1 27 (.load false 1 (t1 26))), (o1 28 (.len true (t1 27))), (o1 29 (.arith .gtr (t1 28) (.const (.v (.int .i64 20))))), (o1 30 (.move (t1 29))),
  ⟨(some 31), (some (30, false)), (.fieldAddr 1 (t1 1))⟩, ⟨(some 32), (some (30, false)), (.load false 1 (t1 31))⟩, ⟨(some 33), (some (30, false)), (.move (t1 3))⟩, ⟨(some 34), (some (30, false)),
  (.indexAddr none 3 (t1 32) (t1 33))⟩, ⟨(some 35), (some (30, false)), (.fieldAddr 2 (t1 34))⟩, ⟨(some 36), (some (30, false)), (.load false 1 (t1 35))⟩, ⟨(some 37), (some (30, false)), (.len false
  (t1 36))⟩, ⟨(some 38), (some (30, false)), (.arith .gtr (t1 37) (.const (.v (.int .i64 8))))⟩, (o1 39 (.pick (t1 30) (.const (.v (.bool true))) (t1 38)))]) (.cond (t1 39) (.seq (.region false [(o1 2
  (.move (.const (.v (.bool false)))))]) .ret) .skip))) (.region false [(o1 20 (.move (t1 3))), (o1 21 (.arith .add (t1 20) (.const (.v (.int .i64 1))))), (o1 3 (.move (t1 21)))])))
def b_l_Few : ACode := (.seq (.region false [(o1 1 (.box 3 (t1 0))), (o1 2 (.move (.const (.v (.bool false)))))]) (.seq (.seq (.region false [(o1 5 (.fieldAddr 1 (t1 1))), (o1 6 (.load false 1 (t1
  5))), (o1 7 (.len false (t1 6))), (o1 8 (.arith .gtr (t1 7) (.const (.v (.int .i64 6))))), (o1 9 (.move (t1 8))), ⟨(some 10), (some (9, false)), (.fieldAddr 2 (t1 1))⟩, ⟨(some 11), (some (9,
  false)), (.load false 1 (t1 10))⟩, ⟨(some 12), (some (9, false)), (.len false (t1 11))⟩, ⟨(some 13), (some (9, false)), (.arith .gtr (t1 12) (.const (.v (.int .i64 14))))⟩, (o1 14 (.pick (t1 9)
  (.const (.v (.bool true))) (t1 13)))]) (.cond (t1 14) (.seq (.region false [(o1 2 (.move (.const (.v (.bool false)))))]) .ret) .skip)) (.seq (.seq (.region false [(o1 3 (.move (.const (.v (.int .i64
  0)))))]) (.block 0 (.loop b_l_Few_l1))) b_l_Few_r1)))
abbrev k_l_Few_0 : List K := [.blk 2, .c b_l_Few_r0]
abbrev k_l_Few_1 : List K := [.blk 0, .c b_l_Few_r1]
abbrev f_l_Few := finF [(.tmp 2)] false
def c_l_Few : AFn := .code 1 65 b_l_Few [(.tmp 2)] false
-- 6
def b_l_short_r0 : ACode := (.seq (.region false [(o1 2 (.move (.const (.v (.bool true)))))]) .ret)
def b_l_short_l0 : ACode := (.seq (.seq (.region false [(o1 7 (.move (t1 3))), (o1 8 (.move (t1 0))), (o1 9 (.len false (t1 8))), (o1 10 (.arith .lss (t1 7) (t1 9)))]) (.cond (t1 10) .skip (.exit 0)))
  (.seq (.block 1 (.seq (.region false [(o1 13 (.move (t1 0))), (o1 14 (.move (t1 3))), (o1 15 (.indexAddr none 3 (t1 13) (t1 14))), (o1 16 (.fieldAddr 2 (t1 15))), (o1 17 (.load false 1 (t1 16))),
  (o1 18 (.len false (t1 17))), (o1 19 (.arith .gtr (t1 18) (.const (.v (.int .i64 6)))))]) (.cond (t1 19) (.seq (.region false [(o1 2 (.move (.const (.v (.bool false)))))]) .ret) .skip))) (.region
  false [(o1 11 (.move (t1 3))), (o1 12 (.arith .add (t1 11) (.const (.v (.int .i64 1))))), (o1 3 (.move (t1 12)))])))
def b_l_short : ACode := (.seq (.region false [(o1 2 (.move (.const (.v (.bool false)))))]) (.seq (.seq (.region false [(o1 4 (.move (t1 0))), (o1 5 (.len false (t1 4))), (o1 6 (.arith .gtr (t1 5)
  (.const (.v (.int .i64 14)))))]) (.cond (t1 6) (.seq (.region false [(o1 2 (.move (.const (.v (.bool false)))))]) .ret) .skip)) (.seq (.seq (.region false [(o1 3 (.move (.const (.v (.int .i64
  0)))))]) (.block 0 (.loop b_l_short_l0))) b_l_short_r0)))
abbrev k_l_short_0 : List K := [.blk 0, .c b_l_short_r0]
abbrev f_l_short := finF [(.tmp 2)] false
def c_l_short : AFn := .code 1 20 b_l_short [(.tmp 2)] false
-- 7
def b_s_FreeOf_r0 : ACode := (.seq (.region false [(o1 78 (.move (t1 12))), (o1 6 (.move (t1 78))), (o1 7 (.move (.const (.v (.int .i64 0)))))]) .ret)
def b_s_FreeOf_l0 : ACode := (.seq (.region false [(o1 35 (.arith .lss (t1 34) (t1 33)))]) (.seq (.cond (t1 35) .skip (.exit 0)) (.seq (.block 1 (.seq (.region false [(o1 36 (.move (t1 34))), (o1 13
  (.move (t1 36)))]) (.seq (.seq (.region false [(o1 37 (.move (t1 13))), (o1 38 (.indexAddr (some 200) 1 (t1 11) (t1 37))), (o1 39 (.load false 1 (t1 38))), (o1 40 (.move (t1 39))), ⟨(some 41), (some
  (40, false)), (.move (t1 8))⟩, ⟨(some 42), (some (40, false)), (.move (t1 2))⟩, ⟨(some 43), (some (40, false)), (.move (t1 13))⟩, ⟨(some 44), (some (40, false)), (.nilCheck (t1 41))⟩, ⟨(some 45),
  (some (40, false)), (.fieldAddr 3 (t1 44))⟩, ⟨(some 46), (some (40, false)), (.indexAddr (some 4) 200 (t1 45) (t1 42))⟩, ⟨(some 47), (some (40, false)), (.indexAddr (some 200) 1 (t1 46) (t1 43))⟩,
  ⟨(some 48), (some (40, false)), (.load false 1 (t1 47))⟩, (o1 49 (.pick (t1 40) (.const (.v (.bool true))) (t1 48)))]) (.cond (t1 49) (.exit 1) .skip)) (.seq (.seq (.region false [(o1 50 (.move (t1
  12))), (o1 51 (.len false (t1 50))), (o1 14 (.move (t1 51)))]) (.seq (.region false [(o1 52 (.move (t1 14))), (o1 53 (.arith .gtr (t1 52) (.const (.v (.int .i64 0))))), (o1 54 (.move (t1 53))),
  ⟨(some 55), (some (54, true)), (.move (t1 12))⟩, ⟨(some 56), (some (54, true)), (.move (t1 14))⟩, ⟨(some 57), (some (54, true)), (.arith .sub (t1 56) (.const (.v (.int .i64 1))))⟩, ⟨(some 58), (some
  (54, true)), (.indexAddr none 2 (t1 55) (t1 57))⟩, ⟨(some 59), (some (54, true)), (.fieldAddr 1 (t1 58))⟩, ⟨(some 60), (some (54, true)), (.load false 1 (t1 59))⟩, ⟨(some 61), (some (54, true)),
  (.move (t1 13))⟩, ⟨(some 62), (some (54, true)), (.arith .sub (t1 61) (.const (.v (.int .i64 1))))⟩, ⟨(some 63), (some (54, true)), (.arith .eql (t1 60) (t1 62))⟩, (o1 64 (.pick (t1 54) (t1 63)
  (.const (.v (.bool false)))))]) (.cond (t1 64) (.seq (.region false [(o1 65 (.move (t1 12))), (o1 66 (.move (t1 14))), (o1 67 (.arith .sub (t1 66) (.const (.v (.int .i64 1))))), (o1 68 (.move (t1
  13))), (o1 69 (.indexAddr none 2 (t1 65) (t1 67))), (o1 70 (.fieldAddr 1 (t1 69))), ⟨none, none, (.store 1 (t1 70) (t1 68))⟩]) (.exit 1)) .skip))) (.region false [(o1 71 (.move (t1 12))), (o1 72
  (.move (t1 13))), (o1 73 (.move (t1 13))), (o1 74 (.build [(.v (.int .i64 0)), (.v (.int .i64 0))] [(0, (1, (t1 72))), (1, (1, (t1 73)))])), (o1 75 (.buildSlice 2 [[(.v (.int .i64 0)), (.v (.int
  .i64 0))]] [(0, (t1 74))])), (o1 76 (.appendm 2 (t1 71) (t1 75))), (o1 12 (.move (t1 76)))]))))) (.region false [(o1 77 (.arith .add (t1 34) (.const (.v (.int .i64 1))))), (o1 34 (.move (t1
  77)))]))))
def b_s_FreeOf : ACode := (.seq (.region false [(o1 3 (.box 3 (t1 0))), (o1 6 (.move (.const (.slice .nilS 0 [])))), (o1 7 (.move (.const (.v (.int .i64 0)))))]) (.seq (.region false [(o1 16 (.load
  true 3 (t1 3))), (o1 17 (.move (t1 1))), (o1 18 (.move (t1 2))), (o1 19 (.call false 22 [(t1 16), (t1 17), (t1 18)])), (o1 15 (.move (t1 19))), (o1 20 (.extract 0 (t1 15))), (o1 21 (.extract 1 (t1
  15))), (o1 8 (.move (t1 20))), (o1 9 (.move (t1 21)))]) (.seq (.seq (.region false [(o1 22 (.move (t1 9))), (o1 23 (.arith .neq (t1 22) (.const (.v (.int .i64 0)))))]) (.cond (t1 23) (.seq (.region
  false [(o1 24 (.move (t1 9))), (o1 6 (.move (.const (.slice .nilS 0 [])))), (o1 7 (.move (t1 24)))]) .ret) .skip)) (.seq (.region false [(o1 26 (.move (t1 8))), (o1 27 (.move (t1 1))), (o1 28 (.move
  (t1 2))), (o1 29 (.call false 23 [(t1 26), (t1 27), (t1 28)])), (o1 25 (.move (t1 29))), (o1 30 (.extract 0 (t1 25))), (o1 31 (.extract 1 (t1 25))), (o1 11 (.alloc (zeros 200))), (o1 10 (.move (t1
  30))), ⟨none, none, (.store 200 (t1 11) (t1 31))⟩]) (.seq (.region false [(o1 12 (.move (.const (.slice .nilS 0 []))))]) (.seq (.seq (.region false [(o1 32 (.fieldAddr 0 (t1 3))), (o1 33 (.load
  false 1 (t1 32))), (o1 34 (.move (.const (.v (.int .i64 0)))))]) (.block 0 (.loop b_s_FreeOf_l0))) b_s_FreeOf_r0))))))
abbrev k_s_FreeOf_0 : List K := [.blk 0, .c b_s_FreeOf_r0]
abbrev f_s_FreeOf := finF [(.tmp 6), (.tmp 7)] false
def c_s_FreeOf : AFn := .code 3 79 b_s_FreeOf [(.tmp 6), (.tmp 7)] false
-- 8
def b_r_CopyWeek_r0 : ACode := (.seq (.region false [(o1 55 (.load true 3 (t1 3))), ⟨none, none, (.store 3 (t1 2) (t1 55))⟩]) .ret)
def b_r_CopyWeek_l0 : ACode := (.seq (.seq (.region false [(o1 33 (.move (t1 6))), (o1 34 (.fieldAddr 2 (t1 1))), (o1 35 (.load false 1 (t1 34))), (o1 36 (.len false (t1 35))), (o1 37 (.arith .lss (t1
  33) (t1 36)))]) (.cond (t1 37) .skip (.exit 2))) (.seq (.block 3 (.seq (.region false [(o1 40 (.fieldAddr 2 (t1 1))), (o1 41 (.load false 1 (t1 40))), (o1 42 (.move (t1 6))), (o1 43 (.indexAddr none
  7 (t1 41) (t1 42))), (o1 44 (.load true 7 (t1 43))), (o1 7 (.alloc [(.v (.string ⟨#[]⟩)), (.v (.int .i64 0)), (.v (.int .i64 0)), (.v (.int .i64 0)), (.v (.int .i64 0)), (.slice .nilS 0 []), (.v
  (.int .i64 0))])), ⟨none, none, (.store 7 (t1 7) (t1 44))⟩]) (.seq (.region false [(o1 45 (.fieldAddr 5 (t1 7))), (o1 46 (.load false 1 (t1 45))), (o1 47 (.call false 25 [(t1 46)])), (o1 48
  (.fieldAddr 5 (t1 7))), ⟨none, none, (.store 1 (t1 48) (t1 47))⟩]) (.region false [(o1 49 (.fieldAddr 2 (t1 3))), (o1 50 (.load false 1 (t1 49))), (o1 51 (.load true 7 (t1 7))), (o1 52 (.buildSlice
  7 [[(.v (.string ⟨#[]⟩)), (.v (.int .i64 0)), (.v (.int .i64 0)), (.v (.int .i64 0)), (.v (.int .i64 0)), (.slice .nilS 0 []), (.v (.int .i64 0))]] [(0, (t1 51))])), (o1 53 (.append 7 (t1 50) (t1
  52))), (o1 54 (.fieldAddr 2 (t1 3))), ⟨none, none, (.store 1 (t1 54) (t1 53))⟩])))) (.region false [(o1 38 (.move (t1 6))), (o1 39 (.arith .add (t1 38) (.const (.v (.int .i64 1))))), (o1 6 (.move
  (t1 39)))])))
def b_r_CopyWeek_r1 : ACode := (.seq (.seq (.region false [(o1 6 (.move (.const (.v (.int .i64 0)))))]) (.block 2 (.loop b_r_CopyWeek_l0))) b_r_CopyWeek_r0)
def b_r_CopyWeek_l1 : ACode := (.seq (.seq (.region false [(o1 11 (.move (t1 4))), (o1 12 (.fieldAddr 1 (t1 1))), (o1 13 (.load false 1 (t1 12))), (o1 14 (.len false (t1 13))), (o1 15 (.arith .lss (t1
  11) (t1 14)))]) (.cond (t1 15) .skip (.exit 0))) (.seq (.block 1 (.seq (.region false [(o1 18 (.fieldAddr 1 (t1 1))), (o1 19 (.load false 1 (t1 18))), (o1 20 (.move (t1 4))), (o1 21 (.indexAddr none
  3 (t1 19) (t1 20))), (o1 22 (.load true 3 (t1 21))), (o1 5 (.alloc [(.v (.string ⟨#[]⟩)), (.v (.int .i64 0)), (.slice .nilS 0 [])])), ⟨none, none, (.store 3 (t1 5) (t1 22))⟩]) (.seq (.region false
  [(o1 23 (.fieldAddr 2 (t1 5))), (o1 24 (.load false 1 (t1 23))), (o1 25 (.call false 24 [(t1 24)])), (o1 26 (.fieldAddr 2 (t1 5))), ⟨none, none, (.store 1 (t1 26) (t1 25))⟩]) (.region false [(o1 27
  (.fieldAddr 1 (t1 3))), (o1 28 (.load false 1 (t1 27))), (o1 29 (.load true 3 (t1 5))), (o1 30 (.buildSlice 3 [[(.v (.string ⟨#[]⟩)), (.v (.int .i64 0)), (.slice .nilS 0 [])]] [(0, (t1 29))])), (o1
  31 (.append 3 (t1 28) (t1 30))), (o1 32 (.fieldAddr 1 (t1 3))), ⟨none, none, (.store 1 (t1 32) (t1 31))⟩])))) (.region false [(o1 16 (.move (t1 4))), (o1 17 (.arith .add (t1 16) (.const (.v (.int
  .i64 1))))), (o1 4 (.move (t1 17)))])))
def b_r_CopyWeek : ACode := (.seq (.region false [(o1 1 (.box 3 (t1 0))), (o1 2 (.alloc [(.v (.int .i64 0)), (.slice .nilS 0 []), (.slice .nilS 0 [])]))]) (.seq (.region false [(o1 8 (.fieldAddr 0 (t1
  1))), (o1 9 (.load false 1 (t1 8))), (o1 10 (.build [(.v (.int .i64 0)), (.slice .nilS 0 []), (.slice .nilS 0 [])] [(0, (1, (t1 9)))])), (o1 3 (.alloc [(.v (.int .i64 0)), (.slice .nilS 0 []),
  (.slice .nilS 0 [])])), ⟨none, none, (.store 3 (t1 3) (t1 10))⟩]) (.seq (.seq (.region false [(o1 4 (.move (.const (.v (.int .i64 0)))))]) (.block 0 (.loop b_r_CopyWeek_l1))) b_r_CopyWeek_r1)))
abbrev k_r_CopyWeek_0 : List K := [.blk 2, .c b_r_CopyWeek_r0]
abbrev k_r_CopyWeek_1 : List K := [.blk 0, .c b_r_CopyWeek_r1]
abbrev f_r_CopyWeek := finF [(.cell true 3 2)] false
def c_r_CopyWeek : AFn := .code 1 56 b_r_CopyWeek [(.cell true 3 2)] false
-- 9
def b_r_Copy_r0 : ACode := (.seq (.region false [(o1 31 (.move (t1 3))), (o1 2 (.move (t1 31)))]) .ret)
def b_r_Copy_l0 : ACode := (.seq (.seq (.region false [(o1 5 (.move (t1 4))), (o1 6 (.move (t1 0))), (o1 7 (.len false (t1 6))), (o1 8 (.arith .lss (t1 5) (t1 7)))]) (.cond (t1 8) .skip (.exit 0)))
  (.seq (.block 1 (.region true [(o1 11 (.move (t1 3))), (o1 12 (.move (t1 0))), (o1 13 (.move (t1 4))), (o1 14 (.indexAddr none 3 (t1 12) (t1 13))), (o1 15 (.fieldAddr 0 (t1 14))), (o1 16 (.load
  false 1 (t1 15))), (o1 17 (.move (t1 0))), (o1 18 (.move (t1 4))), (o1 19 (.indexAddr none 3 (t1 17) (t1 18))), (o1 20 (.fieldAddr 1 (t1 19))), (o1 21 (.load false 1 (t1 20))), (o1 22 (.move (t1
  0))), (o1 23 (.move (t1 4))), (o1 24 (.indexAddr none 3 (t1 22) (t1 23))), (o1 25 (.fieldAddr 2 (t1 24))), (o1 26 (.load false 1 (t1 25))), (o1 27 (.call true 25 [(t1 26)])), (o1 28 (.build [(.v
  (.int .i64 0)), (.v (.int .i64 0)), (.slice .nilS 0 [])] [(0, (1, (t1 16))), (1, (1, (t1 21))), (2, (1, (t1 27)))])), (o1 29 (.buildSlice 3 [[(.v (.int .i64 0)), (.v (.int .i64 0)), (.slice .nilS 0
  [])]] [(0, (t1 28))])), (o1 30 (.append 3 (t1 11) (t1 29))), (o1 3 (.move (t1 30)))])) (.region false [(o1 9 (.move (t1 4))), (o1 10 (.arith .add (t1 9) (.const (.v (.int .i64 1))))), (o1 4 (.move
  (t1 10)))])))
def b_r_Copy : ACode := (.seq (.region false [(o1 2 (.move (.const (.slice .nilS 0 []))))]) (.seq (.region false [(o1 3 (.move (.const (.slice .nilS 0 []))))]) (.seq (.seq (.region false [(o1 4 (.move
  (.const (.v (.int .i64 0)))))]) (.block 0 (.loop b_r_Copy_l0))) b_r_Copy_r0)))
abbrev k_r_Copy_0 : List K := [.blk 0, .c b_r_Copy_r0]
abbrev f_r_Copy := finF [(.tmp 2)] true
def c_r_Copy : AFn := .code 1 32 b_r_Copy [(.tmp 2)] true
-- 10
def b_s_LoadOf : ACode := (.seq (.region false [(o1 3 (.box 3 (t1 0))), (o1 6 (.alloc [(.v (.int .i64 0)), (.v (.int .i64 0))])), (o1 7 (.move (.const (.v (.int .i64 0)))))]) (.seq (.region false [(o1
  13 (.load true 3 (t1 3))), (o1 14 (.move (t1 1))), (o1 15 (.move (t1 2))), (o1 16 (.call false 22 [(t1 13), (t1 14), (t1 15)])), (o1 12 (.move (t1 16))), (o1 17 (.extract 0 (t1 12))), (o1 18
  (.extract 1 (t1 12))), (o1 8 (.move (t1 17))), (o1 9 (.move (t1 18)))]) (.seq (.seq (.region false [(o1 19 (.move (t1 9))), (o1 20 (.arith .neq (t1 19) (.const (.v (.int .i64 0)))))]) (.cond (t1 20)
  (.seq (.region false [(o1 21 (.build [(.v (.int .i64 0)), (.v (.int .i64 0))] [])), (o1 22 (.move (t1 9))), ⟨none, none, (.store 2 (t1 6) (t1 21))⟩, (o1 7 (.move (t1 22)))]) .ret) .skip)) (.seq
  (.region false [(o1 24 (.move (t1 8))), (o1 25 (.move (t1 1))), (o1 26 (.move (t1 2))), (o1 27 (.call false 23 [(t1 24), (t1 25), (t1 26)])), (o1 23 (.move (t1 27))), (o1 28 (.extract 0 (t1 23))),
  (o1 29 (.extract 1 (t1 23))), (o1 11 (.alloc (zeros 200))), (o1 10 (.move (t1 28))), ⟨none, none, (.store 200 (t1 11) (t1 29))⟩]) (.seq (.region false [(o1 30 (.move (t1 10))), (o1 31 (.move (t1
  8))), (o1 32 (.move (t1 2))), (o1 33 (.call false 27 [(t1 31), (t1 32)])), (o1 34 (.call false 26 [(t1 30), (t1 33)])), ⟨none, none, (.store 2 (t1 6) (t1 34))⟩, (o1 7 (.move (.const (.v (.int .i64
  0)))))]) .ret)))))
abbrev f_s_LoadOf := finF [(.cell true 2 6), (.tmp 7)] false
def c_s_LoadOf : AFn := .code 3 35 b_s_LoadOf [(.cell true 2 6), (.tmp 7)] false
-- 11
def b_r_PlanErr : ACode := (.seq (.region false [(o1 2 (.box 3 (t1 0))), (o1 4 (.move (.const (.v (.int .i64 0)))))]) (.seq (.seq (.region false [(o1 8 (.load true 3 (t1 2))), (o1 9 (.call false 28
  [(t1 8)])), (o1 5 (.move (t1 9)))]) (.seq (.region false [(o1 10 (.move (t1 5))), (o1 11 (.arith .neq (t1 10) (.const (.v (.int .i64 0)))))]) (.cond (t1 11) (.seq (.region false [(o1 12 (.move (t1
  5))), (o1 4 (.move (t1 12)))]) .ret) .skip))) (.seq (.region false [(o1 14 (.load true 3 (t1 2))), (o1 15 (.move (t1 1))), (o1 16 (.call false 29 [(t1 14), (t1 15)])), (o1 13 (.move (t1 16))), (o1
  17 (.extract 0 (t1 13))), (o1 18 (.extract 1 (t1 13))), (o1 6 (.move (t1 17))), (o1 7 (.move (t1 18)))]) (.seq (.region false [(o1 19 (.move (t1 7))), (o1 4 (.move (t1 19)))]) .ret))))
abbrev f_r_PlanErr := finF [(.tmp 4)] false
def c_r_PlanErr : AFn := .code 2 20 b_r_PlanErr [(.tmp 4)] false
-- 12
def b_b_Within : ACode := (.seq (.region false [(o1 6 (.move (.const (.v (.bool false)))))]) (.seq (.region false [(o1 7 (.move (t1 1))), (o1 8 (.move (t1 0))), (o1 9 (.arith .leq (t1 7) (t1 8))), (o1
  10 (.move (t1 9))), ⟨(some 11), (some (10, true)), (.move (t1 0))⟩, ⟨(some 12), (some (10, true)), (.move (t1 2))⟩, ⟨(some 13), (some (10, true)), (.arith .leq (t1 11) (t1 12))⟩, (o1 14 (.pick (t1
  10) (t1 13) (.const (.v (.bool false))))), (o1 6 (.move (t1 14)))]) .ret))
abbrev f_b_Within := finF [(.tmp 6)] false
def c_b_Within : AFn := .code 3 15 b_b_Within [(.tmp 6)] false
-- 13
def b_b_Ranges_r0 : ACode := (.seq (.region false [(o1 4 (.move (.const (.v (.bool true)))))]) .ret)
def b_b_Ranges_l0 : ACode := (.seq (.seq (.region false [(o1 11 (.move (t1 5))), (o1 12 (.move (t1 0))), (o1 13 (.len false (t1 12))), (o1 14 (.arith .lss (t1 11) (t1 13)))]) (.cond (t1 14) .skip
  (.exit 0))) (.seq (.block 1 (.seq (.region true [(o1 17 (.move (t1 0))), (o1 18 (.move (t1 5))), (o1 19 (.indexAddr none 2 (t1 17) (t1 18))), (o1 20 (.load true 2 (t1 19))), (o1 21 (.move (t1 1))),
  (o1 22 (.move (t1 5))), (o1 23 (.indexAddr none 2 (t1 21) (t1 22))), (o1 24 (.load true 2 (t1 23))), (o1 25 (.eqv true (.agg [.int, .int]) (t1 20) (t1 24)))]) (.cond (t1 25) (.seq (.region false
  [(o1 4 (.move (.const (.v (.bool false)))))]) .ret) .skip))) (.region false [(o1 15 (.move (t1 5))), (o1 16 (.arith .add (t1 15) (.const (.v (.int .i64 1))))), (o1 5 (.move (t1 16)))])))
def b_b_Ranges : ACode := (.seq (.region false [(o1 4 (.move (.const (.v (.bool false)))))]) (.seq (.seq (.region false [(o1 6 (.move (t1 0))), (o1 7 (.len false (t1 6))), (o1 8 (.move (t1 1))), (o1 9
  (.len false (t1 8))), (o1 10 (.arith .neq (t1 7) (t1 9)))]) (.cond (t1 10) (.seq (.region false [(o1 4 (.move (.const (.v (.bool false)))))]) .ret) .skip)) (.seq (.seq (.region false [(o1 5 (.move
  (.const (.v (.int .i64 0)))))]) (.block 0 (.loop b_b_Ranges_l0))) b_b_Ranges_r0)))
abbrev k_b_Ranges_0 : List K := [.blk 0, .c b_b_Ranges_r0]
abbrev f_b_Ranges := finF [(.tmp 4)] false
def c_b_Ranges : AFn := .code 2 26 b_b_Ranges [(.tmp 4)] false
-- 14
def b_r_FreeOf_r0 : ACode := (.seq (.region false [(o1 56 (.move (t1 7))), (o1 6 (.move (t1 56)))]) .ret)
def b_r_FreeOf_l0 : ACode := (.seq (.seq (.region false [(o1 10 (.move (t1 8))), (o1 11 (.fieldAddr 0 (t1 3))), (o1 12 (.load false 1 (t1 11))), (o1 13 (.arith .lss (t1 10) (t1 12)))]) (.cond (t1 13)
  .skip (.exit 0))) (.seq (.block 1 (.seq (.seq (.region false [(o1 16 (.fieldAddr 1 (t1 3))), (o1 17 (.load false 1 (t1 16))), (o1 18 (.move (t1 2))), (o1 19 (.indexAddr none 3 (t1 17) (t1 18))), (o1
  20 (.load true 3 (t1 19))), (o1 21 (.move (t1 8))), (o1 22 (.call false 30 [(t1 20), (t1 21)])), (o1 23 (.move (t1 22))), ⟨(some 24), (some (23, false)), (.load true 3 (t1 3))⟩, ⟨(some 25), (some
  (23, false)), (.move (t1 1))⟩, ⟨(some 26), (some (23, false)), (.move (t1 2))⟩, ⟨(some 27), (some (23, false)), (.move (t1 8))⟩, ⟨(some 28), (some (23, false)), (.call false 31 [(t1 24), (t1 25),
  (t1 26), (t1 27)])⟩, (o1 29 (.pick (t1 23) (.const (.v (.bool true))) (t1 28)))]) (.cond (t1 29) (.exit 1) .skip)) (.seq (.region false [(o1 30 (.move (t1 7))), (o1 31 (.len false (t1 30))), (o1 32
  (.arith .sub (t1 31) (.const (.v (.int .i64 1))))), (o1 9 (.move (t1 32)))]) (.seq (.region false [(o1 33 (.move (t1 9))), (o1 34 (.arith .geq (t1 33) (.const (.v (.int .i64 0))))), (o1 35 (.move
  (t1 34))), ⟨(some 36), (some (35, true)), (.move (t1 7))⟩, ⟨(some 37), (some (35, true)), (.move (t1 9))⟩, ⟨(some 38), (some (35, true)), (.indexAddr none 2 (t1 36) (t1 37))⟩, ⟨(some 39), (some (35,
  true)), (.fieldAddr 1 (t1 38))⟩, ⟨(some 40), (some (35, true)), (.load false 1 (t1 39))⟩, ⟨(some 41), (some (35, true)), (.move (t1 8))⟩, ⟨(some 42), (some (35, true)), (.arith .sub (t1 41) (.const
  (.v (.int .i64 1))))⟩, ⟨(some 43), (some (35, true)), (.arith .eql (t1 40) (t1 42))⟩, (o1 44 (.pick (t1 35) (t1 43) (.const (.v (.bool false)))))]) (.cond (t1 44) (.region false [(o1 45 (.move (t1
  7))), (o1 46 (.move (t1 9))), (o1 47 (.move (t1 8))), (o1 48 (.indexAddr none 2 (t1 45) (t1 46))), (o1 49 (.fieldAddr 1 (t1 48))), ⟨none, none, (.store 1 (t1 49) (t1 47))⟩]) (.region false [(o1 50
  (.move (t1 7))), (o1 51 (.move (t1 8))), (o1 52 (.move (t1 8))), (o1 53 (.build [(.v (.int .i64 0)), (.v (.int .i64 0))] [(0, (1, (t1 51))), (1, (1, (t1 52)))])), (o1 54 (.buildSlice 2 [[(.v (.int
  .i64 0)), (.v (.int .i64 0))]] [(0, (t1 53))])), (o1 55 (.appendm 2 (t1 50) (t1 54))), (o1 7 (.move (t1 55)))])))))) (.region false [(o1 14 (.move (t1 8))), (o1 15 (.arith .add (t1 14) (.const (.v
  (.int .i64 1))))), (o1 8 (.move (t1 15)))])))
def b_r_FreeOf : ACode := (.seq (.region false [(o1 3 (.box 3 (t1 0))), (o1 6 (.move (.const (.slice .nilS 0 []))))]) (.seq (.region false [(o1 7 (.move (.const (.slice .nilS 0 []))))]) (.seq (.seq
  (.region false [(o1 8 (.move (.const (.v (.int .i64 0)))))]) (.block 0 (.loop b_r_FreeOf_l0))) b_r_FreeOf_r0)))
abbrev k_r_FreeOf_0 : List K := [.blk 0, .c b_r_FreeOf_r0]
abbrev f_r_FreeOf := finF [(.tmp 6)] false
def c_r_FreeOf : AFn := .code 3 57 b_r_FreeOf [(.tmp 6)] false
-- 15
def b_r_LoadOf_r0 : ACode := (.seq (.seq (.region false [(o1 33 (.move (t1 8))), (o1 34 (.arith .eql (t1 33) (.const (.v (.int .i64 0)))))]) (.cond (t1 34) (.seq (.region false [(o1 35 (.call false 21
  [(.const (.v (.int .i64 0)))])), ⟨none, none, (.store 2 (t1 6) (t1 35))⟩]) .ret) .skip)) (.seq (.region false [(o1 36 (.move (t1 7))), (o1 37 (.move (t1 8))), (o1 38 (.call false 32 [(t1 36), (t1
  37)])), ⟨none, none, (.store 2 (t1 6) (t1 38))⟩]) .ret))
def b_r_LoadOf_l0 : ACode := (.seq (.seq (.region false [(o1 10 (.move (t1 9))), (o1 11 (.fieldAddr 0 (t1 3))), (o1 12 (.load false 1 (t1 11))), (o1 13 (.arith .lss (t1 10) (t1 12)))]) (.cond (t1 13)
  .skip (.exit 0))) (.seq (.block 1 (.seq (.seq (.region false [(o1 16 (.fieldAddr 1 (t1 3))), (o1 17 (.load false 1 (t1 16))), (o1 18 (.move (t1 2))), (o1 19 (.indexAddr none 3 (t1 17) (t1 18))), (o1
  20 (.load true 3 (t1 19))), (o1 21 (.move (t1 9))), (o1 22 (.call false 30 [(t1 20), (t1 21)])), (o1 23 (.un .not (t1 22)))]) (.cond (t1 23) (.region false [(o1 24 (.move (t1 8))), (o1 25 (.arith
  .add (t1 24) (.const (.v (.int .i64 1))))), (o1 8 (.move (t1 25)))]) .skip)) (.seq (.region false [(o1 26 (.load true 3 (t1 3))), (o1 27 (.move (t1 1))), (o1 28 (.move (t1 2))), (o1 29 (.move (t1
  9))), (o1 30 (.call false 31 [(t1 26), (t1 27), (t1 28), (t1 29)]))]) (.cond (t1 30) (.region false [(o1 31 (.move (t1 7))), (o1 32 (.arith .add (t1 31) (.const (.v (.int .i64 1))))), (o1 7 (.move
  (t1 32)))]) .skip)))) (.region false [(o1 14 (.move (t1 9))), (o1 15 (.arith .add (t1 14) (.const (.v (.int .i64 1))))), (o1 9 (.move (t1 15)))])))
def b_r_LoadOf : ACode := (.seq (.region false [(o1 3 (.box 3 (t1 0))), (o1 6 (.alloc [(.v (.int .i64 0)), (.v (.int .i64 0))]))]) (.seq (.region false [(o1 7 (.move (.const (.v (.int .i64 0))))), (o1
  8 (.move (.const (.v (.int .i64 0)))))]) (.seq (.seq (.region false [(o1 9 (.move (.const (.v (.int .i64 0)))))]) (.block 0 (.loop b_r_LoadOf_l0))) b_r_LoadOf_r0)))
abbrev k_r_LoadOf_0 : List K := [.blk 0, .c b_r_LoadOf_r0]
abbrev f_r_LoadOf := finF [(.cell true 2 6)] false
def c_r_LoadOf : AFn := .code 3 39 b_r_LoadOf [(.cell true 2 6)] false
-- 16
def b_b_Has_r0 : ACode := (.seq (.region false [(o1 4 (.move (.const (.v (.bool false)))))]) .ret)
def b_b_Has_l0 : ACode := (.seq (.seq (.region false [(o1 6 (.move (t1 5))), (o1 7 (.move (t1 0))), (o1 8 (.len false (t1 7))), (o1 9 (.arith .lss (t1 6) (t1 8)))]) (.cond (t1 9) .skip (.exit 0)))
  (.seq (.block 1 (.seq (.region false [(o1 12 (.move (t1 0))), (o1 13 (.move (t1 5))), (o1 14 (.indexAddr none 1 (t1 12) (t1 13))), (o1 15 (.load false 1 (t1 14))), (o1 16 (.move (t1 1))), (o1 17
  (.arith .eql (t1 15) (t1 16)))]) (.cond (t1 17) (.seq (.region false [(o1 4 (.move (.const (.v (.bool true)))))]) .ret) .skip))) (.region false [(o1 10 (.move (t1 5))), (o1 11 (.arith .add (t1 10)
  (.const (.v (.int .i64 1))))), (o1 5 (.move (t1 11)))])))
def b_b_Has : ACode := (.seq (.region false [(o1 4 (.move (.const (.v (.bool false)))))]) (.seq (.seq (.region false [(o1 5 (.move (.const (.v (.int .i64 0)))))]) (.block 0 (.loop b_b_Has_l0)))
  b_b_Has_r0))
abbrev k_b_Has_0 : List K := [.blk 0, .c b_b_Has_r0]
abbrev f_b_Has := finF [(.tmp 4)] false
def c_b_Has : AFn := .code 2 18 b_b_Has [(.tmp 4)] false
-- 17
def b_s_Best : ACode := (.seq (.region false [(o1 1 (.box 3 (t1 0))), (o1 2 (.move (.const (.slice .nilS 0 [])))), (o1 3 (.move (.const (.v (.int .i64 0))))), (o1 4 (.move (.const (.v (.int .i64
  0)))))]) (.seq (.region false [(o1 11 (.load true 3 (t1 1))), (o1 12 (.call false 33 [(t1 11)])), (o1 10 (.move (t1 12))), (o1 13 (.extract 0 (t1 10))), (o1 14 (.extract 1 (t1 10))), (o1 5 (.move
  (t1 13))), (o1 6 (.move (t1 14)))]) (.seq (.seq (.region false [(o1 15 (.move (t1 6))), (o1 16 (.arith .neq (t1 15) (.const (.v (.int .i64 0)))))]) (.cond (t1 16) (.seq (.region false [(o1 17 (.move
  (t1 6))), (o1 2 (.move (.const (.slice .nilS 0 [])))), (o1 3 (.move (.const (.v (.int .i64 0))))), (o1 4 (.move (t1 17)))]) .ret) .skip)) (.seq (.region false [(o1 19 (.move (t1 5))), (o1 20 (.call
  false 34 [(t1 19)])), (o1 21 (.call false 35 [(t1 20)])), (o1 18 (.move (t1 21))), (o1 22 (.extract 0 (t1 18))), (o1 23 (.extract 1 (t1 18))), (o1 24 (.extract 2 (t1 18))), (o1 7 (.move (t1 22))),
  (o1 8 (.move (t1 23))), (o1 9 (.move (t1 24)))]) (.seq (.region false [(o1 25 (.move (t1 7))), (o1 26 (.move (t1 8))), (o1 2 (.move (t1 25))), (o1 3 (.move (t1 26))), (o1 4 (.move (.const (.v (.int
  .i64 0)))))]) .ret)))))
abbrev f_s_Best := finF [(.tmp 2), (.tmp 3), (.tmp 4)] false
def c_s_Best : AFn := .code 1 27 b_s_Best [(.tmp 2), (.tmp 3), (.tmp 4)] false
-- 18
def b_l_Week : ACode := (.seq (.region false [(o1 0 (.alloc [(.v (.int .i64 0)), (.slice .nilS 0 []), (.slice .nilS 0 [])]))]) (.seq (.region false [(o1 1 (.build [(.v (.int .i64 0)), (.v (.int .i64
  0))] [(0, (1, (.const (.v (.int .i64 4))))), (1, (1, (.const (.v (.int .i64 4)))))])), (o1 2 (.buildSlice 2 [[(.v (.int .i64 0)), (.v (.int .i64 0))]] [(0, (t1 1))])), (o1 3 (.build [(.v (.string
  ⟨#[]⟩)), (.v (.int .i64 0)), (.slice .nilS 0 [])] [(0, (1, (.const (.v (.string ⟨#[97]⟩))))), (1, (1, (.const (.v (.int .i64 1))))), (2, (1, (t1 2)))])), (o1 4 (.build [(.v (.string ⟨#[]⟩)), (.v
  (.int .i64 0)), (.slice .nilS 0 [])] [(0, (1, (.const (.v (.string ⟨#[98]⟩)))))])), (o1 5 (.buildSlice 3 [[(.v (.string ⟨#[]⟩)), (.v (.int .i64 0)), (.slice .nilS 0 [])], [(.v (.string ⟨#[]⟩)), (.v
  (.int .i64 0)), (.slice .nilS 0 [])]] [(0, (t1 3)), (1, (t1 4))])), (o1 6 (.build [(.v (.int .i64 0)), (.v (.int .i64 0))] [(1, (1, (.const (.v (.int .i64 5)))))])), (o1 7 (.buildSlice 1 [[(.v (.int
  .i64 0))]] [(0, (.const (.v (.int .i64 0))))])), (o1 8 (.build [(.v (.string ⟨#[]⟩)), (.v (.int .i64 0)), (.v (.int .i64 0)), (.v (.int .i64 0)), (.v (.int .i64 0)), (.slice .nilS 0 []), (.v (.int
  .i64 0))] [(0, (1, (.const (.v (.string ⟨#[109, 97, 114, 115]⟩))))), (1, (2, (t1 6))), (3, (1, (.const (.v (.int .i64 3))))), (4, (1, (.const (.v (.int .i64 10))))), (5, (1, (t1 7))), (6, (1,
  (.const (.v (.int .i64 1)))))])), (o1 9 (.build [(.v (.int .i64 0)), (.v (.int .i64 0))] [(1, (1, (.const (.v (.int .i64 4)))))])), (o1 10 (.buildSlice 1 [[(.v (.int .i64 0))], [(.v (.int .i64 0))]]
  [(0, (.const (.v (.int .i64 0)))), (1, (.const (.v (.int .i64 1))))])), (o1 11 (.build [(.v (.string ⟨#[]⟩)), (.v (.int .i64 0)), (.v (.int .i64 0)), (.v (.int .i64 0)), (.v (.int .i64 0)), (.slice
  .nilS 0 []), (.v (.int .i64 0))] [(0, (1, (.const (.v (.string ⟨#[109, 111, 111, 110]⟩))))), (1, (2, (t1 9))), (3, (1, (.const (.v (.int .i64 2))))), (4, (1, (.const (.v (.int .i64 7))))), (5, (1,
  (t1 10))), (6, (1, (.const (.v (.int .i64 1)))))])), (o1 12 (.build [(.v (.int .i64 0)), (.v (.int .i64 0))] [(1, (1, (.const (.v (.int .i64 9)))))])), (o1 13 (.buildSlice 1 [[(.v (.int .i64 0))],
  [(.v (.int .i64 0))]] [(0, (.const (.v (.int .i64 0)))), (1, (.const (.v (.int .i64 1))))])), (o1 14 (.build [(.v (.string ⟨#[]⟩)), (.v (.int .i64 0)), (.v (.int .i64 0)), (.v (.int .i64 0)), (.v
  (.int .i64 0)), (.slice .nilS 0 []), (.v (.int .i64 0))] [(0, (1, (.const (.v (.string ⟨#[109, 97, 114, 115]⟩))))), (1, (2, (t1 12))), (3, (1, (.const (.v (.int .i64 4))))), (4, (1, (.const (.v
  (.int .i64 6))))), (5, (1, (t1 13))), (6, (1, (.const (.v (.int .i64 2)))))])), (o1 15 (.buildSlice 7 [[(.v (.string ⟨#[]⟩)), (.v (.int .i64 0)), (.v (.int .i64 0)), (.v (.int .i64 0)), (.v (.int
  .i64 0)), (.slice .nilS 0 []), (.v (.int .i64 0))], [(.v (.string ⟨#[]⟩)), (.v (.int .i64 0)), (.v (.int .i64 0)), (.v (.int .i64 0)), (.v (.int .i64 0)), (.slice .nilS 0 []), (.v (.int .i64 0))],
  [(.v (.string ⟨#[]⟩)), (.v (.int .i64 0)), (.v (.int .i64 0)), (.v (.int .i64 0)), (.v (.int .i64 0)), (.slice .nilS 0 []), (.v (.int .i64 0))]] [(0, (t1 8)), (1, (t1 11)), (2, (t1 14))])), (o1 16
  (.build [(.v (.int .i64 0)), (.slice .nilS 0 []), (.slice .nilS 0 [])] [(0, (1, (.const (.v (.int .i64 10))))), (1, (1, (t1 5))), (2, (1, (t1 15)))])), ⟨none, none, (.store 3 (t1 0) (t1 16))⟩])
  .ret))
abbrev f_l_Week := finF [(.cell true 3 0)] false
def c_l_Week : AFn := .code 0 17 b_l_Week [(.cell true 3 0)] false
-- 19
def b_s_ShareOf_r0 : ACode := (.seq (.seq (.region false [(o1 56 (.move (t1 12))), (o1 57 (.arith .eql (t1 56) (.const (.v (.int .i64 0)))))]) (.cond (t1 57) (.seq (.region false [(o1 58 (.build [(.v
  (.int .i64 0)), (.v (.int .i64 0))] [])), ⟨none, none, (.store 2 (t1 6) (t1 58))⟩, (o1 7 (.move (.const (.v (.int .i64 6)))))]) .ret) .skip)) (.seq (.region false [(o1 59 (.move (t1 11))), (o1 60
  (.move (t1 12))), (o1 61 (.call false 26 [(t1 59), (t1 60)])), ⟨none, none, (.store 2 (t1 6) (t1 61))⟩, (o1 7 (.move (.const (.v (.int .i64 0)))))]) .ret))
def b_s_ShareOf_l0 : ACode := (.seq (.region false [(o1 32 (.arith .lss (t1 31) (t1 30)))]) (.seq (.cond (t1 32) .skip (.exit 0)) (.seq (.block 1 (.seq (.region false [(o1 33 (.move (t1 31))), (o1 34
  (.indexAddr none 7 (t1 29) (t1 31))), (o1 35 (.load true 7 (t1 34))), (o1 14 (.alloc [(.v (.string ⟨#[]⟩)), (.v (.int .i64 0)), (.v (.int .i64 0)), (.v (.int .i64 0)), (.v (.int .i64 0)), (.slice
  .nilS 0 []), (.v (.int .i64 0))])), (o1 13 (.move (t1 33))), ⟨none, none, (.store 7 (t1 14) (t1 35))⟩]) (.seq (.seq (.region false [(o1 36 (.fieldAddr 0 (t1 14))), (o1 37 (.load false 1 (t1 36))),
  (o1 38 (.move (t1 2))), (o1 39 (.arith .neq (t1 37) (t1 38)))]) (.cond (t1 39) (.exit 1) .skip)) (.seq (.region false [(o1 40 (.move (t1 12))), (o1 41 (.fieldAddr 3 (t1 14))), (o1 42 (.load false 1
  (t1 41))), (o1 43 (.arith .add (t1 40) (t1 42))), (o1 12 (.move (t1 43)))]) (.seq (.region false [(o1 45 (.move (t1 1))), (o1 46 (.move (t1 13))), (o1 47 (.call false 37 [(t1 45), (t1 46)])), (o1 44
  (.move (t1 47))), (o1 48 (.extract 0 (t1 44))), (o1 49 (.extract 1 (t1 44))), (o1 15 (.alloc [(.v (.int .i64 0)), (.v (.int .i64 0)), (.slice .nilS 0 [])])), ⟨none, none, (.store 3 (t1 15) (t1
  48))⟩, (o1 16 (.move (t1 49)))]) (.seq (.region false [(o1 50 (.move (t1 16)))]) (.cond (t1 50) (.region false [(o1 51 (.move (t1 11))), (o1 52 (.fieldAddr 3 (t1 14))), (o1 53 (.load false 1 (t1
  52))), (o1 54 (.arith .add (t1 51) (t1 53))), (o1 11 (.move (t1 54)))]) .skip))))))) (.region false [(o1 55 (.arith .add (t1 31) (.const (.v (.int .i64 1))))), (o1 31 (.move (t1 55)))]))))
def b_s_ShareOf : ACode := (.seq (.region false [(o1 3 (.box 3 (t1 0))), (o1 6 (.alloc [(.v (.int .i64 0)), (.v (.int .i64 0))])), (o1 7 (.move (.const (.v (.int .i64 0)))))]) (.seq (.seq (.region
  false [(o1 18 (.load true 3 (t1 3))), (o1 19 (.move (t1 1))), (o1 20 (.call false 36 [(t1 18), (t1 19)])), (o1 17 (.move (t1 20))), (o1 21 (.extract 0 (t1 17))), (o1 22 (.extract 1 (t1 17))), (o1 23
  (.extract 2 (t1 17))), (o1 8 (.move (t1 21))), (o1 9 (.move (t1 22))), (o1 10 (.move (t1 23)))]) (.seq (.region false [(o1 24 (.move (t1 10))), (o1 25 (.arith .neq (t1 24) (.const (.v (.int .i64
  0)))))]) (.cond (t1 25) (.seq (.region false [(o1 26 (.build [(.v (.int .i64 0)), (.v (.int .i64 0))] [])), (o1 27 (.move (t1 10))), ⟨none, none, (.store 2 (t1 6) (t1 26))⟩, (o1 7 (.move (t1 27)))])
  .ret) .skip))) (.seq (.region false [(o1 11 (.move (.const (.v (.int .i64 0))))), (o1 12 (.move (.const (.v (.int .i64 0)))))]) (.seq (.seq (.region false [(o1 28 (.fieldAddr 2 (t1 3))), (o1 29
  (.load false 1 (t1 28))), (o1 30 (.len false (t1 29))), (o1 31 (.move (.const (.v (.int .i64 0)))))]) (.block 0 (.loop b_s_ShareOf_l0))) b_s_ShareOf_r0))))
abbrev k_s_ShareOf_0 : List K := [.blk 0, .c b_s_ShareOf_r0]
abbrev f_s_ShareOf := finF [(.cell true 2 6), (.tmp 7)] false
def c_s_ShareOf : AFn := .code 3 62 b_s_ShareOf [(.cell true 2 6), (.tmp 7)] false
-- 20
def b_s_FormatPlan_r0 : ACode := (.seq (.region false [(o1 41 (.move (t1 3))), (o1 42 (.call false 39 [(t1 41), (.const (.v (.string ⟨#[32]⟩)))])), (o1 2 (.move (t1 42)))]) .ret)
def b_s_FormatPlan_r1 : ACode := (.region false [(o1 40 (.arith .add (t1 11) (.const (.v (.int .i64 1))))), (o1 11 (.move (t1 40)))])
def b_s_FormatPlan_r2 : ACode := (.region false [(o1 36 (.move (t1 3))), (o1 37 (.move (t1 6))), (o1 38 (.buildSlice 1 [[(.v (.string ⟨#[]⟩))]] [(0, (t1 37))])), (o1 39 (.append 1 (t1 36) (t1 38))),
  (o1 3 (.move (t1 39)))])
def b_s_FormatPlan_l1 : ACode := (.seq (.region false [(o1 27 (.arith .lss (t1 26) (t1 25)))]) (.seq (.cond (t1 27) .skip (.exit 2)) (.seq (.block 3 (.seq (.region false [(o1 28 (.indexAddr none 1 (t1
  24) (t1 26))), (o1 29 (.load false 1 (t1 28))), (o1 8 (.move (t1 29)))]) (.region false [(o1 30 (.move (t1 6))), (o1 31 (.move (t1 8))), (o1 32 (.call false 38 [(t1 31)])), (o1 33 (.arith .add
  (.const (.v (.string ⟨#[43]⟩))) (t1 32))), (o1 34 (.arith .add (t1 30) (t1 33))), (o1 6 (.move (t1 34)))]))) (.region false [(o1 35 (.arith .add (t1 26) (.const (.v (.int .i64 1))))), (o1 26 (.move
  (t1 35)))]))))
def b_s_FormatPlan_l0 : ACode := (.seq (.region false [(o1 12 (.arith .lss (t1 11) (t1 10)))]) (.seq (.cond (t1 12) .skip (.exit 0)) (.seq (.block 1 (.seq (.region false [(o1 13 (.indexAddr none 3 (t1
  9) (t1 11))), (o1 14 (.load true 3 (t1 13))), (o1 5 (.alloc [(.v (.int .i64 0)), (.v (.int .i64 0)), (.slice .nilS 0 [])])), ⟨none, none, (.store 3 (t1 5) (t1 14))⟩]) (.seq (.region true [(o1 15
  (.fieldAddr 0 (t1 5))), (o1 16 (.load false 1 (t1 15))), (o1 17 (.call true 38 [(t1 16)])), (o1 18 (.arith .add (t1 17) (.const (.v (.string ⟨#[64]⟩))))), (o1 19 (.fieldAddr 1 (t1 5))), (o1 20
  (.load false 1 (t1 19))), (o1 21 (.call false 38 [(t1 20)])), (o1 22 (.arith .add (t1 18) (t1 21))), (o1 6 (.move (t1 22)))]) (.seq (.seq (.region false [(o1 23 (.fieldAddr 2 (t1 5))), (o1 24 (.load
  false 1 (t1 23))), (o1 25 (.len false (t1 24))), (o1 26 (.move (.const (.v (.int .i64 0)))))]) (.block 2 (.loop b_s_FormatPlan_l1))) b_s_FormatPlan_r2)))) b_s_FormatPlan_r1)))
def b_s_FormatPlan : ACode := (.seq (.region false [(o1 2 (.move (.const (.v (.string ⟨#[]⟩)))))]) (.seq (.region false [(o1 3 (.move (.const (.slice .nilS 0 []))))]) (.seq (.seq (.region false [(o1 9
  (.move (t1 0))), (o1 10 (.len false (t1 9))), (o1 11 (.move (.const (.v (.int .i64 0)))))]) (.block 0 (.loop b_s_FormatPlan_l0))) b_s_FormatPlan_r0)))
abbrev k_s_FormatPlan_1 : List K := [.blk 2, .c b_s_FormatPlan_r2, .blk 1, .c b_s_FormatPlan_r1, .lp b_s_FormatPlan_l0, .blk 0, .c b_s_FormatPlan_r0]
abbrev k_s_FormatPlan_0 : List K := [.blk 0, .c b_s_FormatPlan_r0]
abbrev f_s_FormatPlan := finF [(.tmp 2)] false
def c_s_FormatPlan : AFn := .code 1 43 b_s_FormatPlan [(.tmp 2)] false
-- 21
def b_b_Whole : ACode := (.seq (.region false [(o1 2 (.alloc [(.v (.int .i64 0)), (.v (.int .i64 0))]))]) (.seq (.region false [(o1 3 (.move (t1 0))), (o1 4 (.build [(.v (.int .i64 0)), (.v (.int .i64
  0))] [(0, (1, (t1 3))), (1, (1, (.const (.v (.int .i64 1)))))])), ⟨none, none, (.store 2 (t1 2) (t1 4))⟩]) .ret))
abbrev f_b_Whole := finF [(.cell true 2 2)] false
def c_b_Whole : AFn := .code 1 5 b_b_Whole [(.cell true 2 2)] false
-- 22
def b_s_openAntenna : ACode := (.seq (.region false [(o1 3 (.box 3 (t1 0))), (o1 6 (.move (.const (.v (.pointer none))))), (o1 7 (.move (.const (.v (.int .i64 0)))))]) (.seq (.region false [(o1 12
  (.load true 3 (t1 3))), (o1 13 (.move (t1 1))), (o1 14 (.call false 36 [(t1 12), (t1 13)])), (o1 11 (.move (t1 14))), (o1 15 (.extract 0 (t1 11))), (o1 16 (.extract 1 (t1 11))), (o1 17 (.extract 2
  (t1 11))), (o1 8 (.move (t1 15))), (o1 9 (.move (t1 16))), (o1 10 (.move (t1 17)))]) (.seq (.seq (.region false [(o1 18 (.move (t1 10))), (o1 19 (.arith .neq (t1 18) (.const (.v (.int .i64 0)))))])
  (.cond (t1 19) (.seq (.region false [(o1 20 (.move (t1 10))), (o1 6 (.move (.const (.v (.pointer none))))), (o1 7 (.move (t1 20)))]) .ret) .skip)) (.seq (.region false [(o1 21 (.move (t1 8))), (o1
  22 (.move (t1 8))), (o1 23 (.move (t1 2))), (o1 24 (.call false 40 [(t1 22), (t1 23)])), (o1 6 (.move (t1 21))), (o1 7 (.move (t1 24)))]) .ret))))
abbrev f_s_openAntenna := finF [(.tmp 6), (.tmp 7)] false
def c_s_openAntenna : AFn := .code 3 25 b_s_openAntenna [(.tmp 6), (.tmp 7)] false
-- 23
def b_w_occupied_r0 : ACode := (.seq (.region true [(o1 38 (.move (t1 9))), (o1 39 (.load true 200 (t1 8))), (o1 6 (.move (t1 38))), ⟨none, none, (.store 200 (t1 7) (t1 39))⟩]) .ret)
def b_w_occupied_r1 : ACode := (.region false [(o1 37 (.arith .add (t1 15) (.const (.v (.int .i64 1))))), (o1 15 (.move (t1 37)))])
def b_w_occupied_l1 : ACode := (.seq (.seq (.region false [(o1 26 (.move (t1 12))), (o1 27 (.move (t1 0))), (o1 28 (.load true 3 (t1 11))), (o1 29 (.call false 42 [(t1 27), (t1 28)])), (o1 30 (.arith
  .lss (t1 26) (t1 29)))]) (.cond (t1 30) .skip (.exit 2))) (.seq (.block 3 (.seq (.region false [(o1 33 (.move (t1 12))), (o1 34 (.indexAddr (some 200) 1 (t1 8) (t1 33))), ⟨none, none, (.store 1 (t1
  34) (.const (.v (.bool true))))⟩]) (.region false [(o1 35 (.move (t1 9))), (o1 36 (.arith .add (t1 35) (.const (.v (.int .i64 1))))), (o1 9 (.move (t1 36)))]))) (.region false [(o1 31 (.move (t1
  12))), (o1 32 (.arith .add (t1 31) (.const (.v (.int .i64 1))))), (o1 12 (.move (t1 32)))])))
def b_w_occupied_l0 : ACode := (.seq (.region false [(o1 16 (.arith .lss (t1 15) (t1 14)))]) (.seq (.cond (t1 16) .skip (.exit 0)) (.seq (.block 1 (.seq (.region false [(o1 17 (.indexAddr none 3 (t1
  13) (t1 15))), (o1 18 (.load true 3 (t1 17))), (o1 11 (.alloc [(.v (.int .i64 0)), (.v (.int .i64 0)), (.slice .nilS 0 [])])), ⟨none, none, (.store 3 (t1 11) (t1 18))⟩]) (.seq (.seq (.region false
  [(o1 19 (.fieldAddr 2 (t1 11))), (o1 20 (.load false 1 (t1 19))), (o1 21 (.move (t1 2))), (o1 22 (.call false 41 [(t1 20), (t1 21)])), (o1 23 (.un .not (t1 22)))]) (.cond (t1 23) (.exit 1) .skip))
  (.seq (.region false [(o1 24 (.fieldAddr 1 (t1 11))), (o1 25 (.load false 1 (t1 24))), (o1 12 (.move (t1 25)))]) (.block 2 (.loop b_w_occupied_l1)))))) b_w_occupied_r1)))
def b_w_occupied : ACode := (.seq (.region false [(o1 6 (.move (.const (.v (.int .i64 0))))), (o1 7 (.alloc (zeros 200)))]) (.seq (.region false [(o1 8 (.alloc (zeros 200)))]) (.seq (.region false
  [(o1 9 (.move (.const (.v (.int .i64 0)))))]) (.seq (.seq (.region false [(o1 13 (.move (t1 1))), (o1 14 (.len false (t1 13))), (o1 15 (.move (.const (.v (.int .i64 0)))))]) (.block 0 (.loop
  b_w_occupied_l0))) b_w_occupied_r0))))
abbrev k_w_occupied_1 : List K := [.blk 2, .blk 1, .c b_w_occupied_r1, .lp b_w_occupied_l0, .blk 0, .c b_w_occupied_r0]
abbrev k_w_occupied_0 : List K := [.blk 0, .c b_w_occupied_r0]
abbrev f_w_occupied := finF [(.tmp 6), (.cell true 200 7)] false
def c_w_occupied : AFn := .code 3 40 b_w_occupied [(.tmp 6), (.cell true 200 7)] false
-- 24
def b_b_CopyRanges : ACode := (.seq (.region false [(o1 2 (.move (.const (.slice .nilS 0 []))))]) (.seq (.region false [(o1 3 (.buildSlice 2 [] [])), (o1 4 (.move (t1 0))), (o1 5 (.append 2 (t1 3) (t1
  4))), (o1 2 (.move (t1 5)))]) .ret))
abbrev f_b_CopyRanges := finF [(.tmp 2)] false
def c_b_CopyRanges : AFn := .code 1 6 b_b_CopyRanges [(.tmp 2)] false
-- 25
def b_b_CopyInts : ACode := (.seq (.region false [(o1 2 (.move (.const (.slice .nilS 0 []))))]) (.seq (.region false [(o1 3 (.buildSlice 1 [] [])), (o1 4 (.move (t1 0))), (o1 5 (.append 1 (t1 3) (t1
  4))), (o1 2 (.move (t1 5)))]) .ret))
abbrev f_b_CopyInts := finF [(.tmp 2)] true
def c_b_CopyInts : AFn := .code 1 6 b_b_CopyInts [(.tmp 2)] true
-- 26
def b_s_share_r0 : ACode := (.seq (.region true [(o1 18 (.move (t1 0))), (o1 19 (.move (t1 5))), (o1 20 (.arith .quo (t1 18) (t1 19))), (o1 21 (.move (t1 1))), (o1 22 (.move (t1 5))), (o1 23 (.arith
  .quo (t1 21) (t1 22))), (o1 24 (.build [(.v (.int .i64 0)), (.v (.int .i64 0))] [(0, (1, (t1 20))), (1, (1, (t1 23)))])), ⟨none, none, (.store 2 (t1 4) (t1 24))⟩]) .ret)
def b_s_share_l0 : ACode := (.seq (.seq (.region false [(o1 12 (.move (t1 6))), (o1 13 (.arith .neq (t1 12) (.const (.v (.int .i64 0)))))]) (.cond (t1 13) .skip (.exit 0))) (.block 1 (.region true
  [(o1 14 (.move (t1 6))), (o1 15 (.move (t1 5))), (o1 16 (.move (t1 6))), (o1 17 (.arith .rem (t1 15) (t1 16))), (o1 5 (.move (t1 14))), (o1 6 (.move (t1 17)))])))
def b_s_share : ACode := (.seq (.region false [(o1 4 (.alloc [(.v (.int .i64 0)), (.v (.int .i64 0))]))]) (.seq (.seq (.region false [(o1 7 (.move (t1 1))), (o1 8 (.arith .eql (t1 7) (.const (.v (.int
  .i64 0)))))]) (.cond (t1 8) (.seq (.region false [(o1 9 (.build [(.v (.int .i64 0)), (.v (.int .i64 0))] [(0, (1, (.const (.v (.int .i64 0))))), (1, (1, (.const (.v (.int .i64 1)))))])), ⟨none,
  none, (.store 2 (t1 4) (t1 9))⟩]) .ret) .skip)) (.seq (.region false [(o1 10 (.move (t1 0))), (o1 11 (.move (t1 1))), (o1 5 (.move (t1 10))), (o1 6 (.move (t1 11)))]) (.seq (.block 0 (.loop
  b_s_share_l0)) b_s_share_r0))))
abbrev k_s_share_0 : List K := [.blk 0, .c b_s_share_r0]
abbrev f_s_share := finF [(.cell true 2 4)] false
def c_s_share : AFn := .code 2 25 b_s_share [(.cell true 2 4)] false
-- 27
def b_w_openSlots_r0 : ACode := (.seq (.region false [(o1 27 (.move (t1 5))), (o1 4 (.move (t1 27)))]) .ret)
def b_w_openSlots_l0 : ACode := (.seq (.region false [(o1 13 (.arith .lss (t1 12) (t1 11)))]) (.seq (.cond (t1 13) .skip (.exit 0)) (.seq (.block 1 (.seq (.region false [(o1 14 (.move (t1 12))), (o1 6
  (.move (t1 14)))]) (.seq (.region false [(o1 15 (.move (t1 0))), (o1 16 (.move (t1 1))), (o1 17 (.move (t1 6))), (o1 18 (.nilCheck (t1 15))), (o1 19 (.fieldAddr 3 (t1 18))), (o1 20 (.indexAddr (some
  4) 200 (t1 19) (t1 16))), (o1 21 (.indexAddr (some 200) 1 (t1 20) (t1 17))), (o1 22 (.load false 1 (t1 21))), (o1 23 (.un .not (t1 22)))]) (.cond (t1 23) (.region false [(o1 24 (.move (t1 5))), (o1
  25 (.arith .add (t1 24) (.const (.v (.int .i64 1))))), (o1 5 (.move (t1 25)))]) .skip)))) (.region false [(o1 26 (.arith .add (t1 12) (.const (.v (.int .i64 1))))), (o1 12 (.move (t1 26)))]))))
def b_w_openSlots : ACode := (.seq (.region false [(o1 4 (.move (.const (.v (.int .i64 0)))))]) (.seq (.region false [(o1 5 (.move (.const (.v (.int .i64 0)))))]) (.seq (.seq (.region false [(o1 7
  (.move (t1 0))), (o1 8 (.nilCheck (t1 7))), (o1 9 (.fieldAddr 0 (t1 8))), (o1 10 (.fieldAddr 0 (t1 9))), (o1 11 (.load false 1 (t1 10))), (o1 12 (.move (.const (.v (.int .i64 0)))))]) (.block 0
  (.loop b_w_openSlots_l0))) b_w_openSlots_r0)))
abbrev k_w_openSlots_0 : List K := [.blk 0, .c b_w_openSlots_r0]
abbrev f_w_openSlots := finF [(.tmp 4)] false
def c_w_openSlots : AFn := .code 2 28 b_w_openSlots [(.tmp 4)] false
-- 28
def b_r_WeekErr : ACode := (.seq (.region false [(o1 1 (.box 3 (t1 0))), (o1 2 (.move (.const (.v (.int .i64 0)))))]) (.seq (.region false [(o1 6 (.load true 3 (t1 1))), (o1 7 (.call false 43 [(t1
  6)])), (o1 5 (.move (t1 7))), (o1 8 (.extract 0 (t1 5))), (o1 9 (.extract 1 (t1 5))), (o1 3 (.alloc [(.v (.int .i64 0)), (.v (.int .i64 0))])), ⟨none, none, (.store 2 (t1 3) (t1 8))⟩, (o1 4 (.move
  (t1 9)))]) (.seq (.region false [(o1 10 (.move (t1 4))), (o1 2 (.move (t1 10)))]) .ret)))
abbrev f_r_WeekErr := finF [(.tmp 2)] false
def c_r_WeekErr : AFn := .code 1 11 b_r_WeekErr [(.tmp 2)] false
-- 29
def b_r_CheckPlan_r0 : ACode := (.seq (.region false [(o1 4 (.move (.const (.v (.int .i64 0))))), (o1 5 (.move (.const (.v (.int .i64 0)))))]) .ret)
def b_r_CheckPlan_l0 : ACode := (.seq (.seq (.region false [(o1 8 (.move (t1 6))), (o1 9 (.move (t1 1))), (o1 10 (.len false (t1 9))), (o1 11 (.arith .lss (t1 8) (t1 10)))]) (.cond (t1 11) .skip
  (.exit 0))) (.seq (.block 1 (.seq (.region false [(o1 14 (.load true 3 (t1 2))), (o1 15 (.move (t1 1))), (o1 16 (.move (t1 6))), (o1 17 (.call false 44 [(t1 14), (t1 15), (t1 16)])), (o1 7 (.move
  (t1 17)))]) (.seq (.region false [(o1 18 (.move (t1 7))), (o1 19 (.arith .neq (t1 18) (.const (.v (.int .i64 0)))))]) (.cond (t1 19) (.seq (.region false [(o1 20 (.move (t1 6))), (o1 21 (.move (t1
  7))), (o1 4 (.move (t1 20))), (o1 5 (.move (t1 21)))]) .ret) .skip)))) (.region false [(o1 12 (.move (t1 6))), (o1 13 (.arith .add (t1 12) (.const (.v (.int .i64 1))))), (o1 6 (.move (t1 13)))])))
def b_r_CheckPlan : ACode := (.seq (.region false [(o1 2 (.box 3 (t1 0))), (o1 4 (.move (.const (.v (.int .i64 0))))), (o1 5 (.move (.const (.v (.int .i64 0)))))]) (.seq (.seq (.region false [(o1 6
  (.move (.const (.v (.int .i64 0)))))]) (.block 0 (.loop b_r_CheckPlan_l0))) b_r_CheckPlan_r0))
abbrev k_r_CheckPlan_0 : List K := [.blk 0, .c b_r_CheckPlan_r0]
abbrev f_r_CheckPlan := finF [(.tmp 4), (.tmp 5)] false
def c_r_CheckPlan : AFn := .code 2 22 b_r_CheckPlan [(.tmp 4), (.tmp 5)] false
-- 30
def b_r_closed_r0 : ACode := (.seq (.region false [(o1 4 (.move (.const (.v (.bool false)))))]) .ret)
def b_r_closed_l0 : ACode := (.seq (.seq (.region false [(o1 6 (.move (t1 5))), (o1 7 (.fieldAddr 2 (t1 2))), (o1 8 (.load false 1 (t1 7))), (o1 9 (.len false (t1 8))), (o1 10 (.arith .lss (t1 6) (t1
  9)))]) (.cond (t1 10) .skip (.exit 0))) (.seq (.block 1 (.seq (.region true [(o1 13 (.move (t1 1))), (o1 14 (.fieldAddr 2 (t1 2))), (o1 15 (.load false 1 (t1 14))), (o1 16 (.move (t1 5))), (o1 17
  (.indexAddr none 2 (t1 15) (t1 16))), (o1 18 (.fieldAddr 0 (t1 17))), (o1 19 (.load false 1 (t1 18))), (o1 20 (.fieldAddr 2 (t1 2))), (o1 21 (.load false 1 (t1 20))), (o1 22 (.move (t1 5))), (o1 23
  (.indexAddr none 2 (t1 21) (t1 22))), (o1 24 (.fieldAddr 1 (t1 23))), (o1 25 (.load false 1 (t1 24))), (o1 26 (.call false 12 [(t1 13), (t1 19), (t1 25)]))]) (.cond (t1 26) (.seq (.region false [(o1
  4 (.move (.const (.v (.bool true)))))]) .ret) .skip))) (.region false [(o1 11 (.move (t1 5))), (o1 12 (.arith .add (t1 11) (.const (.v (.int .i64 1))))), (o1 5 (.move (t1 12)))])))
def b_r_closed : ACode := (.seq (.region false [(o1 2 (.box 3 (t1 0))), (o1 4 (.move (.const (.v (.bool false)))))]) (.seq (.seq (.region false [(o1 5 (.move (.const (.v (.int .i64 0)))))]) (.block 0
  (.loop b_r_closed_l0))) b_r_closed_r0))
abbrev k_r_closed_0 : List K := [.blk 0, .c b_r_closed_r0]
abbrev f_r_closed := finF [(.tmp 4)] false
def c_r_closed : AFn := .code 2 27 b_r_closed [(.tmp 4)] false
-- 31
def b_r_taken_r0 : ACode := (.seq (.region false [(o1 8 (.move (.const (.v (.bool false)))))]) .ret)
def b_r_taken_l0 : ACode := (.seq (.seq (.region false [(o1 10 (.move (t1 9))), (o1 11 (.move (t1 1))), (o1 12 (.len false (t1 11))), (o1 13 (.arith .lss (t1 10) (t1 12)))]) (.cond (t1 13) .skip
  (.exit 0))) (.seq (.block 1 (.seq (.region true [(o1 16 (.move (t1 1))), (o1 17 (.move (t1 9))), (o1 18 (.indexAddr none 3 (t1 16) (t1 17))), (o1 19 (.fieldAddr 2 (t1 18))), (o1 20 (.load false 1
  (t1 19))), (o1 21 (.move (t1 2))), (o1 22 (.call false 16 [(t1 20), (t1 21)])), (o1 23 (.move (t1 22))), ⟨(some 24), (some (23, true)), (.move (t1 3))⟩, ⟨(some 25), (some (23, true)), (.move (t1
  1))⟩, ⟨(some 26), (some (23, true)), (.move (t1 9))⟩, ⟨(some 27), (some (23, true)), (.indexAddr none 3 (t1 25) (t1 26))⟩, ⟨(some 28), (some (23, true)), (.fieldAddr 1 (t1 27))⟩, ⟨(some 29), (some
  (23, true)), (.load false 1 (t1 28))⟩, ⟨(some 30), (some (23, true)), (.move (t1 1))⟩, ⟨(some 31), (some (23, true)), (.move (t1 9))⟩, ⟨(some 32), (some (23, true)), (.indexAddr none 3 (t1 30) (t1
  31))⟩, ⟨(some 33), (some (23, true)), (.fieldAddr 1 (t1 32))⟩, ⟨(some 34), (some (23, true)), (.load false 1 (t1 33))⟩, ⟨(some 35), (some (23, true)), (.fieldAddr 2 (t1 4))⟩, ⟨(some 36), (some (23,
  true)), (.load false 1 (t1 35))⟩, ⟨(some 37), (some (23, true)), (.move (t1 1))⟩, ⟨(some 38), (some (23, true)), (.move (t1 9))⟩, ⟨(some 39), (some (23, true)), (.indexAddr none 3 (t1 37) (t1 38))⟩,
  ⟨(some 40), (some (23, true)), (.fieldAddr 0 (t1 39))⟩, ⟨(some 41), (some (23, true)), (.load false 1 (t1 40))⟩, ⟨(some 42), (some (23, true)), (.indexAddr none 7 (t1 36) (t1 41))⟩, ⟨(some 43),
  (some (23, true)), (.fieldAddr 3 (t1 42))⟩, ⟨(some 44), (some (23, true)), (.load false 1 (t1 43))⟩, ⟨(some 45), (some (23, true)), (.arith .add (t1 34) (t1 44))⟩, ⟨(some 46), (some (23, true)),
  (.arith .sub (t1 45) (.const (.v (.int .i64 1))))⟩, ⟨(some 47), (some (23, true)), (.call false 12 [(t1 24), (t1 29), (t1 46)])⟩, (o1 48 (.pick (t1 23) (t1 47) (.const (.v (.bool false)))))]) (.cond
  (t1 48) (.seq (.region false [(o1 8 (.move (.const (.v (.bool true)))))]) .ret) .skip))) (.region false [(o1 14 (.move (t1 9))), (o1 15 (.arith .add (t1 14) (.const (.v (.int .i64 1))))), (o1 9
  (.move (t1 15)))])))
def b_r_taken : ACode := (.seq (.region false [(o1 4 (.box 3 (t1 0))), (o1 8 (.move (.const (.v (.bool false)))))]) (.seq (.seq (.region false [(o1 9 (.move (.const (.v (.int .i64 0)))))]) (.block 0
  (.loop b_r_taken_l0))) b_r_taken_r0))
abbrev k_r_taken_0 : List K := [.blk 0, .c b_r_taken_r0]
abbrev f_r_taken := finF [(.tmp 8)] false
def c_r_taken : AFn := .code 4 49 b_r_taken [(.tmp 8)] false
-- 32
def b_b_Lowest : ACode := (.seq (.region false [(o1 4 (.alloc [(.v (.int .i64 0)), (.v (.int .i64 0))]))]) (.seq (.region false [(o1 6 (.move (t1 0))), (o1 7 (.move (t1 1))), (o1 8 (.call false 45
  [(t1 6), (t1 7)])), (o1 5 (.move (t1 8)))]) (.seq (.seq (.region false [(o1 9 (.move (t1 1))), (o1 10 (.arith .lss (t1 9) (.const (.v (.int .i64 0)))))]) (.cond (t1 10) (.region false [(o1 11 (.move
  (t1 5))), (o1 12 (.un .neg (t1 11))), (o1 5 (.move (t1 12)))]) .skip)) (.seq (.region true [(o1 13 (.move (t1 0))), (o1 14 (.move (t1 5))), (o1 15 (.arith .quo (t1 13) (t1 14))), (o1 16 (.move (t1
  1))), (o1 17 (.move (t1 5))), (o1 18 (.arith .quo (t1 16) (t1 17))), (o1 19 (.build [(.v (.int .i64 0)), (.v (.int .i64 0))] [(0, (1, (t1 15))), (1, (1, (t1 18)))])), ⟨none, none, (.store 2 (t1 4)
  (t1 19))⟩]) .ret))))
abbrev f_b_Lowest := finF [(.cell true 2 4)] false
def c_b_Lowest : AFn := .code 2 20 b_b_Lowest [(.cell true 2 4)] false
-- 33
def b_s_openSmall : ACode := (.seq (.region false [(o1 1 (.box 3 (t1 0))), (o1 2 (.move (.const (.v (.pointer none))))), (o1 3 (.move (.const (.v (.int .i64 0)))))]) (.seq (.region false [(o1 9 (.load
  true 3 (t1 1))), (o1 10 (.call false 46 [(t1 9)])), (o1 8 (.move (t1 10))), (o1 11 (.extract 0 (t1 8))), (o1 12 (.extract 1 (t1 8))), (o1 4 (.move (t1 11))), (o1 5 (.move (t1 12)))]) (.seq (.seq
  (.region false [(o1 13 (.move (t1 5))), (o1 14 (.arith .neq (t1 13) (.const (.v (.int .i64 0)))))]) (.cond (t1 14) (.seq (.region false [(o1 15 (.move (t1 5))), (o1 2 (.move (.const (.v (.pointer
  none))))), (o1 3 (.move (t1 15)))]) .ret) .skip)) (.seq (.region false [(o1 6 (.move (.const (.fn 47 [] []))))]) (.seq (.region false [(o1 16 (.fieldAddr 2 (t1 1))), (o1 17 (.load false 1 (t1 16))),
  (o1 18 (.len false (t1 17))), (o1 19 (.arith .leq (t1 18) (.const (.v (.int .i64 6))))), (o1 20 (.move (t1 19))), ⟨(some 21), (some (20, true)), (.fieldAddr 2 (t1 1))⟩, ⟨(some 22), (some (20,
  true)), (.load false 1 (t1 21))⟩, ⟨(some 23), (some (20, true)), (.move (t1 6))⟩, ⟨(some 24), (some (20, true)), (.call false 48 [(t1 22), (t1 23)])⟩, ⟨(some 25), (some (20, true)), (.un .not (t1
  24))⟩, (o1 26 (.pick (t1 20) (t1 25) (.const (.v (.bool false))))), (o1 7 (.move (t1 26)))]) (.seq (.region false [(o1 27 (.move (t1 4))), (o1 28 (.move (t1 7))), (o1 29 (.call false 49 [(t1 28),
  (.const (.v (.int .i64 8)))])), (o1 2 (.move (t1 27))), (o1 3 (.move (t1 29)))]) .ret))))))
abbrev f_s_openSmall := finF [(.tmp 2), (.tmp 3)] false
def c_s_openSmall : AFn := .code 1 30 b_s_openSmall [(.tmp 2), (.tmp 3)] false
-- 34
def b_w_free_r0 : ACode := (.seq (.region false [(o1 26 (.load true 2 (t1 3))), ⟨none, none, (.store 2 (t1 2) (t1 26))⟩]) .ret)
def b_w_free_l0 : ACode := (.seq (.region false [(o1 14 (.arith .lss (t1 13) (t1 12)))]) (.seq (.cond (t1 14) .skip (.exit 0)) (.seq (.block 1 (.seq (.region false [(o1 15 (.move (t1 13))), (o1 4
  (.move (t1 15)))]) (.region true [(o1 16 (.fieldAddr 1 (t1 3))), (o1 17 (.load false 1 (t1 16))), (o1 18 (.move (t1 0))), (o1 19 (.move (t1 4))), (o1 20 (.call true 50 [(t1 18), (.const (.slice
  .nilS 0 [])), (t1 19)])), (o1 21 (.build [(.slice .nilS 0 []), (.v (.bool false))] [(0, (1, (t1 20))), (1, (1, (.const (.v (.bool true)))))])), (o1 22 (.buildSlice 2 [[(.slice .nilS 0 []), (.v
  (.bool false))]] [(0, (t1 21))])), (o1 23 (.append 2 (t1 17) (t1 22))), (o1 24 (.fieldAddr 1 (t1 3))), ⟨none, none, (.store 1 (t1 24) (t1 23))⟩]))) (.region false [(o1 25 (.arith .add (t1 13)
  (.const (.v (.int .i64 1))))), (o1 13 (.move (t1 25)))]))))
def b_w_free : ACode := (.seq (.region false [(o1 2 (.alloc [(.v (.pointer none)), (.slice .nilS 0 [])]))]) (.seq (.region false [(o1 5 (.move (t1 0))), (o1 6 (.build [(.v (.pointer none)), (.slice
  .nilS 0 [])] [(0, (1, (t1 5)))])), (o1 3 (.alloc [(.v (.pointer none)), (.slice .nilS 0 [])])), ⟨none, none, (.store 2 (t1 3) (t1 6))⟩]) (.seq (.seq (.region false [(o1 7 (.move (t1 0))), (o1 8
  (.nilCheck (t1 7))), (o1 9 (.fieldAddr 0 (t1 8))), (o1 10 (.fieldAddr 2 (t1 9))), (o1 11 (.load false 1 (t1 10))), (o1 12 (.len false (t1 11))), (o1 13 (.move (.const (.v (.int .i64 0)))))]) (.block
  0 (.loop b_w_free_l0))) b_w_free_r0)))
abbrev k_w_free_0 : List K := [.blk 0, .c b_w_free_r0]
abbrev f_w_free := finF [(.cell true 2 2)] false
def c_w_free : AFn := .code 1 27 b_w_free [(.cell true 2 2)] false
-- 35
def b_c_best_r0 : ACode := (.seq (.seq (.region false [(o1 61 (.move (t1 5))), (o1 62 (.move (t1 10))), (o1 63 (.call false 41 [(t1 61), (t1 62)]))]) (.cond (t1 63) (.seq (.region false [(o1 64 (.move
  (t1 9))), (o1 65 (.move (t1 6))), (o1 2 (.move (t1 64))), (o1 3 (.move (t1 65))), (o1 4 (.move (.const (.v (.bool true)))))]) .ret) .skip)) (.seq (.region false [(o1 67 (.load true 2 (t1 1))), (o1
  68 (.move (t1 9))), (o1 69 (.move (t1 10))), (o1 70 (.move (t1 5))), (o1 71 (.call false 54 [(t1 67), (t1 68), (t1 69), (t1 70)])), (o1 66 (.move (t1 71))), (o1 72 (.extract 0 (t1 66))), (o1 73
  (.extract 1 (t1 66))), (o1 13 (.alloc [(.v (.int .i64 0)), (.v (.int .i64 0)), (.slice .nilS 0 [])])), ⟨none, none, (.store 3 (t1 13) (t1 72))⟩, (o1 14 (.move (t1 73)))]) (.seq (.seq (.region false
  [(o1 74 (.move (t1 14))), (o1 75 (.un .not (t1 74)))]) (.cond (t1 75) (.seq (.region false [(o1 76 (.move (t1 9))), (o1 77 (.move (t1 6))), (o1 2 (.move (t1 76))), (o1 3 (.move (t1 77))), (o1 4
  (.move (.const (.v (.bool true)))))]) .ret) .skip)) (.region false [(o1 78 (.move (t1 9))), (o1 79 (.load true 3 (t1 13))), (o1 80 (.buildSlice 3 [[(.v (.int .i64 0)), (.v (.int .i64 0)), (.slice
  .nilS 0 [])]] [(0, (t1 79))])), (o1 81 (.append 3 (t1 78) (t1 80))), (o1 9 (.move (t1 81)))]))))
def b_c_best_l1 : ACode := (.seq (.region false [(o1 52 (.arith .lss (t1 51) (t1 50)))]) (.seq (.cond (t1 52) .skip (.exit 4)) (.seq (.block 5 (.seq (.region false [(o1 53 (.indexAddr none 3 (t1 49)
  (t1 51))), (o1 54 (.load true 3 (t1 53))), (o1 12 (.alloc [(.v (.int .i64 0)), (.v (.int .i64 0)), (.slice .nilS 0 [])])), ⟨none, none, (.store 3 (t1 12) (t1 54))⟩]) (.region false [(o1 55 (.move
  (t1 10))), (o1 56 (.fieldAddr 0 (t1 12))), (o1 57 (.load false 1 (t1 56))), (o1 58 (.arith .shl (.const (.v (.int .i64 1))) (t1 57))), (o1 59 (.arith .or (t1 55) (t1 58))), (o1 10 (.move (t1
  59)))]))) (.region false [(o1 60 (.arith .add (t1 51) (.const (.v (.int .i64 1))))), (o1 51 (.move (t1 60)))]))))
def b_c_best_l0 : ACode := (.block 3 (.seq (.region false [(o1 10 (.move (.const (.v (.int .i64 0)))))]) (.seq (.seq (.region false [(o1 49 (.move (t1 9))), (o1 50 (.len false (t1 49))), (o1 51 (.move
  (.const (.v (.int .i64 0)))))]) (.block 4 (.loop b_c_best_l1))) b_c_best_r0)))
def b_c_best_r1 : ACode := (.seq (.seq (.region false [(o1 47 (.move (t1 6))), (o1 48 (.arith .lss (t1 47) (.const (.v (.int .i64 0)))))]) (.cond (t1 48) (.seq (.region false [(o1 2 (.move (.const
  (.slice .nilS 0 [])))), (o1 3 (.move (.const (.v (.int .i64 0))))), (o1 4 (.move (.const (.v (.bool false)))))]) .ret) .skip)) (.seq (.region false [(o1 9 (.move (.const (.slice .nilS 0 []))))])
  (.block 2 (.loop b_c_best_l0))))
def b_c_best_l2 : ACode := (.seq (.region false [(o1 20 (.arith .lss (t1 19) (t1 18)))]) (.seq (.cond (t1 20) .skip (.exit 0)) (.seq (.block 1 (.seq (.region false [(o1 21 (.move (t1 19))), (o1 7
  (.move (t1 21)))]) (.seq (.region false [(o1 22 (.load true 2 (t1 1))), (o1 23 (.move (t1 7))), (o1 24 (.call false 51 [(t1 22), (t1 23)])), (o1 8 (.move (t1 24)))]) (.seq (.region false [(o1 25
  (.move (t1 8))), (o1 26 (.move (t1 6))), (o1 27 (.arith .geq (t1 25) (t1 26))), (o1 28 (.move (t1 27))), ⟨(some 29), (some (28, true)), (.load true 2 (t1 1))⟩, ⟨(some 30), (some (28, true)), (.move
  (t1 7))⟩, ⟨(some 31), (some (28, true)), (.call false 52 [(t1 29), (t1 30)])⟩, (o1 32 (.pick (t1 28) (t1 31) (.const (.v (.bool false))))), (o1 33 (.move (t1 32))), ⟨(some 34), (some (33, true)),
  (.load true 2 (t1 1))⟩, ⟨(some 35), (some (33, true)), (.move (t1 7))⟩, ⟨(some 36), (some (33, true)), (.call false 53 [(t1 34), (.const (.slice .nilS 0 [])), (t1 35)])⟩, (o1 37 (.pick (t1 33) (t1
  36) (.const (.v (.bool false)))))]) (.cond (t1 37) (.seq (.seq (.region false [(o1 38 (.move (t1 8))), (o1 39 (.move (t1 6))), (o1 40 (.arith .gtr (t1 38) (t1 39)))]) (.cond (t1 40) (.region false
  [(o1 41 (.move (t1 8))), (o1 5 (.move (.const (.slice .nilS 0 [])))), (o1 6 (.move (t1 41)))]) .skip)) (.region false [(o1 42 (.move (t1 5))), (o1 43 (.move (t1 7))), (o1 44 (.buildSlice 1 [[(.v
  (.int .i64 0))]] [(0, (t1 43))])), (o1 45 (.append 1 (t1 42) (t1 44))), (o1 5 (.move (t1 45)))])) .skip))))) (.region false [(o1 46 (.arith .add (t1 19) (.const (.v (.int .i64 1))))), (o1 19 (.move
  (t1 46)))]))))
def b_c_best : ACode := (.seq (.region false [(o1 1 (.box 2 (t1 0))), (o1 2 (.move (.const (.slice .nilS 0 [])))), (o1 3 (.move (.const (.v (.int .i64 0))))), (o1 4 (.move (.const (.v (.bool
  false)))))]) (.seq (.region false [(o1 5 (.move (.const (.slice .nilS 0 []))))]) (.seq (.region false [(o1 6 (.move (.const (.v (.int .i64 (-1))))))]) (.seq (.seq (.region false [(o1 15 (.fieldAddr
  1 (t1 1))), (o1 16 (.load false 1 (t1 15))), (o1 17 (.len false (t1 16))), (o1 18 (.arith .shl (.const (.v (.int .i64 1))) (t1 17))), (o1 19 (.move (.const (.v (.int .i64 0)))))]) (.block 0 (.loop
  b_c_best_l2))) b_c_best_r1))))
abbrev k_c_best_1 : List K := [.blk 4, .c b_c_best_r0, .blk 3, .lp b_c_best_l0, .blk 2]
abbrev k_c_best_0 : List K := [.blk 2]
abbrev k_c_best_2 : List K := [.blk 0, .c b_c_best_r1]
abbrev f_c_best := finF [(.tmp 2), (.tmp 3), (.tmp 4)] false
def c_c_best : AFn := .code 1 82 b_c_best [(.tmp 2), (.tmp 3), (.tmp 4)] false
-- 36
def b_s_openPlan : ACode := (.seq (.region false [(o1 2 (.box 3 (t1 0))), (o1 4 (.move (.const (.v (.pointer none))))), (o1 5 (.move (.const (.v (.int .i64 0))))), (o1 6 (.move (.const (.v (.int .i64
  0)))))]) (.seq (.region false [(o1 11 (.load true 3 (t1 2))), (o1 12 (.call false 46 [(t1 11)])), (o1 10 (.move (t1 12))), (o1 13 (.extract 0 (t1 10))), (o1 14 (.extract 1 (t1 10))), (o1 7 (.move
  (t1 13))), (o1 8 (.move (t1 14)))]) (.seq (.seq (.region false [(o1 15 (.move (t1 8))), (o1 16 (.arith .neq (t1 15) (.const (.v (.int .i64 0)))))]) (.cond (t1 16) (.seq (.region false [(o1 17 (.move
  (t1 8))), (o1 4 (.move (.const (.v (.pointer none))))), (o1 5 (.move (.const (.v (.int .i64 0))))), (o1 6 (.move (t1 17)))]) .ret) .skip)) (.seq (.region false [(o1 19 (.move (t1 7))), (o1 20 (.move
  (t1 1))), (o1 21 (.call false 55 [(t1 19), (t1 20)])), (o1 18 (.move (t1 21))), (o1 22 (.extract 0 (t1 18))), (o1 23 (.extract 1 (t1 18))), (o1 9 (.move (t1 22))), (o1 8 (.move (t1 23)))]) (.seq
  (.region false [(o1 24 (.move (t1 7))), (o1 25 (.move (t1 9))), (o1 26 (.move (t1 8))), (o1 4 (.move (t1 24))), (o1 5 (.move (t1 25))), (o1 6 (.move (t1 26)))]) .ret)))))
abbrev f_s_openPlan := finF [(.tmp 4), (.tmp 5), (.tmp 6)] false
def c_s_openPlan : AFn := .code 2 27 b_s_openPlan [(.tmp 4), (.tmp 5), (.tmp 6)] false
-- 37
def b_s_passOf : ACode := (.seq (.region false [(o1 3 (.box 1 (t1 1))), (o1 4 (.alloc [(.v (.int .i64 0)), (.v (.int .i64 0)), (.slice .nilS 0 [])])), (o1 5 (.move (.const (.v (.bool false)))))])
  (.seq (.region false [(o1 7 (.move (t1 0))), (o1 8 (.mkFn 57 [] [(t1 3)])), (o1 9 (.call false 56 [(t1 7), (t1 8)])), (o1 6 (.move (t1 9)))]) (.seq (.seq (.region false [(o1 10 (.move (t1 6))), (o1
  11 (.arith .lss (t1 10) (.const (.v (.int .i64 0)))))]) (.cond (t1 11) (.seq (.region false [(o1 12 (.build [(.v (.int .i64 0)), (.v (.int .i64 0)), (.slice .nilS 0 [])] [])), ⟨none, none, (.store 3
  (t1 4) (t1 12))⟩, (o1 5 (.move (.const (.v (.bool false)))))]) .ret) .skip)) (.seq (.region false [(o1 13 (.move (t1 0))), (o1 14 (.move (t1 6))), (o1 15 (.indexAddr none 3 (t1 13) (t1 14))), (o1 16
  (.load true 3 (t1 15))), ⟨none, none, (.store 3 (t1 4) (t1 16))⟩, (o1 5 (.move (.const (.v (.bool true)))))]) .ret))))
abbrev f_s_passOf := finF [(.cell true 3 4), (.tmp 5)] false
def c_s_passOf : AFn := .code 2 17 b_s_passOf [(.cell true 3 4), (.tmp 5)] false
-- 40
def b_w_antennaErr : ACode := (.seq (.region false [(o1 4 (.move (.const (.v (.int .i64 0)))))]) (.seq (.region false [(o1 5 (.move (t1 1))), (o1 6 (.move (t1 0))), (o1 7 (.nilCheck (t1 6))), (o1 8
  (.fieldAddr 0 (t1 7))), (o1 9 (.fieldAddr 1 (t1 8))), (o1 10 (.load false 1 (t1 9))), (o1 11 (.len false (t1 10))), (o1 12 (.arith .sub (t1 11) (.const (.v (.int .i64 1))))), (o1 13 (.call false 62
  [(t1 5), (.const (.v (.int .i64 0))), (t1 12)])), (o1 14 (.call false 49 [(t1 13), (.const (.v (.int .i64 6)))])), (o1 4 (.move (t1 14)))]) .ret))
abbrev f_w_antennaErr := finF [(.tmp 4)] false
def c_w_antennaErr : AFn := .code 2 15 b_w_antennaErr [(.tmp 4)] false
-- 41
def b_z_Contains_int : ACode := (.seq (.region false [(o1 4 (.move (.const (.v (.bool false)))))]) (.seq (.region false [(o1 5 (.move (t1 0))), (o1 6 (.move (t1 1))), (o1 7 (.call false 63 [(t1 5),
  (t1 6)])), (o1 8 (.arith .geq (t1 7) (.const (.v (.int .i64 0))))), (o1 4 (.move (t1 8)))]) .ret))
abbrev f_z_Contains_int := finF [(.tmp 4)] false
def c_z_Contains_int : AFn := .code 2 9 b_z_Contains_int [(.tmp 4)] false
-- 42
def b_w_end : ACode := (.seq (.region false [(o1 3 (.box 3 (t1 1))), (o1 4 (.move (.const (.v (.int .i64 0)))))]) (.seq (.region true [(o1 5 (.fieldAddr 1 (t1 3))), (o1 6 (.load false 1 (t1 5))), (o1
  7 (.move (t1 0))), (o1 8 (.nilCheck (t1 7))), (o1 9 (.fieldAddr 0 (t1 8))), (o1 10 (.fieldAddr 2 (t1 9))), (o1 11 (.load false 1 (t1 10))), (o1 12 (.fieldAddr 0 (t1 3))), (o1 13 (.load false 1 (t1
  12))), (o1 14 (.indexAddr none 7 (t1 11) (t1 13))), (o1 15 (.fieldAddr 3 (t1 14))), (o1 16 (.load false 1 (t1 15))), (o1 17 (.arith .add (t1 6) (t1 16))), (o1 4 (.move (t1 17)))]) .ret))
abbrev f_w_end := finF [(.tmp 4)] false
def c_w_end : AFn := .code 2 18 b_w_end [(.tmp 4)] false
-- 43
def b_r_CheckWeek_r0 : ACode := (.seq (.region false [(o1 58 (.build [(.v (.int .i64 0)), (.v (.int .i64 0))] [])), ⟨none, none, (.store 2 (t1 2) (t1 58))⟩, (o1 3 (.move (.const (.v (.int .i64
  0)))))]) .ret)
def b_r_CheckWeek_l0 : ACode := (.seq (.seq (.region false [(o1 39 (.move (t1 6))), (o1 40 (.fieldAddr 2 (t1 1))), (o1 41 (.load false 1 (t1 40))), (o1 42 (.len false (t1 41))), (o1 43 (.arith .lss
  (t1 39) (t1 42)))]) (.cond (t1 43) .skip (.exit 2))) (.seq (.block 3 (.seq (.region true [(o1 46 (.load true 3 (t1 1))), (o1 47 (.fieldAddr 2 (t1 1))), (o1 48 (.load false 1 (t1 47))), (o1 49 (.move
  (t1 6))), (o1 50 (.indexAddr none 7 (t1 48) (t1 49))), (o1 51 (.load true 7 (t1 50))), (o1 52 (.call false 65 [(t1 46), (t1 51)])), (o1 7 (.move (t1 52)))]) (.seq (.region false [(o1 53 (.move (t1
  7))), (o1 54 (.arith .neq (t1 53) (.const (.v (.int .i64 0)))))]) (.cond (t1 54) (.seq (.region false [(o1 55 (.move (t1 6))), (o1 56 (.build [(.v (.int .i64 0)), (.v (.int .i64 0))] [(0, (1,
  (.const (.v (.int .i64 2))))), (1, (1, (t1 55)))])), (o1 57 (.move (t1 7))), ⟨none, none, (.store 2 (t1 2) (t1 56))⟩, (o1 3 (.move (t1 57)))]) .ret) .skip)))) (.region false [(o1 44 (.move (t1 6))),
  (o1 45 (.arith .add (t1 44) (.const (.v (.int .i64 1))))), (o1 6 (.move (t1 45)))])))
def b_r_CheckWeek_r1 : ACode := (.seq (.seq (.region false [(o1 6 (.move (.const (.v (.int .i64 0)))))]) (.block 2 (.loop b_r_CheckWeek_l0))) b_r_CheckWeek_r0)
def b_r_CheckWeek_l1 : ACode := (.seq (.seq (.region false [(o1 24 (.move (t1 4))), (o1 25 (.fieldAddr 1 (t1 1))), (o1 26 (.load false 1 (t1 25))), (o1 27 (.len false (t1 26))), (o1 28 (.arith .lss
  (t1 24) (t1 27)))]) (.cond (t1 28) .skip (.exit 0))) (.seq (.block 1 (.seq (.region false [(o1 31 (.load true 3 (t1 1))), (o1 32 (.move (t1 4))), (o1 33 (.call false 64 [(t1 31), (t1 32)])), (o1 5
  (.move (t1 33)))]) (.seq (.region false [(o1 34 (.move (t1 5))), (o1 35 (.arith .neq (t1 34) (.const (.v (.int .i64 0)))))]) (.cond (t1 35) (.seq (.region false [(o1 36 (.move (t1 4))), (o1 37
  (.build [(.v (.int .i64 0)), (.v (.int .i64 0))] [(0, (1, (.const (.v (.int .i64 1))))), (1, (1, (t1 36)))])), (o1 38 (.move (t1 5))), ⟨none, none, (.store 2 (t1 2) (t1 37))⟩, (o1 3 (.move (t1
  38)))]) .ret) .skip)))) (.region false [(o1 29 (.move (t1 4))), (o1 30 (.arith .add (t1 29) (.const (.v (.int .i64 1))))), (o1 4 (.move (t1 30)))])))
def b_r_CheckWeek : ACode := (.seq (.region false [(o1 1 (.box 3 (t1 0))), (o1 2 (.alloc [(.v (.int .i64 0)), (.v (.int .i64 0))])), (o1 3 (.move (.const (.v (.int .i64 0)))))]) (.seq (.seq (.region
  false [(o1 8 (.fieldAddr 0 (t1 1))), (o1 9 (.load false 1 (t1 8))), (o1 10 (.call false 12 [(t1 9), (.const (.v (.int .i64 1))), (.const (.v (.int .i64 200)))])), (o1 11 (.un .not (t1 10)))]) (.cond
  (t1 11) (.seq (.region false [(o1 12 (.build [(.v (.int .i64 0)), (.v (.int .i64 0))] [])), ⟨none, none, (.store 2 (t1 2) (t1 12))⟩, (o1 3 (.move (.const (.v (.int .i64 2)))))]) .ret) .skip)) (.seq
  (.seq (.region false [(o1 13 (.fieldAddr 1 (t1 1))), (o1 14 (.load false 1 (t1 13))), (o1 15 (.len false (t1 14))), (o1 16 (.arith .gtr (t1 15) (.const (.v (.int .i64 4))))), (o1 17 (.move (t1
  16))), ⟨(some 18), (some (17, false)), (.fieldAddr 2 (t1 1))⟩, ⟨(some 19), (some (17, false)), (.load false 1 (t1 18))⟩, ⟨(some 20), (some (17, false)), (.len false (t1 19))⟩, ⟨(some 21), (some (17,
  false)), (.arith .gtr (t1 20) (.const (.v (.int .i64 12))))⟩, (o1 22 (.pick (t1 17) (.const (.v (.bool true))) (t1 21)))]) (.cond (t1 22) (.seq (.region false [(o1 23 (.build [(.v (.int .i64 0)),
  (.v (.int .i64 0))] [])), ⟨none, none, (.store 2 (t1 2) (t1 23))⟩, (o1 3 (.move (.const (.v (.int .i64 8)))))]) .ret) .skip)) (.seq (.seq (.region false [(o1 4 (.move (.const (.v (.int .i64 0)))))])
  (.block 0 (.loop b_r_CheckWeek_l1))) b_r_CheckWeek_r1))))
abbrev k_r_CheckWeek_0 : List K := [.blk 2, .c b_r_CheckWeek_r0]
abbrev k_r_CheckWeek_1 : List K := [.blk 0, .c b_r_CheckWeek_r1]
abbrev f_r_CheckWeek := finF [(.cell true 2 2), (.tmp 3)] false
def c_r_CheckWeek : AFn := .code 1 59 b_r_CheckWeek [(.cell true 2 2), (.tmp 3)] false
-- 44
def b_r_passErr_r0 : ACode := (.seq (.region false [(o1 6 (.move (.const (.v (.int .i64 0)))))]) .ret)
def b_r_passErr_l0 : ACode := (.seq (.seq (.region false [(o1 97 (.move (t1 10))), (o1 98 (.move (t1 2))), (o1 99 (.arith .lss (t1 97) (t1 98)))]) (.cond (t1 99) .skip (.exit 2))) (.seq (.block 3
  (.seq (.region true [(o1 102 (.load true 3 (t1 3))), (o1 103 (.load true 3 (t1 7))), (o1 104 (.move (t1 1))), (o1 105 (.move (t1 10))), (o1 106 (.indexAddr none 3 (t1 104) (t1 105))), (o1 107 (.load
  true 3 (t1 106))), (o1 108 (.call false 67 [(t1 102), (t1 103), (t1 107)]))]) (.cond (t1 108) (.seq (.region false [(o1 6 (.move (.const (.v (.int .i64 13)))))]) .ret) .skip))) (.region false [(o1
  100 (.move (t1 10))), (o1 101 (.arith .add (t1 100) (.const (.v (.int .i64 1))))), (o1 10 (.move (t1 101)))])))
def b_r_passErr_r1 : ACode := (.seq (.seq (.region false [(o1 94 (.load true 3 (t1 3))), (o1 95 (.load true 3 (t1 7))), (o1 96 (.call false 66 [(t1 94), (t1 95)]))]) (.cond (t1 96) (.seq (.region
  false [(o1 6 (.move (.const (.v (.int .i64 21)))))]) .ret) .skip)) (.seq (.seq (.region false [(o1 10 (.move (.const (.v (.int .i64 0)))))]) (.block 2 (.loop b_r_passErr_l0))) b_r_passErr_r0))
def b_r_passErr_l1 : ACode := (.seq (.seq (.region false [(o1 62 (.move (t1 9))), (o1 63 (.fieldAddr 2 (t1 7))), (o1 64 (.load false 1 (t1 63))), (o1 65 (.len false (t1 64))), (o1 66 (.arith .lss (t1
  62) (t1 65)))]) (.cond (t1 66) .skip (.exit 0))) (.seq (.block 1 (.seq (.seq (.region true [(o1 69 (.fieldAddr 5 (t1 8))), (o1 70 (.load false 1 (t1 69))), (o1 71 (.fieldAddr 2 (t1 7))), (o1 72
  (.load false 1 (t1 71))), (o1 73 (.move (t1 9))), (o1 74 (.indexAddr none 1 (t1 72) (t1 73))), (o1 75 (.load false 1 (t1 74))), (o1 76 (.call false 16 [(t1 70), (t1 75)])), (o1 77 (.un .not (t1
  76)))]) (.cond (t1 77) (.seq (.region false [(o1 6 (.move (.const (.v (.int .i64 6)))))]) .ret) .skip)) (.seq (.region true [(o1 78 (.move (t1 9))), (o1 79 (.arith .gtr (t1 78) (.const (.v (.int
  .i64 0))))), (o1 80 (.move (t1 79))), ⟨(some 81), (some (80, true)), (.fieldAddr 2 (t1 7))⟩, ⟨(some 82), (some (80, true)), (.load false 1 (t1 81))⟩, ⟨(some 83), (some (80, true)), (.move (t1 9))⟩,
  ⟨(some 84), (some (80, true)), (.indexAddr none 1 (t1 82) (t1 83))⟩, ⟨(some 85), (some (80, true)), (.load false 1 (t1 84))⟩, ⟨(some 86), (some (80, true)), (.fieldAddr 2 (t1 7))⟩, ⟨(some 87), (some
  (80, true)), (.load false 1 (t1 86))⟩, ⟨(some 88), (some (80, true)), (.move (t1 9))⟩, ⟨(some 89), (some (80, true)), (.arith .sub (t1 88) (.const (.v (.int .i64 1))))⟩, ⟨(some 90), (some (80,
  true)), (.indexAddr none 1 (t1 87) (t1 89))⟩, ⟨(some 91), (some (80, true)), (.load false 1 (t1 90))⟩, ⟨(some 92), (some (80, true)), (.arith .leq (t1 85) (t1 91))⟩, (o1 93 (.pick (t1 80) (t1 92)
  (.const (.v (.bool false)))))]) (.cond (t1 93) (.seq (.region false [(o1 6 (.move (.const (.v (.int .i64 9)))))]) .ret) .skip)))) (.region false [(o1 67 (.move (t1 9))), (o1 68 (.arith .add (t1 67)
  (.const (.v (.int .i64 1))))), (o1 9 (.move (t1 68)))])))
def b_r_passErr : ACode := (.seq (.region false [(o1 3 (.box 3 (t1 0))), (o1 6 (.move (.const (.v (.int .i64 0)))))]) (.seq (.region false [(o1 11 (.move (t1 1))), (o1 12 (.move (t1 2))), (o1 13
  (.indexAddr none 3 (t1 11) (t1 12))), (o1 14 (.load true 3 (t1 13))), (o1 7 (.alloc [(.v (.int .i64 0)), (.v (.int .i64 0)), (.slice .nilS 0 [])])), ⟨none, none, (.store 3 (t1 7) (t1 14))⟩]) (.seq
  (.seq (.region false [(o1 15 (.fieldAddr 0 (t1 7))), (o1 16 (.load false 1 (t1 15))), (o1 17 (.fieldAddr 2 (t1 3))), (o1 18 (.load false 1 (t1 17))), (o1 19 (.len false (t1 18))), (o1 20 (.arith
  .sub (t1 19) (.const (.v (.int .i64 1))))), (o1 21 (.call false 12 [(t1 16), (.const (.v (.int .i64 0))), (t1 20)])), (o1 22 (.un .not (t1 21)))]) (.cond (t1 22) (.seq (.region false [(o1 6 (.move
  (.const (.v (.int .i64 6)))))]) .ret) .skip)) (.seq (.seq (.region true [(o1 23 (.move (t1 2))), (o1 24 (.arith .gtr (t1 23) (.const (.v (.int .i64 0))))), (o1 25 (.move (t1 24))), ⟨(some 26), (some
  (25, true)), (.fieldAddr 0 (t1 7))⟩, ⟨(some 27), (some (25, true)), (.load false 1 (t1 26))⟩, ⟨(some 28), (some (25, true)), (.move (t1 1))⟩, ⟨(some 29), (some (25, true)), (.move (t1 2))⟩, ⟨(some
  30), (some (25, true)), (.arith .sub (t1 29) (.const (.v (.int .i64 1))))⟩, ⟨(some 31), (some (25, true)), (.indexAddr none 3 (t1 28) (t1 30))⟩, ⟨(some 32), (some (25, true)), (.fieldAddr 0 (t1
  31))⟩, ⟨(some 33), (some (25, true)), (.load false 1 (t1 32))⟩, ⟨(some 34), (some (25, true)), (.arith .leq (t1 27) (t1 33))⟩, (o1 35 (.pick (t1 25) (t1 34) (.const (.v (.bool false)))))]) (.cond
  (t1 35) (.seq (.region false [(o1 6 (.move (.const (.v (.int .i64 9)))))]) .ret) .skip)) (.seq (.region false [(o1 36 (.fieldAddr 2 (t1 3))), (o1 37 (.load false 1 (t1 36))), (o1 38 (.fieldAddr 0
  (t1 7))), (o1 39 (.load false 1 (t1 38))), (o1 40 (.indexAddr none 7 (t1 37) (t1 39))), (o1 41 (.load true 7 (t1 40))), (o1 8 (.alloc [(.v (.string ⟨#[]⟩)), (.v (.int .i64 0)), (.v (.int .i64 0)),
  (.v (.int .i64 0)), (.v (.int .i64 0)), (.slice .nilS 0 []), (.v (.int .i64 0))])), ⟨none, none, (.store 7 (t1 8) (t1 41))⟩]) (.seq (.seq (.region false [(o1 42 (.fieldAddr 1 (t1 7))), (o1 43 (.load
  false 1 (t1 42))), (o1 44 (.fieldAddr 1 (t1 8))), (o1 45 (.fieldAddr 0 (t1 44))), (o1 46 (.load false 1 (t1 45))), (o1 47 (.fieldAddr 1 (t1 8))), (o1 48 (.fieldAddr 1 (t1 47))), (o1 49 (.load false
  1 (t1 48))), (o1 50 (.fieldAddr 3 (t1 8))), (o1 51 (.load false 1 (t1 50))), (o1 52 (.arith .sub (t1 49) (t1 51))), (o1 53 (.arith .add (t1 52) (.const (.v (.int .i64 1))))), (o1 54 (.call false 12
  [(t1 43), (t1 46), (t1 53)])), (o1 55 (.un .not (t1 54)))]) (.cond (t1 55) (.seq (.region false [(o1 6 (.move (.const (.v (.int .i64 2)))))]) .ret) .skip)) (.seq (.seq (.region false [(o1 56
  (.fieldAddr 2 (t1 7))), (o1 57 (.load false 1 (t1 56))), (o1 58 (.len false (t1 57))), (o1 59 (.fieldAddr 6 (t1 8))), (o1 60 (.load false 1 (t1 59))), (o1 61 (.arith .neq (t1 58) (t1 60)))]) (.cond
  (t1 61) (.seq (.region false [(o1 6 (.move (.const (.v (.int .i64 10)))))]) .ret) .skip)) (.seq (.seq (.region false [(o1 9 (.move (.const (.v (.int .i64 0)))))]) (.block 0 (.loop b_r_passErr_l1)))
  b_r_passErr_r1))))))))
abbrev k_r_passErr_0 : List K := [.blk 2, .c b_r_passErr_r0]
abbrev k_r_passErr_1 : List K := [.blk 0, .c b_r_passErr_r1]
abbrev f_r_passErr := finF [(.tmp 6)] false
def c_r_passErr : AFn := .code 3 109 b_r_passErr [(.tmp 6)] false
-- 45
def b_b_Gcd_r0 : ACode := (.seq (.region false [(o1 11 (.move (t1 0))), (o1 12 (.call false 68 [(t1 11)])), (o1 4 (.move (t1 12)))]) .ret)
def b_b_Gcd_l0 : ACode := (.seq (.seq (.region false [(o1 5 (.move (t1 1))), (o1 6 (.arith .neq (t1 5) (.const (.v (.int .i64 0)))))]) (.cond (t1 6) .skip (.exit 0))) (.block 1 (.region true [(o1 7
  (.move (t1 1))), (o1 8 (.move (t1 0))), (o1 9 (.move (t1 1))), (o1 10 (.arith .rem (t1 8) (t1 9))), (o1 0 (.move (t1 7))), (o1 1 (.move (t1 10)))])))
def b_b_Gcd : ACode := (.seq (.region false [(o1 4 (.move (.const (.v (.int .i64 0)))))]) (.seq (.block 0 (.loop b_b_Gcd_l0)) b_b_Gcd_r0))
abbrev k_b_Gcd_0 : List K := [.blk 0, .c b_b_Gcd_r0]
abbrev f_b_Gcd := finF [(.tmp 4)] false
def c_b_Gcd : AFn := .code 2 13 b_b_Gcd [(.tmp 4)] false
-- 46
def b_s_open_r0 : ACode := (.seq (.region false [(o1 55 (.move (t1 6))), (o1 2 (.move (t1 55))), (o1 3 (.move (.const (.v (.int .i64 0)))))]) .ret)
def b_s_open_r1 : ACode := (.region false [(o1 54 (.arith .add (t1 26) (.const (.v (.int .i64 1))))), (o1 26 (.move (t1 54)))])
def b_s_open_r2 : ACode := (.region false [(o1 53 (.arith .add (t1 34) (.const (.v (.int .i64 1))))), (o1 34 (.move (t1 53)))])
def b_s_open_l2 : ACode := (.seq (.seq (.region false [(o1 40 (.move (t1 11))), (o1 41 (.fieldAddr 1 (t1 10))), (o1 42 (.load false 1 (t1 41))), (o1 43 (.arith .leq (t1 40) (t1 42)))]) (.cond (t1 43)
  .skip (.exit 4))) (.seq (.block 5 (.region false [(o1 46 (.move (t1 6))), (o1 47 (.move (t1 7))), (o1 48 (.move (t1 11))), (o1 49 (.nilCheck (t1 46))), (o1 50 (.fieldAddr 3 (t1 49))), (o1 51
  (.indexAddr (some 4) 200 (t1 50) (t1 47))), (o1 52 (.indexAddr (some 200) 1 (t1 51) (t1 48))), ⟨none, none, (.store 1 (t1 52) (.const (.v (.bool true))))⟩])) (.region false [(o1 44 (.move (t1 11))),
  (o1 45 (.arith .add (t1 44) (.const (.v (.int .i64 1))))), (o1 11 (.move (t1 45)))])))
def b_s_open_l1 : ACode := (.seq (.region false [(o1 35 (.arith .lss (t1 34) (t1 33)))]) (.seq (.cond (t1 35) .skip (.exit 2)) (.seq (.block 3 (.seq (.region false [(o1 36 (.indexAddr none 2 (t1 32)
  (t1 34))), (o1 37 (.load true 2 (t1 36))), (o1 10 (.alloc [(.v (.int .i64 0)), (.v (.int .i64 0))])), ⟨none, none, (.store 2 (t1 10) (t1 37))⟩]) (.seq (.region false [(o1 38 (.fieldAddr 0 (t1 10))),
  (o1 39 (.load false 1 (t1 38))), (o1 11 (.move (t1 39)))]) (.block 4 (.loop b_s_open_l2))))) b_s_open_r2)))
def b_s_open_l0 : ACode := (.seq (.region false [(o1 27 (.arith .lss (t1 26) (t1 25)))]) (.seq (.cond (t1 27) .skip (.exit 0)) (.seq (.block 1 (.seq (.region false [(o1 28 (.move (t1 26))), (o1 29
  (.indexAddr none 3 (t1 24) (t1 26))), (o1 30 (.load true 3 (t1 29))), (o1 8 (.alloc [(.v (.string ⟨#[]⟩)), (.v (.int .i64 0)), (.slice .nilS 0 [])])), (o1 7 (.move (t1 28))), ⟨none, none, (.store 3
  (t1 8) (t1 30))⟩]) (.seq (.region false [(o1 31 (.fieldAddr 2 (t1 8))), (o1 32 (.load false 1 (t1 31))), (o1 33 (.len false (t1 32))), (o1 34 (.move (.const (.v (.int .i64 0)))))]) (.block 2 (.loop
  b_s_open_l1))))) b_s_open_r1)))
def b_s_open : ACode := (.seq (.region false [(o1 1 (.box 3 (t1 0))), (o1 2 (.move (.const (.v (.pointer none))))), (o1 3 (.move (.const (.v (.int .i64 0)))))]) (.seq (.seq (.region false [(o1 13
  (.load true 3 (t1 1))), (o1 14 (.call false 69 [(t1 13)])), (o1 12 (.move (t1 14))), (o1 15 (.extract 0 (t1 12))), (o1 16 (.extract 1 (t1 12))), (o1 4 (.alloc [(.v (.int .i64 0)), (.v (.int .i64
  0))])), ⟨none, none, (.store 2 (t1 4) (t1 15))⟩, (o1 5 (.move (t1 16)))]) (.seq (.region false [(o1 17 (.move (t1 5))), (o1 18 (.arith .neq (t1 17) (.const (.v (.int .i64 0)))))]) (.cond (t1 18)
  (.seq (.region false [(o1 19 (.move (t1 5))), (o1 2 (.move (.const (.v (.pointer none))))), (o1 3 (.move (t1 19)))]) .ret) .skip))) (.seq (.region false [(o1 20 (.load true 3 (t1 1))), (o1 21
  (.build ((.v (.int .i64 0)) :: (.slice .nilS 0 []) :: (.slice .nilS 0 []) :: zeros 800) [(0, (3, (t1 20)))])), (o1 22 (.box 803 (t1 21))), (o1 6 (.move (t1 22)))]) (.seq (.seq (.region false [(o1 23
  (.fieldAddr 1 (t1 1))), (o1 24 (.load false 1 (t1 23))), (o1 25 (.len false (t1 24))), (o1 26 (.move (.const (.v (.int .i64 0)))))]) (.block 0 (.loop b_s_open_l0))) b_s_open_r0))))
abbrev k_s_open_2 : List K := [.blk 4, .blk 3, .c b_s_open_r2, .lp b_s_open_l1, .blk 2, .blk 1, .c b_s_open_r1, .lp b_s_open_l0, .blk 0, .c b_s_open_r0]
abbrev k_s_open_1 : List K := [.blk 2, .blk 1, .c b_s_open_r1, .lp b_s_open_l0, .blk 0, .c b_s_open_r0]
abbrev k_s_open_0 : List K := [.blk 0, .c b_s_open_r0]
abbrev f_s_open := finF [(.tmp 2), (.tmp 3)] false
def c_s_open : AFn := .code 1 56 b_s_open [(.tmp 2), (.tmp 3)] false
-- 47
def b_s_openSmall_1 : ACode := (.seq (.region false [(o1 1 (.box 7 (t1 0))), (o1 2 (.move (.const (.v (.bool false)))))]) (.seq (.region false [(o1 3 (.fieldAddr 1 (t1 1))), (o1 4 (.fieldAddr 1 (t1
  3))), (o1 5 (.load false 1 (t1 4))), (o1 6 (.fieldAddr 1 (t1 1))), (o1 7 (.fieldAddr 0 (t1 6))), (o1 8 (.load false 1 (t1 7))), (o1 9 (.arith .sub (t1 5) (t1 8))), (o1 10 (.arith .add (t1 9) (.const
  (.v (.int .i64 2))))), (o1 11 (.fieldAddr 3 (t1 1))), (o1 12 (.load false 1 (t1 11))), (o1 13 (.arith .sub (t1 10) (t1 12))), (o1 14 (.arith .gtr (t1 13) (.const (.v (.int .i64 8))))), (o1 2 (.move
  (t1 14)))]) .ret))
abbrev f_s_openSmall_1 := finF [(.tmp 2)] false
def c_s_openSmall_1 : AFn := .code 1 15 b_s_openSmall_1 [(.tmp 2)] false
-- 48
def b_z_ContainsFunc_ScheduleRequest : ACode := (.seq (.region false [(o1 4 (.move (.const (.v (.bool false)))))]) (.seq (.region false [(o1 5 (.move (t1 0))), (o1 6 (.move (t1 1))), (o1 7 (.call
  false 70 [(t1 5), (t1 6)])), (o1 8 (.arith .geq (t1 7) (.const (.v (.int .i64 0))))), (o1 4 (.move (t1 8)))]) .ret))
abbrev f_z_ContainsFunc_ScheduleRequest := finF [(.tmp 4)] false
def c_z_ContainsFunc_ScheduleRequest : AFn := .code 2 9 b_z_ContainsFunc_ScheduleRequest [(.tmp 4)] false
-- 49
def b_s_unless : ACode := (.seq (.region false [(o1 4 (.move (.const (.v (.int .i64 0)))))]) (.seq (.seq (.region false [(o1 5 (.move (t1 0)))]) (.cond (t1 5) (.seq (.region false [(o1 4 (.move
  (.const (.v (.int .i64 0)))))]) .ret) .skip)) (.seq (.region false [(o1 6 (.move (t1 1))), (o1 4 (.move (t1 6)))]) .ret)))
abbrev f_s_unless := finF [(.tmp 4)] false
def c_s_unless : AFn := .code 2 7 b_s_unless [(.tmp 4)] false
-- 50
def b_w_placements_r0 : ACode := (.seq (.region false [(o1 22 (.load false 1 (t1 7))), (o1 6 (.move (t1 22)))]) .ret)
def b_w_placements_y0 : ACode := (.block 1 (.seq (.region false [(o1 13 (.load false 1 (t1 3))), (o1 14 (.load true 3 (t1 8))), (o1 15 (.load false 1 (t1 4))), (o1 16 (.call false 72 [(t1 13), (t1
  14), (t1 15)])), (o1 17 (.un .not (t1 16)))]) (.cond (t1 17) (.region false [(o1 18 (.load false 1 (t1 7))), (o1 19 (.load true 3 (t1 8))), (o1 20 (.buildSlice 3 [[(.v (.int .i64 0)), (.v (.int .i64
  0)), (.slice .nilS 0 [])]] [(0, (t1 19))])), (o1 21 (.append 3 (t1 18) (t1 20))), ⟨none, none, (.store 1 (t1 7) (t1 21))⟩]) .skip)))
def b_w_placements_a0 : ACode := (.region false [(o1 8 (.alloc [(.v (.int .i64 0)), (.v (.int .i64 0)), (.slice .nilS 0 [])])), ⟨none, none, (.store 3 (t1 8) (t1 12))⟩])
def b_w_placements : ACode := (.seq (.region false [(o1 3 (.box 1 (t1 0))), (o1 4 (.box 1 (t1 1))), (o1 6 (.move (.const (.slice .nilS 0 []))))]) (.seq (.region false [(o1 7 (.alloc [(.slice .nilS 0
  [])]))]) (.seq (.seq (.region false [(o1 9 (.load false 1 (t1 3))), (o1 10 (.move (t1 2))), (o1 11 (.call false 71 [(t1 9), (t1 10)]))]) (.block 0 (.rangeFunc (t1 11) [12] b_w_placements_a0
  b_w_placements_y0))) b_w_placements_r0)))
abbrev k_w_placements_0 : List K := [.blk 0, .c b_w_placements_r0]
abbrev f_w_placements := finF [(.tmp 6)] false
def c_w_placements : AFn := .code 3 23 b_w_placements [(.tmp 6)] false
-- 51
def b_c_worth_r0 : ACode := (.seq (.region false [(o1 28 (.move (t1 5))), (o1 4 (.move (t1 28)))]) .ret)
def b_c_worth_l0 : ACode := (.seq (.region false [(o1 12 (.arith .lss (t1 11) (t1 10)))]) (.seq (.cond (t1 12) .skip (.exit 0)) (.seq (.block 1 (.seq (.region false [(o1 13 (.indexAddr none 1 (t1 9)
  (t1 11))), (o1 14 (.load false 1 (t1 13))), (o1 7 (.move (t1 14)))]) (.region false [(o1 15 (.move (t1 5))), (o1 16 (.fieldAddr 0 (t1 2))), (o1 17 (.load false 1 (t1 16))), (o1 18 (.nilCheck (t1
  17))), (o1 19 (.fieldAddr 0 (t1 18))), (o1 20 (.fieldAddr 2 (t1 19))), (o1 21 (.load false 1 (t1 20))), (o1 22 (.move (t1 7))), (o1 23 (.indexAddr none 7 (t1 21) (t1 22))), (o1 24 (.fieldAddr 4 (t1
  23))), (o1 25 (.load false 1 (t1 24))), (o1 26 (.arith .add (t1 15) (t1 25))), (o1 5 (.move (t1 26)))]))) (.region false [(o1 27 (.arith .add (t1 11) (.const (.v (.int .i64 1))))), (o1 11 (.move (t1
  27)))]))))
def b_c_worth : ACode := (.seq (.region false [(o1 2 (.box 2 (t1 0))), (o1 4 (.move (.const (.v (.int .i64 0)))))]) (.seq (.region false [(o1 5 (.move (.const (.v (.int .i64 0)))))]) (.seq (.seq
  (.region false [(o1 8 (.move (t1 1))), (o1 9 (.call false 73 [(t1 8)])), (o1 10 (.len false (t1 9))), (o1 11 (.move (.const (.v (.int .i64 0)))))]) (.block 0 (.loop b_c_worth_l0))) b_c_worth_r0)))
abbrev k_c_worth_0 : List K := [.blk 0, .c b_c_worth_r0]
abbrev f_c_worth := finF [(.tmp 4)] false
def c_c_worth : AFn := .code 2 29 b_c_worth [(.tmp 4)] false
-- 52
def b_c_isPermitted_r0 : ACode := (.seq (.region false [(o1 4 (.move (.const (.v (.bool true)))))]) .ret)
def b_c_isPermitted_l0 : ACode := (.seq (.region false [(o1 11 (.arith .lss (t1 10) (t1 9)))]) (.seq (.cond (t1 11) .skip (.exit 0)) (.seq (.block 1 (.seq (.region false [(o1 12 (.move (t1 10))), (o1
  13 (.indexAddr none 2 (t1 8) (t1 10))), (o1 14 (.load true 2 (t1 13))), (o1 6 (.alloc [(.slice .nilS 0 []), (.v (.bool false))])), (o1 5 (.move (t1 12))), ⟨none, none, (.store 2 (t1 6) (t1 14))⟩])
  (.seq (.region false [(o1 15 (.fieldAddr 1 (t1 6))), (o1 16 (.load false 1 (t1 15))), (o1 17 (.un .not (t1 16))), (o1 18 (.move (t1 17))), ⟨(some 19), (some (18, true)), (.move (t1 1))⟩, ⟨(some 20),
  (some (18, true)), (.move (t1 5))⟩, ⟨(some 21), (some (18, true)), (.arith .shr (t1 19) (t1 20))⟩, ⟨(some 22), (some (18, true)), (.arith .and (t1 21) (.const (.v (.int .i64 1))))⟩, ⟨(some 23),
  (some (18, true)), (.arith .eql (t1 22) (.const (.v (.int .i64 0))))⟩, (o1 24 (.pick (t1 18) (t1 23) (.const (.v (.bool false)))))]) (.cond (t1 24) (.seq (.region false [(o1 4 (.move (.const (.v
  (.bool false)))))]) .ret) .skip)))) (.region false [(o1 25 (.arith .add (t1 10) (.const (.v (.int .i64 1))))), (o1 10 (.move (t1 25)))]))))
def b_c_isPermitted : ACode := (.seq (.region false [(o1 2 (.box 2 (t1 0))), (o1 4 (.move (.const (.v (.bool false)))))]) (.seq (.seq (.region false [(o1 7 (.fieldAddr 1 (t1 2))), (o1 8 (.load false 1
  (t1 7))), (o1 9 (.len false (t1 8))), (o1 10 (.move (.const (.v (.int .i64 0)))))]) (.block 0 (.loop b_c_isPermitted_l0))) b_c_isPermitted_r0))
abbrev k_c_isPermitted_0 : List K := [.blk 0, .c b_c_isPermitted_r0]
abbrev f_c_isPermitted := finF [(.tmp 4)] false
def c_c_isPermitted : AFn := .code 2 26 b_c_isPermitted [(.tmp 4)] false
-- 53
def b_c_fits_r0 : ACode := (.seq (.region false [(o1 52 (.fieldAddr 0 (t1 3))), (o1 53 (.load false 1 (t1 52))), (o1 54 (.move (t1 7))), (o1 55 (.call false 75 [(t1 53), (t1 54)])), (o1 6 (.move (t1
  55)))]) .ret)
def b_c_fits_r1 : ACode := (.region false [(o1 51 (.arith .add (t1 18) (.const (.v (.int .i64 1))))), (o1 18 (.move (t1 51)))])
def b_c_fits_r2 : ACode := (.region false [(o1 47 (.move (t1 7))), (o1 48 (.move (t1 12))), (o1 49 (.buildSlice 1 [[(.slice .nilS 0 [])]] [(0, (t1 48))])), (o1 50 (.append 1 (t1 47) (t1 49))), (o1 7
  (.move (t1 50)))])
def b_c_fits_l1 : ACode := (.seq (.region false [(o1 38 (.arith .lss (t1 37) (t1 36)))]) (.seq (.cond (t1 38) .skip (.exit 2)) (.seq (.block 3 (.seq (.region false [(o1 39 (.indexAddr none 3 (t1 35)
  (t1 37))), (o1 40 (.load true 3 (t1 39))), (o1 14 (.alloc [(.v (.int .i64 0)), (.v (.int .i64 0)), (.slice .nilS 0 [])])), ⟨none, none, (.store 3 (t1 14) (t1 40))⟩]) (.region false [(o1 41
  (.fieldAddr 0 (t1 3))), (o1 42 (.load false 1 (t1 41))), (o1 43 (.move (t1 12))), (o1 44 (.load true 3 (t1 14))), (o1 45 (.call false 74 [(t1 42), (t1 43), (t1 44)])), (o1 12 (.move (t1 45)))])))
  (.region false [(o1 46 (.arith .add (t1 37) (.const (.v (.int .i64 1))))), (o1 37 (.move (t1 46)))]))))
def b_c_fits_l0 : ACode := (.seq (.region false [(o1 19 (.arith .lss (t1 18) (t1 17)))]) (.seq (.cond (t1 19) .skip (.exit 0)) (.seq (.block 1 (.seq (.region false [(o1 20 (.indexAddr none 1 (t1 16)
  (t1 18))), (o1 21 (.load false 1 (t1 20))), (o1 9 (.move (t1 21)))]) (.seq (.seq (.region false [(o1 23 (.move (t1 1))), (o1 24 (.move (t1 9))), (o1 25 (.call false 37 [(t1 23), (t1 24)])), (o1 22
  (.move (t1 25))), (o1 26 (.extract 0 (t1 22))), (o1 27 (.extract 1 (t1 22))), (o1 10 (.alloc [(.v (.int .i64 0)), (.v (.int .i64 0)), (.slice .nilS 0 [])])), ⟨none, none, (.store 3 (t1 10) (t1
  26))⟩, (o1 11 (.move (t1 27)))]) (.seq (.region false [(o1 28 (.move (t1 11)))]) (.cond (t1 28) (.exit 1) .skip))) (.seq (.region false [(o1 29 (.fieldAddr 1 (t1 3))), (o1 30 (.load false 1 (t1
  29))), (o1 31 (.move (t1 9))), (o1 32 (.indexAddr none 2 (t1 30) (t1 31))), (o1 33 (.fieldAddr 0 (t1 32))), (o1 34 (.load false 1 (t1 33))), (o1 12 (.move (t1 34)))]) (.seq (.seq (.region false [(o1
  35 (.move (t1 1))), (o1 36 (.len false (t1 35))), (o1 37 (.move (.const (.v (.int .i64 0)))))]) (.block 2 (.loop b_c_fits_l1))) b_c_fits_r2))))) b_c_fits_r1)))
def b_c_fits : ACode := (.seq (.region false [(o1 3 (.box 2 (t1 0))), (o1 6 (.move (.const (.v (.bool false)))))]) (.seq (.region false [(o1 7 (.move (.const (.slice .nilS 0 []))))]) (.seq (.seq
  (.region false [(o1 15 (.move (t1 2))), (o1 16 (.call false 73 [(t1 15)])), (o1 17 (.len false (t1 16))), (o1 18 (.move (.const (.v (.int .i64 0)))))]) (.block 0 (.loop b_c_fits_l0))) b_c_fits_r0)))
abbrev k_c_fits_1 : List K := [.blk 2, .c b_c_fits_r2, .blk 1, .c b_c_fits_r1, .lp b_c_fits_l0, .blk 0, .c b_c_fits_r0]
abbrev k_c_fits_0 : List K := [.blk 0, .c b_c_fits_r0]
abbrev f_c_fits := finF [(.tmp 6)] false
def c_c_fits : AFn := .code 3 56 b_c_fits [(.tmp 6)] false
-- 54
def b_c_next_r0 : ACode := (.seq (.region false [(o1 84 (.build [(.v (.int .i64 0)), (.v (.int .i64 0)), (.slice .nilS 0 [])] [])), ⟨none, none, (.store 3 (t1 8) (t1 84))⟩, (o1 9 (.move (.const (.v
  (.bool false)))))]) .ret)
def b_c_next_r1 : ACode := (.region false [(o1 35 (.move (t1 12))), (o1 36 (.arith .add (t1 35) (.const (.v (.int .i64 1))))), (o1 12 (.move (t1 36)))])
def b_c_next_r2 : ACode := (.region false [(o1 83 (.arith .add (t1 44) (.const (.v (.int .i64 1))))), (o1 44 (.move (t1 83)))])
def b_c_next_l2 : ACode := (.seq (.region false [(o1 61 (.arith .lss (t1 60) (t1 59)))]) (.seq (.cond (t1 61) .skip (.exit 4)) (.seq (.block 5 (.seq (.region false [(o1 62 (.indexAddr none 1 (t1 58)
  (t1 60))), (o1 63 (.load false 1 (t1 62))), (o1 17 (.move (t1 63)))]) (.seq (.region true [(o1 64 (.move (t1 17))), (o1 65 (.move (t1 12))), (o1 66 (.arith .add (t1 65) (.const (.v (.int .i64
  1))))), (o1 67 (.arith .shl (.const (.v (.int .i64 1))) (t1 66))), (o1 68 (.arith .sub (t1 67) (.const (.v (.int .i64 1))))), (o1 69 (.arith .and (t1 64) (t1 68))), (o1 70 (.move (t1 2))), (o1 71
  (.move (t1 12))), (o1 72 (.arith .shl (.const (.v (.int .i64 1))) (t1 71))), (o1 73 (.arith .or (t1 70) (t1 72))), (o1 74 (.arith .eql (t1 69) (t1 73))), (o1 75 (.move (t1 74))), ⟨(some 76), (some
  (75, true)), (.load true 2 (t1 4))⟩, ⟨(some 77), (some (75, true)), (.move (t1 15))⟩, ⟨(some 78), (some (75, true)), (.move (t1 17))⟩, ⟨(some 79), (some (75, true)), (.call false 53 [(t1 76), (t1
  77), (t1 78)])⟩, (o1 80 (.pick (t1 75) (t1 79) (.const (.v (.bool false)))))]) (.cond (t1 80) (.seq (.region false [(o1 81 (.load true 3 (t1 14))), ⟨none, none, (.store 3 (t1 8) (t1 81))⟩, (o1 9
  (.move (.const (.v (.bool true)))))]) .ret) .skip)))) (.region false [(o1 82 (.arith .add (t1 60) (.const (.v (.int .i64 1))))), (o1 60 (.move (t1 82)))]))))
def b_c_next_l1 : ACode := (.seq (.region false [(o1 45 (.arith .lss (t1 44) (t1 43)))]) (.seq (.cond (t1 45) .skip (.exit 2)) (.seq (.block 3 (.seq (.region false [(o1 46 (.indexAddr none 3 (t1 42)
  (t1 44))), (o1 47 (.load true 3 (t1 46))), (o1 14 (.alloc [(.v (.int .i64 0)), (.v (.int .i64 0)), (.slice .nilS 0 [])])), ⟨none, none, (.store 3 (t1 14) (t1 47))⟩]) (.seq (.seq (.region false [(o1
  48 (.fieldAddr 0 (t1 4))), (o1 49 (.load false 1 (t1 48))), (o1 50 (.load true 3 (t1 14))), (o1 51 (.move (t1 1))), (o1 52 (.call false 72 [(t1 49), (t1 50), (t1 51)]))]) (.cond (t1 52) (.exit 3)
  .skip)) (.seq (.region true [(o1 53 (.move (t1 1))), (o1 54 (.callo 76 [(t1 53)])), (o1 55 (.load true 3 (t1 14))), (o1 56 (.buildSlice 3 [[(.v (.int .i64 0)), (.v (.int .i64 0)), (.slice .nilS 0
  [])]] [(0, (t1 55))])), (o1 57 (.append 3 (t1 54) (t1 56))), (o1 15 (.move (t1 57)))]) (.seq (.region false [(o1 58 (.move (t1 3))), (o1 59 (.len false (t1 58))), (o1 60 (.move (.const (.v (.int
  .i64 0)))))]) (.block 4 (.loop b_c_next_l2))))))) b_c_next_r2)))
def b_c_next_l0 : ACode := (.seq (.seq (.region false [(o1 30 (.move (t1 12))), (o1 31 (.fieldAddr 1 (t1 4))), (o1 32 (.load false 1 (t1 31))), (o1 33 (.len false (t1 32))), (o1 34 (.arith .lss (t1
  30) (t1 33)))]) (.cond (t1 34) .skip (.exit 0))) (.seq (.block 1 (.seq (.region false [(o1 37 (.fieldAddr 1 (t1 4))), (o1 38 (.load false 1 (t1 37))), (o1 39 (.move (t1 12))), (o1 40 (.indexAddr
  none 2 (t1 38) (t1 39))), (o1 41 (.fieldAddr 0 (t1 40))), (o1 42 (.load false 1 (t1 41))), (o1 43 (.len false (t1 42))), (o1 44 (.move (.const (.v (.int .i64 0)))))]) (.block 2 (.loop
  b_c_next_l1)))) b_c_next_r1))
def b_c_next : ACode := (.seq (.region false [(o1 4 (.box 2 (t1 0))), (o1 8 (.alloc [(.v (.int .i64 0)), (.v (.int .i64 0)), (.slice .nilS 0 [])])), (o1 9 (.move (.const (.v (.bool false)))))]) (.seq
  (.region false [(o1 10 (.move (.const (.v (.int .i64 0)))))]) (.seq (.seq (.region false [(o1 18 (.move (t1 1))), (o1 19 (.len false (t1 18))), (o1 11 (.move (t1 19)))]) (.seq (.region false [(o1 20
  (.move (t1 11))), (o1 21 (.arith .gtr (t1 20) (.const (.v (.int .i64 0)))))]) (.cond (t1 21) (.region false [(o1 22 (.move (t1 1))), (o1 23 (.move (t1 11))), (o1 24 (.arith .sub (t1 23) (.const (.v
  (.int .i64 1))))), (o1 25 (.indexAddr none 3 (t1 22) (t1 24))), (o1 26 (.fieldAddr 0 (t1 25))), (o1 27 (.load false 1 (t1 26))), (o1 28 (.arith .add (t1 27) (.const (.v (.int .i64 1))))), (o1 10
  (.move (t1 28)))]) .skip))) (.seq (.seq (.region false [(o1 29 (.move (t1 10))), (o1 12 (.move (t1 29)))]) (.block 0 (.loop b_c_next_l0))) b_c_next_r0))))
abbrev k_c_next_2 : List K := [.blk 4, .blk 3, .c b_c_next_r2, .lp b_c_next_l1, .blk 2, .blk 1, .c b_c_next_r1, .lp b_c_next_l0, .blk 0, .c b_c_next_r0]
abbrev k_c_next_1 : List K := [.blk 2, .blk 1, .c b_c_next_r1, .lp b_c_next_l0, .blk 0, .c b_c_next_r0]
abbrev k_c_next_0 : List K := [.blk 0, .c b_c_next_r0]
abbrev f_c_next := finF [(.cell true 3 8), (.tmp 9)] false
def c_c_next : AFn := .code 4 85 b_c_next [(.cell true 3 8), (.tmp 9)] false
-- 55
def b_w_check_r0 : ACode := (.seq (.region false [(o1 4 (.move (.const (.v (.int .i64 0))))), (o1 5 (.move (.const (.v (.int .i64 0)))))]) .ret)
def b_w_check_l0 : ACode := (.seq (.region false [(o1 12 (.arith .lss (t1 11) (t1 10)))]) (.seq (.cond (t1 12) .skip (.exit 0)) (.seq (.block 1 (.seq (.region false [(o1 13 (.move (t1 11))), (o1 14
  (.indexAddr none 3 (t1 9) (t1 11))), (o1 15 (.load true 3 (t1 14))), (o1 7 (.alloc [(.v (.int .i64 0)), (.v (.int .i64 0)), (.slice .nilS 0 [])])), (o1 6 (.move (t1 13))), ⟨none, none, (.store 3 (t1
  7) (t1 15))⟩]) (.seq (.region true [(o1 16 (.move (t1 0))), (o1 17 (.load true 3 (t1 7))), (o1 18 (.move (t1 1))), (o1 19 (.move (t1 6))), (o1 20 (.slice (.sl 3) (t1 18) none (some (t1 19)) none)),
  (o1 21 (.call false 77 [(t1 16), (t1 17), (t1 20)])), (o1 8 (.move (t1 21)))]) (.seq (.region false [(o1 22 (.move (t1 8))), (o1 23 (.arith .neq (t1 22) (.const (.v (.int .i64 0)))))]) (.cond (t1
  23) (.seq (.region false [(o1 24 (.move (t1 6))), (o1 25 (.move (t1 8))), (o1 4 (.move (t1 24))), (o1 5 (.move (t1 25)))]) .ret) .skip))))) (.region false [(o1 26 (.arith .add (t1 11) (.const (.v
  (.int .i64 1))))), (o1 11 (.move (t1 26)))]))))
def b_w_check : ACode := (.seq (.region false [(o1 4 (.move (.const (.v (.int .i64 0))))), (o1 5 (.move (.const (.v (.int .i64 0)))))]) (.seq (.seq (.region false [(o1 9 (.move (t1 1))), (o1 10 (.len
  false (t1 9))), (o1 11 (.move (.const (.v (.int .i64 0)))))]) (.block 0 (.loop b_w_check_l0))) b_w_check_r0))
abbrev k_w_check_0 : List K := [.blk 0, .c b_w_check_r0]
abbrev f_w_check := finF [(.tmp 4), (.tmp 5)] false
def c_w_check : AFn := .code 2 27 b_w_check [(.tmp 4), (.tmp 5)] false
-- 56
def b_z_IndexFunc_SchedulePass_r0 : ACode := (.seq (.region false [(o1 4 (.move (.const (.v (.int .i64 (-1))))))]) .ret)
def b_z_IndexFunc_SchedulePass_l0 : ACode := (.seq (.region false [(o1 9 (.arith .lss (t1 8) (t1 7)))]) (.seq (.cond (t1 9) .skip (.exit 0)) (.seq (.block 1 (.seq (.region false [(o1 10 (.move (t1
  8))), (o1 5 (.move (t1 10)))]) (.seq (.region false [(o1 11 (.move (t1 1))), (o1 12 (.move (t1 0))), (o1 13 (.move (t1 5))), (o1 14 (.indexAddr none 3 (t1 12) (t1 13))), (o1 15 (.load true 3 (t1
  14))), (o1 16 (.callv false (t1 11) [(t1 15)]))]) (.cond (t1 16) (.seq (.region false [(o1 17 (.move (t1 5))), (o1 4 (.move (t1 17)))]) .ret) .skip)))) (.region false [(o1 18 (.arith .add (t1 8)
  (.const (.v (.int .i64 1))))), (o1 8 (.move (t1 18)))]))))
def b_z_IndexFunc_SchedulePass : ACode := (.seq (.region false [(o1 4 (.move (.const (.v (.int .i64 0)))))]) (.seq (.seq (.region false [(o1 6 (.move (t1 0))), (o1 7 (.len false (t1 6))), (o1 8 (.move
  (.const (.v (.int .i64 0)))))]) (.block 0 (.loop b_z_IndexFunc_SchedulePass_l0))) b_z_IndexFunc_SchedulePass_r0))
abbrev k_z_IndexFunc_SchedulePass_0 : List K := [.blk 0, .c b_z_IndexFunc_SchedulePass_r0]
abbrev f_z_IndexFunc_SchedulePass := finF [(.tmp 4)] false
def c_z_IndexFunc_SchedulePass : AFn := .code 2 19 b_z_IndexFunc_SchedulePass [(.tmp 4)] false
-- 57
def b_s_passOf_1 : ACode := (.seq (.region false [(o1 2 (.box 3 (t1 0))), (o1 3 (.move (.const (.v (.bool false)))))]) (.seq (.region false [(o1 4 (.fieldAddr 0 (t1 2))), (o1 5 (.load false 1 (t1
  4))), (o1 6 (.load false 1 (t1 1))), (o1 7 (.arith .eql (t1 5) (t1 6))), (o1 3 (.move (t1 7)))]) .ret))
abbrev f_s_passOf_1 := finF [(.tmp 3)] false
def c_s_passOf_1 : AFn := .code 2 8 b_s_passOf_1 [(.tmp 3)] false
-- 62
def b_s_within : ACode := (.seq (.region false [(o1 6 (.move (.const (.v (.bool false)))))]) (.seq (.region false [(o1 7 (.move (t1 1))), (o1 8 (.move (t1 0))), (o1 9 (.arith .leq (t1 7) (t1 8))), (o1
  10 (.move (t1 9))), ⟨(some 11), (some (10, true)), (.move (t1 0))⟩, ⟨(some 12), (some (10, true)), (.move (t1 2))⟩, ⟨(some 13), (some (10, true)), (.arith .leq (t1 11) (t1 12))⟩, (o1 14 (.pick (t1
  10) (t1 13) (.const (.v (.bool false))))), (o1 6 (.move (t1 14)))]) .ret))
abbrev f_s_within := finF [(.tmp 6)] false
def c_s_within : AFn := .code 3 15 b_s_within [(.tmp 6)] false
-- 63
def b_z_Index_int_r0 : ACode := (.seq (.region false [(o1 4 (.move (.const (.v (.int .i64 (-1))))))]) .ret)
def b_z_Index_int_l0 : ACode := (.seq (.region false [(o1 9 (.arith .lss (t1 8) (t1 7)))]) (.seq (.cond (t1 9) .skip (.exit 0)) (.seq (.block 1 (.seq (.region false [(o1 10 (.move (t1 8))), (o1 5
  (.move (t1 10)))]) (.seq (.region false [(o1 11 (.move (t1 1))), (o1 12 (.move (t1 0))), (o1 13 (.move (t1 5))), (o1 14 (.indexAddr none 1 (t1 12) (t1 13))), (o1 15 (.load false 1 (t1 14))), (o1 16
  (.arith .eql (t1 11) (t1 15)))]) (.cond (t1 16) (.seq (.region false [(o1 17 (.move (t1 5))), (o1 4 (.move (t1 17)))]) .ret) .skip)))) (.region false [(o1 18 (.arith .add (t1 8) (.const (.v (.int
  .i64 1))))), (o1 8 (.move (t1 18)))]))))
def b_z_Index_int : ACode := (.seq (.region false [(o1 4 (.move (.const (.v (.int .i64 0)))))]) (.seq (.seq (.region false [(o1 6 (.move (t1 0))), (o1 7 (.len false (t1 6))), (o1 8 (.move (.const (.v
  (.int .i64 0)))))]) (.block 0 (.loop b_z_Index_int_l0))) b_z_Index_int_r0))
abbrev k_z_Index_int_0 : List K := [.blk 0, .c b_z_Index_int_r0]
abbrev f_z_Index_int := finF [(.tmp 4)] false
def c_z_Index_int : AFn := .code 2 19 b_z_Index_int [(.tmp 4)] false
-- 64
def b_r_antennaErr_r0 : ACode := (.seq (.region false [(o1 4 (.move (.const (.v (.int .i64 0)))))]) .ret)
def b_r_antennaErr_l0 : ACode := (.seq (.seq (.region false [(o1 40 (.move (t1 7))), (o1 41 (.fieldAddr 2 (t1 5))), (o1 42 (.load false 1 (t1 41))), (o1 43 (.len false (t1 42))), (o1 44 (.arith .lss
  (t1 40) (t1 43)))]) (.cond (t1 44) .skip (.exit 2))) (.seq (.block 3 (.seq (.region true [(o1 47 (.load true 3 (t1 2))), (o1 48 (.fieldAddr 2 (t1 5))), (o1 49 (.load false 1 (t1 48))), (o1 50 (.move
  (t1 7))), (o1 51 (.indexAddr none 2 (t1 49) (t1 50))), (o1 52 (.load true 2 (t1 51))), (o1 53 (.call false 82 [(t1 47), (t1 52)])), (o1 8 (.move (t1 53)))]) (.seq (.region false [(o1 54 (.move (t1
  8))), (o1 55 (.arith .neq (t1 54) (.const (.v (.int .i64 0)))))]) (.cond (t1 55) (.seq (.region false [(o1 56 (.move (t1 8))), (o1 4 (.move (t1 56)))]) .ret) .skip)))) (.region false [(o1 45 (.move
  (t1 7))), (o1 46 (.arith .add (t1 45) (.const (.v (.int .i64 1))))), (o1 7 (.move (t1 46)))])))
def b_r_antennaErr_r1 : ACode := (.seq (.seq (.region false [(o1 32 (.fieldAddr 1 (t1 5))), (o1 33 (.load false 1 (t1 32))), (o1 34 (.call false 12 [(t1 33), (.const (.v (.int .i64 0))), (.const (.v
  (.int .i64 50)))])), (o1 35 (.un .not (t1 34)))]) (.cond (t1 35) (.seq (.region false [(o1 4 (.move (.const (.v (.int .i64 2)))))]) .ret) .skip)) (.seq (.seq (.region false [(o1 36 (.fieldAddr 2 (t1
  5))), (o1 37 (.load false 1 (t1 36))), (o1 38 (.len false (t1 37))), (o1 39 (.arith .gtr (t1 38) (.const (.v (.int .i64 6)))))]) (.cond (t1 39) (.seq (.region false [(o1 4 (.move (.const (.v (.int
  .i64 8)))))]) .ret) .skip)) (.seq (.seq (.region false [(o1 7 (.move (.const (.v (.int .i64 0)))))]) (.block 2 (.loop b_r_antennaErr_l0))) b_r_antennaErr_r0)))
def b_r_antennaErr_l1 : ACode := (.seq (.seq (.region false [(o1 18 (.move (t1 6))), (o1 19 (.move (t1 1))), (o1 20 (.arith .lss (t1 18) (t1 19)))]) (.cond (t1 20) .skip (.exit 0))) (.seq (.block 1
  (.seq (.region true [(o1 23 (.fieldAddr 1 (t1 2))), (o1 24 (.load false 1 (t1 23))), (o1 25 (.move (t1 6))), (o1 26 (.indexAddr none 3 (t1 24) (t1 25))), (o1 27 (.fieldAddr 0 (t1 26))), (o1 28
  (.load false 1 (t1 27))), (o1 29 (.fieldAddr 0 (t1 5))), (o1 30 (.load false 1 (t1 29))), (o1 31 (.arith .eql (t1 28) (t1 30)))]) (.cond (t1 31) (.seq (.region false [(o1 4 (.move (.const (.v (.int
  .i64 5)))))]) .ret) .skip))) (.region false [(o1 21 (.move (t1 6))), (o1 22 (.arith .add (t1 21) (.const (.v (.int .i64 1))))), (o1 6 (.move (t1 22)))])))
def b_r_antennaErr : ACode := (.seq (.region false [(o1 2 (.box 3 (t1 0))), (o1 4 (.move (.const (.v (.int .i64 0)))))]) (.seq (.region false [(o1 9 (.fieldAddr 1 (t1 2))), (o1 10 (.load false 1 (t1
  9))), (o1 11 (.move (t1 1))), (o1 12 (.indexAddr none 3 (t1 10) (t1 11))), (o1 13 (.load true 3 (t1 12))), (o1 5 (.alloc [(.v (.string ⟨#[]⟩)), (.v (.int .i64 0)), (.slice .nilS 0 [])])), ⟨none,
  none, (.store 3 (t1 5) (t1 13))⟩]) (.seq (.seq (.region false [(o1 14 (.fieldAddr 0 (t1 5))), (o1 15 (.load false 1 (t1 14))), (o1 16 (.call false 81 [(t1 15)])), (o1 17 (.un .not (t1 16)))]) (.cond
  (t1 17) (.seq (.region false [(o1 4 (.move (.const (.v (.int .i64 4)))))]) .ret) .skip)) (.seq (.seq (.region false [(o1 6 (.move (.const (.v (.int .i64 0)))))]) (.block 0 (.loop
  b_r_antennaErr_l1))) b_r_antennaErr_r1))))
abbrev k_r_antennaErr_0 : List K := [.blk 2, .c b_r_antennaErr_r0]
abbrev k_r_antennaErr_1 : List K := [.blk 0, .c b_r_antennaErr_r1]
abbrev f_r_antennaErr := finF [(.tmp 4)] false
def c_r_antennaErr : AFn := .code 2 57 b_r_antennaErr [(.tmp 4)] false
-- 65
def b_r_requestErr_r0 : ACode := (.seq (.seq (.region false [(o1 74 (.fieldAddr 6 (t1 3))), (o1 75 (.load false 1 (t1 74))), (o1 76 (.fieldAddr 5 (t1 3))), (o1 77 (.load false 1 (t1 76))), (o1 78
  (.len false (t1 77))), (o1 79 (.call false 12 [(t1 75), (.const (.v (.int .i64 1))), (t1 78)])), (o1 80 (.un .not (t1 79)))]) (.cond (t1 80) (.seq (.region false [(o1 4 (.move (.const (.v (.int .i64
  2)))))]) .ret) .skip)) (.seq (.region false [(o1 4 (.move (.const (.v (.int .i64 0)))))]) .ret))
def b_r_requestErr_l0 : ACode := (.seq (.seq (.region false [(o1 40 (.move (t1 6))), (o1 41 (.fieldAddr 5 (t1 3))), (o1 42 (.load false 1 (t1 41))), (o1 43 (.len false (t1 42))), (o1 44 (.arith .lss
  (t1 40) (t1 43)))]) (.cond (t1 44) .skip (.exit 0))) (.seq (.block 1 (.seq (.seq (.region true [(o1 47 (.fieldAddr 5 (t1 3))), (o1 48 (.load false 1 (t1 47))), (o1 49 (.move (t1 6))), (o1 50
  (.indexAddr none 1 (t1 48) (t1 49))), (o1 51 (.load false 1 (t1 50))), (o1 52 (.fieldAddr 1 (t1 2))), (o1 53 (.load false 1 (t1 52))), (o1 54 (.len false (t1 53))), (o1 55 (.arith .sub (t1 54)
  (.const (.v (.int .i64 1))))), (o1 56 (.call false 12 [(t1 51), (.const (.v (.int .i64 0))), (t1 55)])), (o1 57 (.un .not (t1 56)))]) (.cond (t1 57) (.seq (.region false [(o1 4 (.move (.const (.v
  (.int .i64 6)))))]) .ret) .skip)) (.seq (.region true [(o1 58 (.move (t1 6))), (o1 59 (.arith .gtr (t1 58) (.const (.v (.int .i64 0))))), (o1 60 (.move (t1 59))), ⟨(some 61), (some (60, true)),
  (.fieldAddr 5 (t1 3))⟩, ⟨(some 62), (some (60, true)), (.load false 1 (t1 61))⟩, ⟨(some 63), (some (60, true)), (.move (t1 6))⟩, ⟨(some 64), (some (60, true)), (.indexAddr none 1 (t1 62) (t1 63))⟩,
  ⟨(some 65), (some (60, true)), (.load false 1 (t1 64))⟩, ⟨(some 66), (some (60, true)), (.fieldAddr 5 (t1 3))⟩, ⟨(some 67), (some (60, true)), (.load false 1 (t1 66))⟩, ⟨(some 68), (some (60,
  true)), (.move (t1 6))⟩, ⟨(some 69), (some (60, true)), (.arith .sub (t1 68) (.const (.v (.int .i64 1))))⟩, ⟨(some 70), (some (60, true)), (.indexAddr none 1 (t1 67) (t1 69))⟩, ⟨(some 71), (some
  (60, true)), (.load false 1 (t1 70))⟩, ⟨(some 72), (some (60, true)), (.arith .leq (t1 65) (t1 71))⟩, (o1 73 (.pick (t1 60) (t1 72) (.const (.v (.bool false)))))]) (.cond (t1 73) (.seq (.region
  false [(o1 4 (.move (.const (.v (.int .i64 9)))))]) .ret) .skip)))) (.region false [(o1 45 (.move (t1 6))), (o1 46 (.arith .add (t1 45) (.const (.v (.int .i64 1))))), (o1 6 (.move (t1 46)))])))
def b_r_requestErr : ACode := (.seq (.region false [(o1 2 (.box 3 (t1 0))), (o1 3 (.box 7 (t1 1))), (o1 4 (.move (.const (.v (.int .i64 0)))))]) (.seq (.seq (.region false [(o1 7 (.fieldAddr 0 (t1
  3))), (o1 8 (.load false 1 (t1 7))), (o1 9 (.call false 81 [(t1 8)])), (o1 10 (.un .not (t1 9)))]) (.cond (t1 10) (.seq (.region false [(o1 4 (.move (.const (.v (.int .i64 4)))))]) .ret) .skip))
  (.seq (.seq (.region false [(o1 11 (.load true 3 (t1 2))), (o1 12 (.fieldAddr 1 (t1 3))), (o1 13 (.load true 2 (t1 12))), (o1 14 (.call false 82 [(t1 11), (t1 13)])), (o1 5 (.move (t1 14)))]) (.seq
  (.region false [(o1 15 (.move (t1 5))), (o1 16 (.arith .neq (t1 15) (.const (.v (.int .i64 0)))))]) (.cond (t1 16) (.seq (.region false [(o1 17 (.move (t1 5))), (o1 4 (.move (t1 17)))]) .ret)
  .skip))) (.seq (.seq (.region false [(o1 18 (.fieldAddr 3 (t1 3))), (o1 19 (.load false 1 (t1 18))), (o1 20 (.fieldAddr 1 (t1 3))), (o1 21 (.fieldAddr 1 (t1 20))), (o1 22 (.load false 1 (t1 21))),
  (o1 23 (.fieldAddr 1 (t1 3))), (o1 24 (.fieldAddr 0 (t1 23))), (o1 25 (.load false 1 (t1 24))), (o1 26 (.arith .sub (t1 22) (t1 25))), (o1 27 (.arith .add (t1 26) (.const (.v (.int .i64 1))))), (o1
  28 (.call false 12 [(t1 19), (.const (.v (.int .i64 1))), (t1 27)])), (o1 29 (.un .not (t1 28))), (o1 30 (.move (t1 29))), ⟨(some 31), (some (30, false)), (.fieldAddr 4 (t1 3))⟩, ⟨(some 32), (some
  (30, false)), (.load false 1 (t1 31))⟩, ⟨(some 33), (some (30, false)), (.call false 12 [(t1 32), (.const (.v (.int .i64 0))), (.const (.v (.int .i64 100000)))])⟩, ⟨(some 34), (some (30, false)),
  (.un .not (t1 33))⟩, (o1 35 (.pick (t1 30) (.const (.v (.bool true))) (t1 34)))]) (.cond (t1 35) (.seq (.region false [(o1 4 (.move (.const (.v (.int .i64 2)))))]) .ret) .skip)) (.seq (.seq (.region
  false [(o1 36 (.fieldAddr 5 (t1 3))), (o1 37 (.load false 1 (t1 36))), (o1 38 (.len false (t1 37))), (o1 39 (.arith .eql (t1 38) (.const (.v (.int .i64 0)))))]) (.cond (t1 39) (.seq (.region false
  [(o1 4 (.move (.const (.v (.int .i64 10)))))]) .ret) .skip)) (.seq (.seq (.region false [(o1 6 (.move (.const (.v (.int .i64 0)))))]) (.block 0 (.loop b_r_requestErr_l0))) b_r_requestErr_r0))))))
abbrev k_r_requestErr_0 : List K := [.blk 0, .c b_r_requestErr_r0]
abbrev f_r_requestErr := finF [(.tmp 4)] false
def c_r_requestErr : AFn := .code 2 81 b_r_requestErr [(.tmp 4)] false
-- 66
def b_r_shut_r0 : ACode := (.seq (.region false [(o1 4 (.move (.const (.v (.bool false)))))]) .ret)
def b_r_shut_r1 : ACode := (.region false [(o1 12 (.move (t1 5))), (o1 13 (.arith .add (t1 12) (.const (.v (.int .i64 1))))), (o1 5 (.move (t1 13)))])
def b_r_shut_l1 : ACode := (.seq (.seq (.region false [(o1 14 (.move (t1 6))), (o1 15 (.fieldAddr 2 (t1 2))), (o1 16 (.load false 1 (t1 15))), (o1 17 (.fieldAddr 0 (t1 3))), (o1 18 (.load false 1 (t1
  17))), (o1 19 (.indexAddr none 7 (t1 16) (t1 18))), (o1 20 (.fieldAddr 3 (t1 19))), (o1 21 (.load false 1 (t1 20))), (o1 22 (.arith .lss (t1 14) (t1 21)))]) (.cond (t1 22) .skip (.exit 2))) (.seq
  (.block 3 (.seq (.region true [(o1 25 (.fieldAddr 1 (t1 2))), (o1 26 (.load false 1 (t1 25))), (o1 27 (.fieldAddr 2 (t1 3))), (o1 28 (.load false 1 (t1 27))), (o1 29 (.move (t1 5))), (o1 30
  (.indexAddr none 1 (t1 28) (t1 29))), (o1 31 (.load false 1 (t1 30))), (o1 32 (.indexAddr none 3 (t1 26) (t1 31))), (o1 33 (.load true 3 (t1 32))), (o1 34 (.fieldAddr 1 (t1 3))), (o1 35 (.load false
  1 (t1 34))), (o1 36 (.move (t1 6))), (o1 37 (.arith .add (t1 35) (t1 36))), (o1 38 (.call false 30 [(t1 33), (t1 37)]))]) (.cond (t1 38) (.seq (.region false [(o1 4 (.move (.const (.v (.bool
  true)))))]) .ret) .skip))) (.region false [(o1 23 (.move (t1 6))), (o1 24 (.arith .add (t1 23) (.const (.v (.int .i64 1))))), (o1 6 (.move (t1 24)))])))
def b_r_shut_l0 : ACode := (.seq (.seq (.region false [(o1 7 (.move (t1 5))), (o1 8 (.fieldAddr 2 (t1 3))), (o1 9 (.load false 1 (t1 8))), (o1 10 (.len false (t1 9))), (o1 11 (.arith .lss (t1 7) (t1
  10)))]) (.cond (t1 11) .skip (.exit 0))) (.seq (.block 1 (.seq (.region false [(o1 6 (.move (.const (.v (.int .i64 0)))))]) (.block 2 (.loop b_r_shut_l1)))) b_r_shut_r1))
def b_r_shut : ACode := (.seq (.region false [(o1 2 (.box 3 (t1 0))), (o1 3 (.box 3 (t1 1))), (o1 4 (.move (.const (.v (.bool false)))))]) (.seq (.seq (.region false [(o1 5 (.move (.const (.v (.int
  .i64 0)))))]) (.block 0 (.loop b_r_shut_l0))) b_r_shut_r0))
abbrev k_r_shut_1 : List K := [.blk 2, .blk 1, .c b_r_shut_r1, .lp b_r_shut_l0, .blk 0, .c b_r_shut_r0]
abbrev k_r_shut_0 : List K := [.blk 0, .c b_r_shut_r0]
abbrev f_r_shut := finF [(.tmp 4)] false
def c_r_shut : AFn := .code 2 39 b_r_shut [(.tmp 4)] false
-- 67
def b_r_Conflict_r0 : ACode := (.seq (.region false [(o1 6 (.move (.const (.v (.bool false)))))]) .ret)
def b_r_Conflict_l0 : ACode := (.seq (.seq (.region false [(o1 43 (.move (t1 10))), (o1 44 (.fieldAddr 2 (t1 4))), (o1 45 (.load false 1 (t1 44))), (o1 46 (.len false (t1 45))), (o1 47 (.arith .lss
  (t1 43) (t1 46)))]) (.cond (t1 47) .skip (.exit 0))) (.seq (.block 1 (.seq (.region true [(o1 50 (.fieldAddr 2 (t1 5))), (o1 51 (.load false 1 (t1 50))), (o1 52 (.fieldAddr 2 (t1 4))), (o1 53 (.load
  false 1 (t1 52))), (o1 54 (.move (t1 10))), (o1 55 (.indexAddr none 1 (t1 53) (t1 54))), (o1 56 (.load false 1 (t1 55))), (o1 57 (.call false 16 [(t1 51), (t1 56)])), (o1 58 (.move (t1 57))), ⟨(some
  59), (some (58, true)), (.move (t1 9))⟩, ⟨(some 60), (some (58, true)), (.arith .lss (t1 59) (.const (.v (.int .i64 0))))⟩, ⟨(some 61), (some (58, true)), (.move (t1 60))⟩, ⟨(some 62), (some (61,
  false)), (.fieldAddr 0 (t1 7))⟩, ⟨(some 63), (some (61, false)), (.load false 1 (t1 62))⟩, ⟨(some 64), (some (61, false)), (.fieldAddr 0 (t1 8))⟩, ⟨(some 65), (some (61, false)), (.load false 1 (t1
  64))⟩, ⟨(some 66), (some (61, false)), (.arith .neq (t1 63) (t1 65))⟩, ⟨(some 67), (some (61, false)), (.move (t1 66))⟩, ⟨(some 68), (some (67, true)), (.move (t1 9))⟩, ⟨(some 69), (some (67,
  true)), (.fieldAddr 1 (t1 3))⟩, ⟨(some 70), (some (67, true)), (.load false 1 (t1 69))⟩, ⟨(some 71), (some (67, true)), (.fieldAddr 2 (t1 4))⟩, ⟨(some 72), (some (67, true)), (.load false 1 (t1
  71))⟩, ⟨(some 73), (some (67, true)), (.move (t1 10))⟩, ⟨(some 74), (some (67, true)), (.indexAddr none 1 (t1 72) (t1 73))⟩, ⟨(some 75), (some (67, true)), (.load false 1 (t1 74))⟩, ⟨(some 76),
  (some (67, true)), (.indexAddr none 3 (t1 70) (t1 75))⟩, ⟨(some 77), (some (67, true)), (.fieldAddr 1 (t1 76))⟩, ⟨(some 78), (some (67, true)), (.load false 1 (t1 77))⟩, ⟨(some 79), (some (67,
  true)), (.arith .lss (t1 68) (t1 78))⟩, ⟨(some 80), (some (61, false)), (.pick (t1 67) (t1 79) (.const (.v (.bool false))))⟩, ⟨(some 81), (some (58, true)), (.pick (t1 61) (.const (.v (.bool true)))
  (t1 80))⟩, (o1 82 (.pick (t1 58) (t1 81) (.const (.v (.bool false)))))]) (.cond (t1 82) (.seq (.region false [(o1 6 (.move (.const (.v (.bool true)))))]) .ret) .skip))) (.region false [(o1 48 (.move
  (t1 10))), (o1 49 (.arith .add (t1 48) (.const (.v (.int .i64 1))))), (o1 10 (.move (t1 49)))])))
def b_r_Conflict : ACode := (.seq (.region false [(o1 3 (.box 3 (t1 0))), (o1 4 (.box 3 (t1 1))), (o1 5 (.box 3 (t1 2))), (o1 6 (.move (.const (.v (.bool false)))))]) (.seq (.seq (.region false [(o1
  11 (.fieldAddr 0 (t1 4))), (o1 12 (.load false 1 (t1 11))), (o1 13 (.fieldAddr 0 (t1 5))), (o1 14 (.load false 1 (t1 13))), (o1 15 (.arith .eql (t1 12) (t1 14)))]) (.cond (t1 15) (.seq (.region
  false [(o1 6 (.move (.const (.v (.bool true)))))]) .ret) .skip)) (.seq (.seq (.region false [(o1 16 (.fieldAddr 1 (t1 4))), (o1 17 (.load false 1 (t1 16))), (o1 18 (.fieldAddr 1 (t1 5))), (o1 19
  (.load false 1 (t1 18))), (o1 20 (.arith .gtr (t1 17) (t1 19)))]) (.cond (t1 20) (.region false [(o1 21 (.load true 3 (t1 5))), (o1 22 (.load true 3 (t1 4))), ⟨none, none, (.store 3 (t1 4) (t1
  21))⟩, ⟨none, none, (.store 3 (t1 5) (t1 22))⟩]) .skip)) (.seq (.seq (.region false [⟨none, none, (.reserve 2)⟩]) (.region true [(o1 23 (.fieldAddr 2 (t1 3))), (o1 24 (.loadr 2 false 1 (t1 23))),
  (o1 25 (.fieldAddr 0 (t1 4))), (o1 26 (.loadr 2 false 1 (t1 25))), (o1 27 (.indexAddr none 7 (t1 24) (t1 26))), (o1 28 (.loadr 2 true 7 (t1 27))), (o1 29 (.fieldAddr 2 (t1 3))), (o1 30 (.loadr 2
  false 1 (t1 29))), (o1 31 (.fieldAddr 0 (t1 5))), (o1 32 (.loadr 2 false 1 (t1 31))), (o1 33 (.indexAddr none 7 (t1 30) (t1 32))), (o1 34 (.loadr 2 true 7 (t1 33))), (o1 7 (.slot 2 [(.v (.string
  ⟨#[]⟩)), (.v (.int .i64 0)), (.v (.int .i64 0)), (.v (.int .i64 0)), (.v (.int .i64 0)), (.slice .nilS 0 []), (.v (.int .i64 0))])), (o1 8 (.slot 1 [(.v (.string ⟨#[]⟩)), (.v (.int .i64 0)), (.v
  (.int .i64 0)), (.v (.int .i64 0)), (.v (.int .i64 0)), (.slice .nilS 0 []), (.v (.int .i64 0))])), ⟨none, none, (.fill 2 7 (t1 7) (t1 28))⟩, ⟨none, none, (.fill 1 7 (t1 8) (t1 34))⟩])) (.seq
  (.region false [(o1 35 (.fieldAddr 1 (t1 5))), (o1 36 (.load false 1 (t1 35))), (o1 37 (.fieldAddr 1 (t1 4))), (o1 38 (.load false 1 (t1 37))), (o1 39 (.arith .sub (t1 36) (t1 38))), (o1 40
  (.fieldAddr 3 (t1 7))), (o1 41 (.load false 1 (t1 40))), (o1 42 (.arith .sub (t1 39) (t1 41))), (o1 9 (.move (t1 42)))]) (.seq (.seq (.region false [(o1 10 (.move (.const (.v (.int .i64 0)))))])
  (.block 0 (.loop b_r_Conflict_l0))) b_r_Conflict_r0))))))
abbrev k_r_Conflict_0 : List K := [.blk 0, .c b_r_Conflict_r0]
abbrev f_r_Conflict := finF [(.tmp 6)] false
def c_r_Conflict : AFn := .code 3 83 b_r_Conflict [(.tmp 6)] false
-- 68
def b_b_Size : ACode := (.seq (.region false [(o1 2 (.move (.const (.v (.int .i64 0)))))]) (.seq (.region false [(o1 3 (.move (t1 0))), (o1 4 (.move (t1 0))), (o1 5 (.un .neg (t1 4))), (o1 6 (.minmax
  true [(t1 3), (t1 5)])), (o1 2 (.move (t1 6)))]) .ret))
abbrev f_b_Size := finF [(.tmp 2)] false
def c_b_Size : AFn := .code 1 7 b_b_Size [(.tmp 2)] false
-- 69
def b_s_CheckWeek_r0 : ACode := (.seq (.region false [(o1 65 (.build [(.v (.int .i64 0)), (.v (.int .i64 0))] [])), ⟨none, none, (.store 2 (t1 2) (t1 65))⟩, (o1 3 (.move (.const (.v (.int .i64
  0)))))]) .ret)
def b_s_CheckWeek_l0 : ACode := (.seq (.region false [(o1 52 (.arith .lss (t1 51) (t1 50)))]) (.seq (.cond (t1 52) .skip (.exit 2)) (.seq (.block 3 (.seq (.region false [(o1 53 (.move (t1 51))), (o1
  54 (.indexAddr none 7 (t1 49) (t1 51))), (o1 55 (.load true 7 (t1 54))), (o1 9 (.alloc [(.v (.string ⟨#[]⟩)), (.v (.int .i64 0)), (.v (.int .i64 0)), (.v (.int .i64 0)), (.v (.int .i64 0)), (.slice
  .nilS 0 []), (.v (.int .i64 0))])), (o1 8 (.move (t1 53))), ⟨none, none, (.store 7 (t1 9) (t1 55))⟩]) (.seq (.region false [(o1 56 (.load true 3 (t1 1))), (o1 57 (.load true 7 (t1 9))), (o1 58
  (.call false 85 [(t1 56), (t1 57)])), (o1 10 (.move (t1 58)))]) (.seq (.region false [(o1 59 (.move (t1 10))), (o1 60 (.arith .neq (t1 59) (.const (.v (.int .i64 0)))))]) (.cond (t1 60) (.seq
  (.region false [(o1 61 (.move (t1 8))), (o1 62 (.build [(.v (.int .i64 0)), (.v (.int .i64 0))] [(0, (1, (.const (.v (.int .i64 2))))), (1, (1, (t1 61)))])), (o1 63 (.move (t1 10))), ⟨none, none,
  (.store 2 (t1 2) (t1 62))⟩, (o1 3 (.move (t1 63)))]) .ret) .skip))))) (.region false [(o1 64 (.arith .add (t1 51) (.const (.v (.int .i64 1))))), (o1 51 (.move (t1 64)))]))))
def b_s_CheckWeek_r1 : ACode := (.seq (.seq (.region false [(o1 48 (.fieldAddr 2 (t1 1))), (o1 49 (.load false 1 (t1 48))), (o1 50 (.len false (t1 49))), (o1 51 (.move (.const (.v (.int .i64 0)))))])
  (.block 2 (.loop b_s_CheckWeek_l0))) b_s_CheckWeek_r0)
def b_s_CheckWeek_l1 : ACode := (.seq (.region false [(o1 37 (.arith .lss (t1 36) (t1 35)))]) (.seq (.cond (t1 37) .skip (.exit 0)) (.seq (.block 1 (.seq (.region false [(o1 38 (.move (t1 36))), (o1 6
  (.move (t1 38)))]) (.seq (.region false [(o1 39 (.load true 3 (t1 1))), (o1 40 (.move (t1 6))), (o1 41 (.call false 84 [(t1 39), (t1 40)])), (o1 7 (.move (t1 41)))]) (.seq (.region false [(o1 42
  (.move (t1 7))), (o1 43 (.arith .neq (t1 42) (.const (.v (.int .i64 0)))))]) (.cond (t1 43) (.seq (.region false [(o1 44 (.move (t1 6))), (o1 45 (.build [(.v (.int .i64 0)), (.v (.int .i64 0))] [(0,
  (1, (.const (.v (.int .i64 1))))), (1, (1, (t1 44)))])), (o1 46 (.move (t1 7))), ⟨none, none, (.store 2 (t1 2) (t1 45))⟩, (o1 3 (.move (t1 46)))]) .ret) .skip))))) (.region false [(o1 47 (.arith
  .add (t1 36) (.const (.v (.int .i64 1))))), (o1 36 (.move (t1 47)))]))))
def b_s_CheckWeek : ACode := (.seq (.region false [(o1 1 (.box 3 (t1 0))), (o1 2 (.alloc [(.v (.int .i64 0)), (.v (.int .i64 0))])), (o1 3 (.move (.const (.v (.int .i64 0)))))]) (.seq (.region false
  [(o1 11 (.fieldAddr 1 (t1 1))), (o1 12 (.load false 1 (t1 11))), (o1 13 (.len false (t1 12))), (o1 14 (.arith .leq (t1 13) (.const (.v (.int .i64 4))))), (o1 15 (.move (t1 14))), ⟨(some 16), (some
  (15, true)), (.fieldAddr 2 (t1 1))⟩, ⟨(some 17), (some (15, true)), (.load false 1 (t1 16))⟩, ⟨(some 18), (some (15, true)), (.len false (t1 17))⟩, ⟨(some 19), (some (15, true)), (.arith .leq (t1
  18) (.const (.v (.int .i64 12))))⟩, (o1 20 (.pick (t1 15) (t1 19) (.const (.v (.bool false))))), (o1 4 (.move (t1 20)))]) (.seq (.seq (.region false [(o1 21 (.fieldAddr 0 (t1 1))), (o1 22 (.load
  false 1 (t1 21))), (o1 23 (.call false 62 [(t1 22), (.const (.v (.int .i64 1))), (.const (.v (.int .i64 200)))])), (o1 24 (.call false 49 [(t1 23), (.const (.v (.int .i64 2)))])), (o1 25 (.move (t1
  4))), (o1 26 (.call false 49 [(t1 25), (.const (.v (.int .i64 8)))])), (o1 27 (.buildSlice 1 [[(.v (.int .i64 0))], [(.v (.int .i64 0))]] [(0, (t1 24)), (1, (t1 26))])), (o1 28 (.call false 83 [(t1
  27)])), (o1 5 (.move (t1 28)))]) (.seq (.region false [(o1 29 (.move (t1 5))), (o1 30 (.arith .neq (t1 29) (.const (.v (.int .i64 0)))))]) (.cond (t1 30) (.seq (.region false [(o1 31 (.build [(.v
  (.int .i64 0)), (.v (.int .i64 0))] [])), (o1 32 (.move (t1 5))), ⟨none, none, (.store 2 (t1 2) (t1 31))⟩, (o1 3 (.move (t1 32)))]) .ret) .skip))) (.seq (.seq (.region false [(o1 33 (.fieldAddr 1
  (t1 1))), (o1 34 (.load false 1 (t1 33))), (o1 35 (.len false (t1 34))), (o1 36 (.move (.const (.v (.int .i64 0)))))]) (.block 0 (.loop b_s_CheckWeek_l1))) b_s_CheckWeek_r1))))
abbrev k_s_CheckWeek_0 : List K := [.blk 2, .c b_s_CheckWeek_r0]
abbrev k_s_CheckWeek_1 : List K := [.blk 0, .c b_s_CheckWeek_r1]
abbrev f_s_CheckWeek := finF [(.cell true 2 2), (.tmp 3)] false
def c_s_CheckWeek : AFn := .code 1 66 b_s_CheckWeek [(.cell true 2 2), (.tmp 3)] false
-- 70
def b_z_IndexFunc_ScheduleRequest_r0 : ACode := (.seq (.region false [(o1 4 (.move (.const (.v (.int .i64 (-1))))))]) .ret)
def b_z_IndexFunc_ScheduleRequest_l0 : ACode := (.seq (.region false [(o1 9 (.arith .lss (t1 8) (t1 7)))]) (.seq (.cond (t1 9) .skip (.exit 0)) (.seq (.block 1 (.seq (.region false [(o1 10 (.move (t1
  8))), (o1 5 (.move (t1 10)))]) (.seq (.region false [(o1 11 (.move (t1 1))), (o1 12 (.move (t1 0))), (o1 13 (.move (t1 5))), (o1 14 (.indexAddr none 7 (t1 12) (t1 13))), (o1 15 (.load true 7 (t1
  14))), (o1 16 (.callv false (t1 11) [(t1 15)]))]) (.cond (t1 16) (.seq (.region false [(o1 17 (.move (t1 5))), (o1 4 (.move (t1 17)))]) .ret) .skip)))) (.region false [(o1 18 (.arith .add (t1 8)
  (.const (.v (.int .i64 1))))), (o1 8 (.move (t1 18)))]))))
def b_z_IndexFunc_ScheduleRequest : ACode := (.seq (.region false [(o1 4 (.move (.const (.v (.int .i64 0)))))]) (.seq (.seq (.region false [(o1 6 (.move (t1 0))), (o1 7 (.len false (t1 6))), (o1 8
  (.move (.const (.v (.int .i64 0)))))]) (.block 0 (.loop b_z_IndexFunc_ScheduleRequest_l0))) b_z_IndexFunc_ScheduleRequest_r0))
abbrev k_z_IndexFunc_ScheduleRequest_0 : List K := [.blk 0, .c b_z_IndexFunc_ScheduleRequest_r0]
abbrev f_z_IndexFunc_ScheduleRequest := finF [(.tmp 4)] false
def c_z_IndexFunc_ScheduleRequest : AFn := .code 2 19 b_z_IndexFunc_ScheduleRequest [(.tmp 4)] false
-- 71
def b_w_possible : ACode := (.seq (.region false [(o1 2 (.box 1 (t1 0))), (o1 3 (.box 1 (t1 1))), (o1 4 (.move (.const (.v .nilFunc))))]) (.seq (.region false [(o1 5 (.mkFn 86 [] [(t1 2), (t1 3)])),
  (o1 4 (.move (t1 5)))]) .ret))
abbrev f_w_possible := finF [(.tmp 4)] false
def c_w_possible : AFn := .code 2 6 b_w_possible [(.tmp 4)] false
-- 72
def b_w_conflicts : ACode := (.seq (.region false [(o1 3 (.box 1 (t1 0))), (o1 4 (.box 3 (t1 1))), (o1 6 (.move (.const (.v (.bool false)))))]) (.seq (.region false [(o1 7 (.move (t1 2))), (o1 8
  (.mkFn 90 [] [(t1 3), (t1 4)])), (o1 9 (.call false 89 [(t1 7), (t1 8)])), (o1 6 (.move (t1 9)))]) .ret))
abbrev f_w_conflicts := finF [(.tmp 6)] false
def c_w_conflicts : AFn := .code 3 10 b_w_conflicts [(.tmp 6)] false
-- 73
def b_s_members_r0 : ACode := (.seq (.region false [(o1 20 (.move (t1 3))), (o1 2 (.move (t1 20)))]) .ret)
def b_s_members_l0 : ACode := (.seq (.seq (.region false [(o1 5 (.move (t1 0))), (o1 6 (.move (t1 4))), (o1 7 (.arith .shr (t1 5) (t1 6))), (o1 8 (.arith .gtr (t1 7) (.const (.v (.int .i64 0)))))])
  (.cond (t1 8) .skip (.exit 0))) (.seq (.block 1 (.seq (.region false [(o1 11 (.move (t1 0))), (o1 12 (.move (t1 4))), (o1 13 (.arith .shr (t1 11) (t1 12))), (o1 14 (.arith .and (t1 13) (.const (.v
  (.int .i64 1))))), (o1 15 (.arith .eql (t1 14) (.const (.v (.int .i64 1)))))]) (.cond (t1 15) (.region false [(o1 16 (.move (t1 3))), (o1 17 (.move (t1 4))), (o1 18 (.buildSlice 1 [[(.v (.int .i64
  0))]] [(0, (t1 17))])), (o1 19 (.append 1 (t1 16) (t1 18))), (o1 3 (.move (t1 19)))]) .skip))) (.region false [(o1 9 (.move (t1 4))), (o1 10 (.arith .add (t1 9) (.const (.v (.int .i64 1))))), (o1 4
  (.move (t1 10)))])))
def b_s_members : ACode := (.seq (.region false [(o1 2 (.move (.const (.slice .nilS 0 []))))]) (.seq (.region false [(o1 3 (.move (.const (.slice .nilS 0 []))))]) (.seq (.seq (.region false [(o1 4
  (.move (.const (.v (.int .i64 0)))))]) (.block 0 (.loop b_s_members_l0))) b_s_members_r0)))
abbrev k_s_members_0 : List K := [.blk 0, .c b_s_members_r0]
abbrev f_s_members := finF [(.tmp 2)] false
def c_s_members : AFn := .code 1 21 b_s_members [(.tmp 2)] false
-- 74
def b_w_without_r0 : ACode := (.seq (.region false [(o1 26 (.move (t1 7))), (o1 6 (.move (t1 26)))]) .ret)
def b_w_without_l0 : ACode := (.seq (.region false [(o1 13 (.arith .lss (t1 12) (t1 11)))]) (.seq (.cond (t1 13) .skip (.exit 0)) (.seq (.block 1 (.seq (.region false [(o1 14 (.indexAddr none 3 (t1
  10) (t1 12))), (o1 15 (.load true 3 (t1 14))), (o1 9 (.alloc [(.v (.int .i64 0)), (.v (.int .i64 0)), (.slice .nilS 0 [])])), ⟨none, none, (.store 3 (t1 9) (t1 15))⟩]) (.seq (.region false [(o1 16
  (.move (t1 0))), (o1 17 (.load true 3 (t1 9))), (o1 18 (.load true 3 (t1 5))), (o1 19 (.call false 91 [(t1 16), (t1 17), (t1 18)])), (o1 20 (.un .not (t1 19)))]) (.cond (t1 20) (.region false [(o1
  21 (.move (t1 7))), (o1 22 (.load true 3 (t1 9))), (o1 23 (.buildSlice 3 [[(.v (.int .i64 0)), (.v (.int .i64 0)), (.slice .nilS 0 [])]] [(0, (t1 22))])), (o1 24 (.append 3 (t1 21) (t1 23))), (o1 7
  (.move (t1 24)))]) .skip)))) (.region false [(o1 25 (.arith .add (t1 12) (.const (.v (.int .i64 1))))), (o1 12 (.move (t1 25)))]))))
def b_w_without : ACode := (.seq (.region false [(o1 5 (.box 3 (t1 2))), (o1 6 (.move (.const (.slice .nilS 0 []))))]) (.seq (.region false [(o1 7 (.move (.const (.slice .nilS 0 []))))]) (.seq (.seq
  (.region false [(o1 10 (.move (t1 1))), (o1 11 (.len false (t1 10))), (o1 12 (.move (.const (.v (.int .i64 0)))))]) (.block 0 (.loop b_w_without_l0))) b_w_without_r0)))
abbrev k_w_without_0 : List K := [.blk 0, .c b_w_without_r0]
abbrev f_w_without := finF [(.tmp 6)] false
def c_w_without : AFn := .code 3 27 b_w_without [(.tmp 6)] false
-- 75
def b_w_fit_r0 : ACode := (.seq (.region false [(o1 4 (.move (.const (.v (.bool false)))))]) .ret)
def b_w_fit_r1 : ACode := (.region false [(o1 63 (.arith .add (t1 38) (.const (.v (.int .i64 1))))), (o1 38 (.move (t1 63)))])
def b_w_fit_r2 : ACode := (.seq (.region false [(o1 60 (.move (t1 0))), (o1 61 (.move (t1 10))), (o1 62 (.call false 75 [(t1 60), (t1 61)]))]) (.cond (t1 62) (.seq (.region false [(o1 4 (.move (.const
  (.v (.bool true)))))]) .ret) .skip))
def b_w_fit_l1 : ACode := (.seq (.region false [(o1 45 (.arith .lss (t1 44) (t1 43)))]) (.seq (.cond (t1 45) .skip (.exit 4)) (.seq (.block 5 (.seq (.region false [(o1 46 (.move (t1 44))), (o1 47
  (.indexAddr none 1 (t1 42) (t1 44))), (o1 48 (.load false 1 (t1 47))), (o1 11 (.move (t1 46))), (o1 12 (.move (t1 48)))]) (.seq (.region false [(o1 49 (.move (t1 11))), (o1 50 (.move (t1 5))), (o1
  51 (.arith .neq (t1 49) (t1 50)))]) (.cond (t1 51) (.region false [(o1 52 (.move (t1 10))), (o1 53 (.move (t1 0))), (o1 54 (.move (t1 12))), (o1 55 (.load true 3 (t1 9))), (o1 56 (.call false 74
  [(t1 53), (t1 54), (t1 55)])), (o1 57 (.buildSlice 1 [[(.slice .nilS 0 [])]] [(0, (t1 56))])), (o1 58 (.append 1 (t1 52) (t1 57))), (o1 10 (.move (t1 58)))]) .skip)))) (.region false [(o1 59 (.arith
  .add (t1 44) (.const (.v (.int .i64 1))))), (o1 44 (.move (t1 59)))]))))
def b_w_fit_l0 : ACode := (.seq (.region false [(o1 39 (.arith .lss (t1 38) (t1 37)))]) (.seq (.cond (t1 39) .skip (.exit 2)) (.seq (.block 3 (.seq (.region false [(o1 40 (.indexAddr none 3 (t1 36)
  (t1 38))), (o1 41 (.load true 3 (t1 40))), (o1 9 (.alloc [(.v (.int .i64 0)), (.v (.int .i64 0)), (.slice .nilS 0 [])])), ⟨none, none, (.store 3 (t1 9) (t1 41))⟩]) (.seq (.region false [(o1 10
  (.move (.const (.slice .nilS 0 []))))]) (.seq (.seq (.region false [(o1 42 (.move (t1 1))), (o1 43 (.len false (t1 42))), (o1 44 (.move (.const (.v (.int .i64 0)))))]) (.block 4 (.loop b_w_fit_l1)))
  b_w_fit_r2)))) b_w_fit_r1)))
def b_w_fit_r3 : ACode := (.seq (.seq (.region false [(o1 33 (.move (t1 1))), (o1 34 (.move (t1 5))), (o1 35 (.indexAddr none 1 (t1 33) (t1 34))), (o1 36 (.load false 1 (t1 35))), (o1 37 (.len false
  (t1 36))), (o1 38 (.move (.const (.v (.int .i64 0)))))]) (.block 2 (.loop b_w_fit_l0))) b_w_fit_r0)
def b_w_fit_l2 : ACode := (.seq (.region false [(o1 19 (.arith .lss (t1 18) (t1 17)))]) (.seq (.cond (t1 19) .skip (.exit 0)) (.seq (.block 1 (.seq (.region false [(o1 20 (.move (t1 18))), (o1 21
  (.indexAddr none 1 (t1 16) (t1 18))), (o1 22 (.load false 1 (t1 21))), (o1 6 (.move (t1 20))), (o1 7 (.move (t1 22)))]) (.seq (.region false [(o1 23 (.move (t1 7))), (o1 24 (.len false (t1 23))),
  (o1 25 (.move (t1 1))), (o1 26 (.move (t1 5))), (o1 27 (.indexAddr none 1 (t1 25) (t1 26))), (o1 28 (.load false 1 (t1 27))), (o1 29 (.len false (t1 28))), (o1 30 (.arith .lss (t1 24) (t1 29)))])
  (.cond (t1 30) (.region false [(o1 31 (.move (t1 6))), (o1 5 (.move (t1 31)))]) .skip)))) (.region false [(o1 32 (.arith .add (t1 18) (.const (.v (.int .i64 1))))), (o1 18 (.move (t1 32)))]))))
def b_w_fit : ACode := (.seq (.region false [(o1 4 (.move (.const (.v (.bool false)))))]) (.seq (.seq (.region false [(o1 13 (.move (t1 1))), (o1 14 (.len false (t1 13))), (o1 15 (.arith .eql (t1 14)
  (.const (.v (.int .i64 0)))))]) (.cond (t1 15) (.seq (.region false [(o1 4 (.move (.const (.v (.bool true)))))]) .ret) .skip)) (.seq (.region false [(o1 5 (.move (.const (.v (.int .i64 0)))))])
  (.seq (.seq (.region false [(o1 16 (.move (t1 1))), (o1 17 (.len false (t1 16))), (o1 18 (.move (.const (.v (.int .i64 0)))))]) (.block 0 (.loop b_w_fit_l2))) b_w_fit_r3))))
abbrev k_w_fit_1 : List K := [.blk 4, .c b_w_fit_r2, .blk 3, .c b_w_fit_r1, .lp b_w_fit_l0, .blk 2, .c b_w_fit_r0]
abbrev k_w_fit_0 : List K := [.blk 2, .c b_w_fit_r0]
abbrev k_w_fit_2 : List K := [.blk 0, .c b_w_fit_r3]
abbrev f_w_fit := finF [(.tmp 4)] false
def c_w_fit : AFn := .code 2 64 b_w_fit [(.tmp 4)] false
-- 76
def b_z_Clone_SchedulePass : ACode := (.seq (.region false [(o1 2 (.move (.const (.slice .nilS 0 []))))]) (.seq (.seq (.region false [(o1 3 (.move (t1 0))), (o1 4 (.eqv false .slice (t1 3) (.const
  (.slice .nilS 0 []))))]) (.cond (t1 4) (.seq (.region false [(o1 2 (.move (.const (.slice .nilS 0 []))))]) .ret) .skip)) (.seq (.region false [(o1 5 (.buildSlice 3 [] [])), (o1 6 (.move (t1 0))),
  (o1 7 (.append 3 (t1 5) (t1 6))), (o1 2 (.move (t1 7)))]) .ret)))
abbrev f_z_Clone_SchedulePass := finF [(.tmp 2)] true
def c_z_Clone_SchedulePass : AFn := .code 1 8 b_z_Clone_SchedulePass [(.tmp 2)] true
-- 77
def b_w_passErr_r0 : ACode := (.seq (.region true [(o1 109 (.move (t1 12))), (o1 110 (.un .not (t1 109))), (o1 111 (.call true 49 [(t1 110), (.const (.v (.int .i64 21)))])), (o1 112 (.move (t1 0))),
  (o1 113 (.load true 3 (t1 4))), (o1 114 (.move (t1 2))), (o1 115 (.call false 72 [(t1 112), (t1 113), (t1 114)])), (o1 116 (.un .not (t1 115))), (o1 117 (.call false 49 [(t1 116), (.const (.v (.int
  .i64 13)))])), (o1 118 (.buildSlice 1 [[(.v (.int .i64 0))], [(.v (.int .i64 0))]] [(0, (t1 111)), (1, (t1 117))])), (o1 119 (.call false 83 [(t1 118)])), (o1 6 (.move (t1 119)))]) .ret)
def b_w_passErr_l0 : ACode := (.seq (.region false [(o1 79 (.arith .lss (t1 78) (t1 77)))]) (.seq (.cond (t1 79) .skip (.exit 0)) (.seq (.block 1 (.seq (.region false [(o1 80 (.indexAddr none 1 (t1
  76) (t1 78))), (o1 81 (.load false 1 (t1 80))), (o1 14 (.move (t1 81)))]) (.seq (.seq (.region false [(o1 82 (.fieldAddr 5 (t1 10))), (o1 83 (.load false 1 (t1 82))), (o1 84 (.move (t1 14))), (o1 85
  (.call false 41 [(t1 83), (t1 84)])), (o1 86 (.call false 49 [(t1 85), (.const (.v (.int .i64 6)))])), (o1 87 (.move (t1 14))), (o1 88 (.move (t1 7))), (o1 89 (.arith .gtr (t1 87) (t1 88))), (o1 90
  (.call false 49 [(t1 89), (.const (.v (.int .i64 9)))])), (o1 91 (.buildSlice 1 [[(.v (.int .i64 0))], [(.v (.int .i64 0))]] [(0, (t1 86)), (1, (t1 90))])), (o1 92 (.call false 83 [(t1 91)])), (o1
  15 (.move (t1 92)))]) (.seq (.region false [(o1 93 (.move (t1 15))), (o1 94 (.arith .neq (t1 93) (.const (.v (.int .i64 0)))))]) (.cond (t1 94) (.seq (.region false [(o1 95 (.move (t1 15))), (o1 6
  (.move (t1 95)))]) .ret) .skip))) (.region false [(o1 96 (.move (t1 14))), (o1 97 (.move (t1 12))), (o1 98 (.move (t1 97))), ⟨(some 99), (some (98, false)), (.move (t1 0))⟩, ⟨(some 100), (some (98,
  false)), (.move (t1 14))⟩, ⟨(some 101), (some (98, false)), (.fieldAddr 1 (t1 4))⟩, ⟨(some 102), (some (98, false)), (.load false 1 (t1 101))⟩, ⟨(some 103), (some (98, false)), (.fieldAddr 3 (t1
  10))⟩, ⟨(some 104), (some (98, false)), (.load false 1 (t1 103))⟩, ⟨(some 105), (some (98, false)), (.call false 87 [(t1 99), (t1 100), (t1 102), (t1 104)])⟩, ⟨(some 106), (some (98, false)), (.un
  .not (t1 105))⟩, (o1 107 (.pick (t1 98) (.const (.v (.bool true))) (t1 106))), (o1 7 (.move (t1 96))), (o1 12 (.move (t1 107)))])))) (.region false [(o1 108 (.arith .add (t1 78) (.const (.v (.int
  .i64 1))))), (o1 78 (.move (t1 108)))]))))
def b_w_passErr : ACode := (.seq (.region false [(o1 4 (.box 3 (t1 1))), (o1 6 (.move (.const (.v (.int .i64 0)))))]) (.seq (.region false [(o1 7 (.move (.const (.v (.int .i64 (-1))))))]) (.seq (.seq
  (.region false [(o1 16 (.move (t1 2))), (o1 17 (.len false (t1 16))), (o1 8 (.move (t1 17)))]) (.seq (.region false [(o1 18 (.move (t1 8))), (o1 19 (.arith .gtr (t1 18) (.const (.v (.int .i64
  0)))))]) (.cond (t1 19) (.region false [(o1 20 (.move (t1 2))), (o1 21 (.move (t1 8))), (o1 22 (.arith .sub (t1 21) (.const (.v (.int .i64 1))))), (o1 23 (.indexAddr none 3 (t1 20) (t1 22))), (o1 24
  (.fieldAddr 0 (t1 23))), (o1 25 (.load false 1 (t1 24))), (o1 7 (.move (t1 25)))]) .skip))) (.seq (.seq (.region true [(o1 26 (.move (t1 0))), (o1 27 (.fieldAddr 0 (t1 4))), (o1 28 (.load false 1
  (t1 27))), (o1 29 (.call true 92 [(t1 26), (t1 28)])), (o1 30 (.fieldAddr 0 (t1 4))), (o1 31 (.load false 1 (t1 30))), (o1 32 (.move (t1 7))), (o1 33 (.arith .gtr (t1 31) (t1 32))), (o1 34 (.call
  false 49 [(t1 33), (.const (.v (.int .i64 9)))])), (o1 35 (.buildSlice 1 [[(.v (.int .i64 0))], [(.v (.int .i64 0))]] [(0, (t1 29)), (1, (t1 34))])), (o1 36 (.call false 83 [(t1 35)])), (o1 9 (.move
  (t1 36)))]) (.seq (.region false [(o1 37 (.move (t1 9))), (o1 38 (.arith .neq (t1 37) (.const (.v (.int .i64 0)))))]) (.cond (t1 38) (.seq (.region false [(o1 39 (.move (t1 9))), (o1 6 (.move (t1
  39)))]) .ret) .skip))) (.seq (.region true [(o1 40 (.move (t1 0))), (o1 41 (.nilCheck (t1 40))), (o1 42 (.fieldAddr 0 (t1 41))), (o1 43 (.fieldAddr 2 (t1 42))), (o1 44 (.load false 1 (t1 43))), (o1
  45 (.fieldAddr 0 (t1 4))), (o1 46 (.load false 1 (t1 45))), (o1 47 (.indexAddr none 7 (t1 44) (t1 46))), (o1 48 (.load true 7 (t1 47))), (o1 10 (.alloc [(.v (.string ⟨#[]⟩)), (.v (.int .i64 0)), (.v
  (.int .i64 0)), (.v (.int .i64 0)), (.v (.int .i64 0)), (.slice .nilS 0 []), (.v (.int .i64 0))])), ⟨none, none, (.store 7 (t1 10) (t1 48))⟩]) (.seq (.region true [(o1 49 (.fieldAddr 1 (t1 4))), (o1
  50 (.load false 1 (t1 49))), (o1 51 (.fieldAddr 1 (t1 10))), (o1 52 (.fieldAddr 0 (t1 51))), (o1 53 (.load false 1 (t1 52))), (o1 54 (.fieldAddr 1 (t1 10))), (o1 55 (.fieldAddr 1 (t1 54))), (o1 56
  (.load false 1 (t1 55))), (o1 57 (.arith .add (t1 56) (.const (.v (.int .i64 1))))), (o1 58 (.fieldAddr 3 (t1 10))), (o1 59 (.load false 1 (t1 58))), (o1 60 (.arith .sub (t1 57) (t1 59))), (o1 61
  (.call true 62 [(t1 50), (t1 53), (t1 60)])), (o1 62 (.call true 49 [(t1 61), (.const (.v (.int .i64 2)))])), (o1 63 (.fieldAddr 2 (t1 4))), (o1 64 (.load false 1 (t1 63))), (o1 65 (.len false (t1
  64))), (o1 66 (.fieldAddr 6 (t1 10))), (o1 67 (.load false 1 (t1 66))), (o1 68 (.arith .eql (t1 65) (t1 67))), (o1 69 (.call false 49 [(t1 68), (.const (.v (.int .i64 10)))])), (o1 70 (.buildSlice 1
  [[(.v (.int .i64 0))], [(.v (.int .i64 0))]] [(0, (t1 62)), (1, (t1 69))])), (o1 71 (.call false 83 [(t1 70)])), (o1 11 (.move (t1 71)))]) (.seq (.seq (.region false [(o1 72 (.move (t1 11))), (o1 73
  (.arith .neq (t1 72) (.const (.v (.int .i64 0)))))]) (.cond (t1 73) (.seq (.region false [(o1 74 (.move (t1 11))), (o1 6 (.move (t1 74)))]) .ret) .skip)) (.seq (.region false [(o1 7 (.move (.const
  (.v (.int .i64 (-1))))))]) (.seq (.region false [(o1 12 (.move (.const (.v (.bool false)))))]) (.seq (.seq (.region false [(o1 75 (.fieldAddr 2 (t1 4))), (o1 76 (.load false 1 (t1 75))), (o1 77
  (.len false (t1 76))), (o1 78 (.move (.const (.v (.int .i64 0)))))]) (.block 0 (.loop b_w_passErr_l0))) b_w_passErr_r0))))))))))
abbrev k_w_passErr_0 : List K := [.blk 0, .c b_w_passErr_r0]
abbrev f_w_passErr := finF [(.tmp 6)] false
def c_w_passErr : AFn := .code 3 120 b_w_passErr [(.tmp 6)] false
-- 81
def b_b_IsName_r0 : ACode := (.seq (.region false [(o1 2 (.move (.const (.v (.bool true)))))]) .ret)
def b_b_IsName_l0 : ACode := (.seq (.seq (.region false [(o1 14 (.move (t1 3))), (o1 15 (.move (t1 0))), (o1 16 (.len true (t1 15))), (o1 17 (.arith .lss (t1 14) (t1 16)))]) (.cond (t1 17) .skip
  (.exit 0))) (.seq (.block 1 (.seq (.region false [(o1 20 (.move (t1 0))), (o1 21 (.move (t1 3))), (o1 22 (.indexStr (t1 20) (t1 21))), (o1 4 (.move (t1 22)))]) (.seq (.region false [(o1 23 (.move
  (t1 4))), (o1 24 (.arith .geq (t1 23) (.const (.v (.int .u8 97))))), (o1 25 (.move (t1 24))), ⟨(some 26), (some (25, true)), (.move (t1 4))⟩, ⟨(some 27), (some (25, true)), (.arith .leq (t1 26)
  (.const (.v (.int .u8 122))))⟩, (o1 28 (.pick (t1 25) (t1 27) (.const (.v (.bool false))))), (o1 29 (.move (t1 28))), ⟨(some 30), (some (29, false)), (.move (t1 4))⟩, ⟨(some 31), (some (29, false)),
  (.arith .geq (t1 30) (.const (.v (.int .u8 65))))⟩, ⟨(some 32), (some (29, false)), (.move (t1 31))⟩, ⟨(some 33), (some (32, true)), (.move (t1 4))⟩, ⟨(some 34), (some (32, true)), (.arith .leq (t1
  33) (.const (.v (.int .u8 90))))⟩, ⟨(some 35), (some (29, false)), (.pick (t1 32) (t1 34) (.const (.v (.bool false))))⟩, (o1 36 (.pick (t1 29) (.const (.v (.bool true))) (t1 35))), (o1 5 (.move (t1
  36)))]) (.seq (.region false [(o1 37 (.move (t1 5))), (o1 38 (.un .not (t1 37))), (o1 39 (.move (t1 38))), ⟨(some 40), (some (39, true)), (.move (t1 3))⟩, ⟨(some 41), (some (39, true)), (.arith .eql
  (t1 40) (.const (.v (.int .i64 0))))⟩, ⟨(some 42), (some (39, true)), (.move (t1 41))⟩, ⟨(some 43), (some (42, false)), (.move (t1 4))⟩, ⟨(some 44), (some (42, false)), (.arith .neq (t1 43) (.const
  (.v (.int .u8 45))))⟩, ⟨(some 45), (some (42, false)), (.move (t1 44))⟩, ⟨(some 46), (some (45, true)), (.move (t1 4))⟩, ⟨(some 47), (some (45, true)), (.arith .lss (t1 46) (.const (.v (.int .u8
  48))))⟩, ⟨(some 48), (some (45, true)), (.move (t1 47))⟩, ⟨(some 49), (some (48, false)), (.move (t1 4))⟩, ⟨(some 50), (some (48, false)), (.arith .gtr (t1 49) (.const (.v (.int .u8 57))))⟩, ⟨(some
  51), (some (45, true)), (.pick (t1 48) (.const (.v (.bool true))) (t1 50))⟩, ⟨(some 52), (some (42, false)), (.pick (t1 45) (t1 51) (.const (.v (.bool false))))⟩, ⟨(some 53), (some (39, true)),
  (.pick (t1 42) (.const (.v (.bool true))) (t1 52))⟩, (o1 54 (.pick (t1 39) (t1 53) (.const (.v (.bool false)))))]) (.cond (t1 54) (.seq (.region false [(o1 2 (.move (.const (.v (.bool false)))))])
  .ret) .skip))))) (.region false [(o1 18 (.move (t1 3))), (o1 19 (.arith .add (t1 18) (.const (.v (.int .i64 1))))), (o1 3 (.move (t1 19)))])))
def b_b_IsName : ACode := (.seq (.region false [(o1 2 (.move (.const (.v (.bool false)))))]) (.seq (.seq (.region false [(o1 6 (.move (t1 0))), (o1 7 (.len true (t1 6))), (o1 8 (.arith .lss (t1 7)
  (.const (.v (.int .i64 1))))), (o1 9 (.move (t1 8))), ⟨(some 10), (some (9, false)), (.move (t1 0))⟩, ⟨(some 11), (some (9, false)), (.len true (t1 10))⟩, ⟨(some 12), (some (9, false)), (.arith .gtr
  (t1 11) (.const (.v (.int .i64 12))))⟩, (o1 13 (.pick (t1 9) (.const (.v (.bool true))) (t1 12)))]) (.cond (t1 13) (.seq (.region false [(o1 2 (.move (.const (.v (.bool false)))))]) .ret) .skip))
  (.seq (.seq (.region false [(o1 3 (.move (.const (.v (.int .i64 0)))))]) (.block 0 (.loop b_b_IsName_l0))) b_b_IsName_r0)))
abbrev k_b_IsName_0 : List K := [.blk 0, .c b_b_IsName_r0]
abbrev f_b_IsName := finF [(.tmp 2)] false
def c_b_IsName : AFn := .code 1 55 b_b_IsName [(.tmp 2)] false
-- 82
def b_r_slotsErr : ACode := (.seq (.region false [(o1 2 (.box 3 (t1 0))), (o1 3 (.box 2 (t1 1))), (o1 4 (.move (.const (.v (.int .i64 0)))))]) (.seq (.seq (.region false [(o1 5 (.fieldAddr 0 (t1 3))),
  (o1 6 (.load false 1 (t1 5))), (o1 7 (.fieldAddr 0 (t1 2))), (o1 8 (.load false 1 (t1 7))), (o1 9 (.arith .sub (t1 8) (.const (.v (.int .i64 1))))), (o1 10 (.call false 12 [(t1 6), (.const (.v (.int
  .i64 0))), (t1 9)])), (o1 11 (.un .not (t1 10))), (o1 12 (.move (t1 11))), ⟨(some 13), (some (12, false)), (.fieldAddr 1 (t1 3))⟩, ⟨(some 14), (some (12, false)), (.load false 1 (t1 13))⟩, ⟨(some
  15), (some (12, false)), (.fieldAddr 0 (t1 2))⟩, ⟨(some 16), (some (12, false)), (.load false 1 (t1 15))⟩, ⟨(some 17), (some (12, false)), (.arith .sub (t1 16) (.const (.v (.int .i64 1))))⟩, ⟨(some
  18), (some (12, false)), (.call false 12 [(t1 14), (.const (.v (.int .i64 0))), (t1 17)])⟩, ⟨(some 19), (some (12, false)), (.un .not (t1 18))⟩, (o1 20 (.pick (t1 12) (.const (.v (.bool true))) (t1
  19)))]) (.cond (t1 20) (.seq (.region false [(o1 4 (.move (.const (.v (.int .i64 2)))))]) .ret) .skip)) (.seq (.seq (.region false [(o1 21 (.fieldAddr 0 (t1 3))), (o1 22 (.load false 1 (t1 21))),
  (o1 23 (.fieldAddr 1 (t1 3))), (o1 24 (.load false 1 (t1 23))), (o1 25 (.arith .gtr (t1 22) (t1 24)))]) (.cond (t1 25) (.seq (.region false [(o1 4 (.move (.const (.v (.int .i64 9)))))]) .ret)
  .skip)) (.seq (.region false [(o1 4 (.move (.const (.v (.int .i64 0)))))]) .ret))))
abbrev f_r_slotsErr := finF [(.tmp 4)] false
def c_r_slotsErr : AFn := .code 2 26 b_r_slotsErr [(.tmp 4)] false
-- 83
def b_s_first_r0 : ACode := (.seq (.region false [(o1 2 (.move (.const (.v (.int .i64 0)))))]) .ret)
def b_s_first_l0 : ACode := (.seq (.region false [(o1 8 (.arith .lss (t1 7) (t1 6)))]) (.seq (.cond (t1 8) .skip (.exit 0)) (.seq (.block 1 (.seq (.region false [(o1 9 (.indexAddr none 1 (t1 5) (t1
  7))), (o1 10 (.load false 1 (t1 9))), (o1 4 (.move (t1 10)))]) (.seq (.region false [(o1 11 (.move (t1 4))), (o1 12 (.arith .neq (t1 11) (.const (.v (.int .i64 0)))))]) (.cond (t1 12) (.seq (.region
  false [(o1 13 (.move (t1 4))), (o1 2 (.move (t1 13)))]) .ret) .skip)))) (.region false [(o1 14 (.arith .add (t1 7) (.const (.v (.int .i64 1))))), (o1 7 (.move (t1 14)))]))))
def b_s_first : ACode := (.seq (.region false [(o1 2 (.move (.const (.v (.int .i64 0)))))]) (.seq (.seq (.region false [(o1 5 (.move (t1 0))), (o1 6 (.len false (t1 5))), (o1 7 (.move (.const (.v
  (.int .i64 0)))))]) (.block 0 (.loop b_s_first_l0))) b_s_first_r0))
abbrev k_s_first_0 : List K := [.blk 0, .c b_s_first_r0]
abbrev f_s_first := finF [(.tmp 2)] false
def c_s_first : AFn := .code 1 15 b_s_first [(.tmp 2)] false
-- 84
def b_s_antennaErr_r0 : ACode := (.seq (.region false [(o1 53 (.move (t1 7))), (o1 4 (.move (t1 53)))]) .ret)
def b_s_antennaErr_l0 : ACode := (.seq (.region false [(o1 43 (.arith .lss (t1 42) (t1 41)))]) (.seq (.cond (t1 43) .skip (.exit 0)) (.seq (.block 1 (.seq (.region false [(o1 44 (.indexAddr none 2 (t1
  40) (t1 42))), (o1 45 (.load true 2 (t1 44))), (o1 9 (.alloc [(.v (.int .i64 0)), (.v (.int .i64 0))])), ⟨none, none, (.store 2 (t1 9) (t1 45))⟩]) (.region false [(o1 46 (.move (t1 7))), (o1 47
  (.load true 3 (t1 2))), (o1 48 (.load true 2 (t1 9))), (o1 49 (.call false 102 [(t1 47), (t1 48)])), (o1 50 (.buildSlice 1 [[(.v (.int .i64 0))], [(.v (.int .i64 0))]] [(0, (t1 46)), (1, (t1
  49))])), (o1 51 (.call false 83 [(t1 50)])), (o1 7 (.move (t1 51)))]))) (.region false [(o1 52 (.arith .add (t1 42) (.const (.v (.int .i64 1))))), (o1 42 (.move (t1 52)))]))))
def b_s_antennaErr : ACode := (.seq (.region false [(o1 2 (.box 3 (t1 0))), (o1 4 (.move (.const (.v (.int .i64 0)))))]) (.seq (.region false [(o1 10 (.fieldAddr 1 (t1 2))), (o1 11 (.load false 1 (t1
  10))), (o1 12 (.move (t1 1))), (o1 13 (.indexAddr none 3 (t1 11) (t1 12))), (o1 14 (.load true 3 (t1 13))), (o1 5 (.alloc [(.v (.string ⟨#[]⟩)), (.v (.int .i64 0)), (.slice .nilS 0 [])])), ⟨none,
  none, (.store 3 (t1 5) (t1 14))⟩]) (.seq (.region false [(o1 15 (.fieldAddr 1 (t1 2))), (o1 16 (.load false 1 (t1 15))), (o1 17 (.move (t1 1))), (o1 18 (.slice (.sl 3) (t1 16) none (some (t1 17))
  none)), (o1 19 (.mkFn 100 [] [(t1 5)])), (o1 20 (.call false 99 [(t1 18), (t1 19)])), (o1 6 (.move (t1 20)))]) (.seq (.region true [(o1 21 (.fieldAddr 0 (t1 5))), (o1 22 (.load false 1 (t1 21))),
  (o1 23 (.call true 101 [(t1 22)])), (o1 24 (.call true 49 [(t1 23), (.const (.v (.int .i64 4)))])), (o1 25 (.move (t1 6))), (o1 26 (.un .not (t1 25))), (o1 27 (.call true 49 [(t1 26), (.const (.v
  (.int .i64 5)))])), (o1 28 (.fieldAddr 1 (t1 5))), (o1 29 (.load false 1 (t1 28))), (o1 30 (.call true 62 [(t1 29), (.const (.v (.int .i64 0))), (.const (.v (.int .i64 50)))])), (o1 31 (.call true
  49 [(t1 30), (.const (.v (.int .i64 2)))])), (o1 32 (.fieldAddr 2 (t1 5))), (o1 33 (.load false 1 (t1 32))), (o1 34 (.len false (t1 33))), (o1 35 (.arith .leq (t1 34) (.const (.v (.int .i64 6))))),
  (o1 36 (.call false 49 [(t1 35), (.const (.v (.int .i64 8)))])), (o1 37 (.buildSlice 1 [[(.v (.int .i64 0))], [(.v (.int .i64 0))], [(.v (.int .i64 0))], [(.v (.int .i64 0))]] [(0, (t1 24)), (1, (t1
  27)), (2, (t1 31)), (3, (t1 36))])), (o1 38 (.call false 83 [(t1 37)])), (o1 7 (.move (t1 38)))]) (.seq (.seq (.region false [(o1 39 (.fieldAddr 2 (t1 5))), (o1 40 (.load false 1 (t1 39))), (o1 41
  (.len false (t1 40))), (o1 42 (.move (.const (.v (.int .i64 0)))))]) (.block 0 (.loop b_s_antennaErr_l0))) b_s_antennaErr_r0)))))
abbrev k_s_antennaErr_0 : List K := [.blk 0, .c b_s_antennaErr_r0]
abbrev f_s_antennaErr := finF [(.tmp 4)] false
def c_s_antennaErr : AFn := .code 2 54 b_s_antennaErr [(.tmp 4)] false
-- 85
def b_s_requestErr_r0 : ACode := (.seq (.region false [(o1 71 (.move (t1 5))), (o1 72 (.fieldAddr 6 (t1 3))), (o1 73 (.load false 1 (t1 72))), (o1 74 (.fieldAddr 5 (t1 3))), (o1 75 (.load false 1 (t1
  74))), (o1 76 (.len false (t1 75))), (o1 77 (.call false 62 [(t1 73), (.const (.v (.int .i64 1))), (t1 76)])), (o1 78 (.call false 49 [(t1 77), (.const (.v (.int .i64 2)))])), (o1 79 (.buildSlice 1
  [[(.v (.int .i64 0))], [(.v (.int .i64 0))]] [(0, (t1 71)), (1, (t1 78))])), (o1 80 (.call false 83 [(t1 79)])), (o1 4 (.move (t1 80)))]) .ret)
def b_s_requestErr_l0 : ACode := (.seq (.region false [(o1 52 (.arith .lss (t1 51) (t1 50)))]) (.seq (.cond (t1 52) .skip (.exit 0)) (.seq (.block 1 (.seq (.region false [(o1 53 (.indexAddr none 1 (t1
  49) (t1 51))), (o1 54 (.load false 1 (t1 53))), (o1 9 (.move (t1 54)))]) (.seq (.region false [(o1 55 (.move (t1 5))), (o1 56 (.move (t1 9))), (o1 57 (.fieldAddr 1 (t1 2))), (o1 58 (.load false 1
  (t1 57))), (o1 59 (.len false (t1 58))), (o1 60 (.arith .sub (t1 59) (.const (.v (.int .i64 1))))), (o1 61 (.call false 62 [(t1 56), (.const (.v (.int .i64 0))), (t1 60)])), (o1 62 (.call false 49
  [(t1 61), (.const (.v (.int .i64 6)))])), (o1 63 (.move (t1 9))), (o1 64 (.move (t1 7))), (o1 65 (.arith .gtr (t1 63) (t1 64))), (o1 66 (.call false 49 [(t1 65), (.const (.v (.int .i64 9)))])), (o1
  67 (.buildSlice 1 [[(.v (.int .i64 0))], [(.v (.int .i64 0))], [(.v (.int .i64 0))]] [(0, (t1 55)), (1, (t1 62)), (2, (t1 66))])), (o1 68 (.call false 83 [(t1 67)])), (o1 5 (.move (t1 68)))])
  (.region false [(o1 69 (.move (t1 9))), (o1 7 (.move (t1 69)))])))) (.region false [(o1 70 (.arith .add (t1 51) (.const (.v (.int .i64 1))))), (o1 51 (.move (t1 70)))]))))
def b_s_requestErr : ACode := (.seq (.region false [(o1 2 (.box 3 (t1 0))), (o1 3 (.box 7 (t1 1))), (o1 4 (.move (.const (.v (.int .i64 0)))))]) (.seq (.region true [(o1 10 (.fieldAddr 0 (t1 3))), (o1
  11 (.load false 1 (t1 10))), (o1 12 (.call true 101 [(t1 11)])), (o1 13 (.call true 49 [(t1 12), (.const (.v (.int .i64 4)))])), (o1 14 (.load true 3 (t1 2))), (o1 15 (.fieldAddr 1 (t1 3))), (o1 16
  (.load true 2 (t1 15))), (o1 17 (.call false 102 [(t1 14), (t1 16)])), (o1 18 (.buildSlice 1 [[(.v (.int .i64 0))], [(.v (.int .i64 0))]] [(0, (t1 13)), (1, (t1 17))])), (o1 19 (.call false 83 [(t1
  18)])), (o1 5 (.move (t1 19)))]) (.seq (.seq (.region false [(o1 20 (.move (t1 5))), (o1 21 (.arith .neq (t1 20) (.const (.v (.int .i64 0)))))]) (.cond (t1 21) (.seq (.region false [(o1 22 (.move
  (t1 5))), (o1 4 (.move (t1 22)))]) .ret) .skip)) (.seq (.region false [(o1 23 (.fieldAddr 3 (t1 3))), (o1 24 (.load false 1 (t1 23))), (o1 25 (.fieldAddr 1 (t1 3))), (o1 26 (.fieldAddr 1 (t1 25))),
  (o1 27 (.load false 1 (t1 26))), (o1 28 (.fieldAddr 1 (t1 3))), (o1 29 (.fieldAddr 0 (t1 28))), (o1 30 (.load false 1 (t1 29))), (o1 31 (.arith .sub (t1 27) (t1 30))), (o1 32 (.arith .add (t1 31)
  (.const (.v (.int .i64 1))))), (o1 33 (.call false 62 [(t1 24), (.const (.v (.int .i64 1))), (t1 32)])), (o1 34 (.move (t1 33))), ⟨(some 35), (some (34, true)), (.fieldAddr 4 (t1 3))⟩, ⟨(some 36),
  (some (34, true)), (.load false 1 (t1 35))⟩, ⟨(some 37), (some (34, true)), (.call false 62 [(t1 36), (.const (.v (.int .i64 0))), (.const (.v (.int .i64 100000)))])⟩, (o1 38 (.pick (t1 34) (t1 37)
  (.const (.v (.bool false))))), (o1 6 (.move (t1 38)))]) (.seq (.region true [(o1 39 (.move (t1 6))), (o1 40 (.call true 49 [(t1 39), (.const (.v (.int .i64 2)))])), (o1 41 (.fieldAddr 5 (t1 3))),
  (o1 42 (.load false 1 (t1 41))), (o1 43 (.len false (t1 42))), (o1 44 (.arith .gtr (t1 43) (.const (.v (.int .i64 0))))), (o1 45 (.call false 49 [(t1 44), (.const (.v (.int .i64 10)))])), (o1 46
  (.buildSlice 1 [[(.v (.int .i64 0))], [(.v (.int .i64 0))]] [(0, (t1 40)), (1, (t1 45))])), (o1 47 (.call false 83 [(t1 46)])), (o1 5 (.move (t1 47)))]) (.seq (.region false [(o1 7 (.move (.const
  (.v (.int .i64 (-1))))))]) (.seq (.seq (.region false [(o1 48 (.fieldAddr 5 (t1 3))), (o1 49 (.load false 1 (t1 48))), (o1 50 (.len false (t1 49))), (o1 51 (.move (.const (.v (.int .i64 0)))))])
  (.block 0 (.loop b_s_requestErr_l0))) b_s_requestErr_r0)))))))
abbrev k_s_requestErr_0 : List K := [.blk 0, .c b_s_requestErr_r0]
abbrev f_s_requestErr := finF [(.tmp 4)] false
def c_s_requestErr : AFn := .code 2 81 b_s_requestErr [(.tmp 4)] false
-- 86
def b_w_possible_1_r0 : ACode := (.seq (.seq (.region false [(o1 62 (.load false 1 (t1 5)))]) (.region false [(o1 5 (.alloc [(.v (.int .i64 0))])), ⟨none, none, (.store 1 (t1 5) (t1 62))⟩])) (.region
  false [(o1 30 (.load false 1 (t1 5))), (o1 31 (.arith .add (t1 30) (.const (.v (.int .i64 1))))), ⟨none, none, (.store 1 (t1 5) (t1 31))⟩]))
def b_w_possible_1_y1 : ACode := (.block 5 (.seq (.region false [(o1 55 (.load false 1 (t1 3))), (o1 56 (.load false 1 (t1 2))), (o1 57 (.load false 1 (t1 5))), (o1 58 (.move (t1 9))), (o1 59 (.build
  [(.v (.int .i64 0)), (.v (.int .i64 0)), (.slice .nilS 0 [])] [(0, (1, (t1 56))), (1, (1, (t1 57))), (2, (1, (t1 58)))])), (o1 60 (.callv false (t1 55) [(t1 59)])), (o1 61 (.un .not (t1 60)))])
  (.cond (t1 61) .ret .skip)))
def b_w_possible_1_a1 : ACode := (.region false [(o1 9 (.move (t1 54)))])
def b_w_possible_1_r1 : ACode := (.seq (.region false [(o1 50 (.move (t1 6))), (o1 51 (.fieldAddr 6 (t1 4))), (o1 52 (.load false 1 (t1 51))), (o1 53 (.call false 88 [(t1 50), (t1 52)]))]) (.block 4
  (.rangeFunc (t1 53) [54] b_w_possible_1_a1 b_w_possible_1_y1)))
def b_w_possible_1_l2 : ACode := (.seq (.region false [(o1 36 (.arith .lss (t1 35) (t1 34)))]) (.seq (.cond (t1 36) .skip (.exit 2)) (.seq (.block 3 (.seq (.region false [(o1 37 (.indexAddr none 1 (t1
  33) (t1 35))), (o1 38 (.load false 1 (t1 37))), (o1 8 (.move (t1 38)))]) (.seq (.region false [(o1 39 (.load false 1 (t1 1))), (o1 40 (.move (t1 8))), (o1 41 (.load false 1 (t1 5))), (o1 42
  (.fieldAddr 3 (t1 4))), (o1 43 (.load false 1 (t1 42))), (o1 44 (.call false 87 [(t1 39), (t1 40), (t1 41), (t1 43)]))]) (.cond (t1 44) (.region false [(o1 45 (.move (t1 6))), (o1 46 (.move (t1
  8))), (o1 47 (.buildSlice 1 [[(.v (.int .i64 0))]] [(0, (t1 46))])), (o1 48 (.append 1 (t1 45) (t1 47))), (o1 6 (.move (t1 48)))]) .skip)))) (.region false [(o1 49 (.arith .add (t1 35) (.const (.v
  (.int .i64 1))))), (o1 35 (.move (t1 49)))]))))
def b_w_possible_1_l0 : ACode := (.seq (.seq (.region false [(o1 21 (.load false 1 (t1 5))), (o1 22 (.fieldAddr 3 (t1 4))), (o1 23 (.load false 1 (t1 22))), (o1 24 (.arith .add (t1 21) (t1 23))), (o1
  25 (.arith .sub (t1 24) (.const (.v (.int .i64 1))))), (o1 26 (.fieldAddr 1 (t1 4))), (o1 27 (.fieldAddr 1 (t1 26))), (o1 28 (.load false 1 (t1 27))), (o1 29 (.arith .leq (t1 25) (t1 28)))]) (.cond
  (t1 29) .skip (.exit 0))) (.seq (.block 1 (.seq (.region false [(o1 6 (.move (.const (.slice .nilS 0 []))))]) (.seq (.seq (.region false [(o1 32 (.fieldAddr 5 (t1 4))), (o1 33 (.load false 1 (t1
  32))), (o1 34 (.len false (t1 33))), (o1 35 (.move (.const (.v (.int .i64 0)))))]) (.block 2 (.loop b_w_possible_1_l2))) b_w_possible_1_r1))) b_w_possible_1_r0))
def b_w_possible_1 : ACode := (.seq (.region false [(o1 3 (.box 1 (t1 0)))]) (.seq (.region true [(o1 10 (.load false 1 (t1 1))), (o1 11 (.nilCheck (t1 10))), (o1 12 (.fieldAddr 0 (t1 11))), (o1 13
  (.fieldAddr 2 (t1 12))), (o1 14 (.load false 1 (t1 13))), (o1 15 (.load false 1 (t1 2))), (o1 16 (.indexAddr none 7 (t1 14) (t1 15))), (o1 17 (.load true 7 (t1 16))), (o1 4 (.alloc [(.v (.string
  ⟨#[]⟩)), (.v (.int .i64 0)), (.v (.int .i64 0)), (.v (.int .i64 0)), (.v (.int .i64 0)), (.slice .nilS 0 []), (.v (.int .i64 0))])), ⟨none, none, (.store 7 (t1 4) (t1 17))⟩]) (.seq (.region false
  [(o1 18 (.fieldAddr 1 (t1 4))), (o1 19 (.fieldAddr 0 (t1 18))), (o1 20 (.load false 1 (t1 19))), (o1 5 (.alloc [(.v (.int .i64 0))])), ⟨none, none, (.store 1 (t1 5) (t1 20))⟩]) (.block 0 (.loop
  b_w_possible_1_l0)))))
abbrev k_w_possible_1_1 : List K := [.blk 4, .blk 1, .c b_w_possible_1_r0, .lp b_w_possible_1_l0, .blk 0]
abbrev k_w_possible_1_2 : List K := [.blk 2, .c b_w_possible_1_r1, .blk 1, .c b_w_possible_1_r0, .lp b_w_possible_1_l0, .blk 0]
abbrev k_w_possible_1_0 : List K := [.blk 0]
abbrev f_w_possible_1 := finF [] false
def c_w_possible_1 : AFn := .code 3 63 b_w_possible_1 [] false
-- 87
def b_w_isOpen : ACode := (.seq (.region false [(o1 8 (.move (.const (.v (.bool false)))))]) (.seq (.region false [(o1 9 (.move (t1 0))), (o1 10 (.move (t1 1))), (o1 11 (.nilCheck (t1 9))), (o1 12
  (.fieldAddr 3 (t1 11))), (o1 13 (.indexAddr (some 4) 200 (t1 12) (t1 10))), (o1 14 (.move (t1 2))), (o1 15 (.move (t1 2))), (o1 16 (.move (t1 3))), (o1 17 (.arith .add (t1 15) (t1 16))), (o1 18
  (.slice (.arr 200 1) (t1 13) (some (t1 14)) (some (t1 17)) none)), (o1 19 (.call false 103 [(t1 18), (.const (.v (.bool true)))])), (o1 20 (.un .not (t1 19))), (o1 8 (.move (t1 20)))]) .ret))
abbrev f_w_isOpen := finF [(.tmp 8)] false
def c_w_isOpen : AFn := .code 4 21 b_w_isOpen [(.tmp 8)] false
-- 88
def b_s_groups : ACode := (.seq (.region false [(o1 2 (.box 1 (t1 0))), (o1 3 (.box 1 (t1 1))), (o1 4 (.move (.const (.v .nilFunc))))]) (.seq (.region false [(o1 5 (.mkFn 104 [] [(t1 3), (t1 2)])),
  (o1 4 (.move (t1 5)))]) .ret))
abbrev f_s_groups := finF [(.tmp 4)] false
def c_s_groups : AFn := .code 2 6 b_s_groups [(.tmp 4)] false
-- 89
def b_z_ContainsFunc_SchedulePass : ACode := (.seq (.region false [(o1 4 (.move (.const (.v (.bool false)))))]) (.seq (.region false [(o1 5 (.move (t1 0))), (o1 6 (.move (t1 1))), (o1 7 (.call false
  56 [(t1 5), (t1 6)])), (o1 8 (.arith .geq (t1 7) (.const (.v (.int .i64 0))))), (o1 4 (.move (t1 8)))]) .ret))
abbrev f_z_ContainsFunc_SchedulePass := finF [(.tmp 4)] false
def c_z_ContainsFunc_SchedulePass : AFn := .code 2 9 b_z_ContainsFunc_SchedulePass [(.tmp 4)] false
-- 90
def b_w_conflicts_1 : ACode := (.seq (.region false [(o1 3 (.box 3 (t1 0))), (o1 4 (.move (.const (.v (.bool false)))))]) (.seq (.region false [(o1 5 (.load false 1 (t1 1))), (o1 6 (.load true 3 (t1
  3))), (o1 7 (.load true 3 (t1 2))), (o1 8 (.call false 91 [(t1 5), (t1 6), (t1 7)])), (o1 4 (.move (t1 8)))]) .ret))
abbrev f_w_conflicts_1 := finF [(.tmp 4)] false
def c_w_conflicts_1 : AFn := .code 3 9 b_w_conflicts_1 [(.tmp 4)] false
-- 91
def b_w_conflict : ACode := (.seq (.region false [(o1 3 (.box 1 (t1 0))), (o1 4 (.box 3 (t1 1))), (o1 5 (.box 3 (t1 2))), (o1 6 (.move (.const (.v (.bool false)))))]) (.seq (.seq (.region false [(o1 8
  (.fieldAddr 0 (t1 4))), (o1 9 (.load false 1 (t1 8))), (o1 10 (.fieldAddr 0 (t1 5))), (o1 11 (.load false 1 (t1 10))), (o1 12 (.arith .eql (t1 9) (t1 11)))]) (.cond (t1 12) (.seq (.region false [(o1
  6 (.move (.const (.v (.bool true)))))]) .ret) .skip)) (.seq (.seq (.region false [(o1 13 (.fieldAddr 1 (t1 5))), (o1 14 (.load false 1 (t1 13))), (o1 15 (.fieldAddr 1 (t1 4))), (o1 16 (.load false 1
  (t1 15))), (o1 17 (.arith .lss (t1 14) (t1 16)))]) (.cond (t1 17) (.region false [(o1 18 (.load true 3 (t1 5))), (o1 19 (.load true 3 (t1 4))), ⟨none, none, (.store 3 (t1 4) (t1 18))⟩, ⟨none, none,
  (.store 3 (t1 5) (t1 19))⟩]) .skip)) (.seq (.region true [(o1 20 (.load false 1 (t1 3))), (o1 21 (.nilCheck (t1 20))), (o1 22 (.fieldAddr 0 (t1 21))), (o1 23 (.fieldAddr 2 (t1 22))), (o1 24 (.load
  false 1 (t1 23))), (o1 25 (.fieldAddr 0 (t1 4))), (o1 26 (.load false 1 (t1 25))), (o1 27 (.indexAddr none 7 (t1 24) (t1 26))), (o1 28 (.fieldAddr 0 (t1 27))), (o1 29 (.load false 1 (t1 28))), (o1
  30 (.load false 1 (t1 3))), (o1 31 (.nilCheck (t1 30))), (o1 32 (.fieldAddr 0 (t1 31))), (o1 33 (.fieldAddr 2 (t1 32))), (o1 34 (.load false 1 (t1 33))), (o1 35 (.fieldAddr 0 (t1 5))), (o1 36 (.load
  false 1 (t1 35))), (o1 37 (.indexAddr none 7 (t1 34) (t1 36))), (o1 38 (.fieldAddr 0 (t1 37))), (o1 39 (.load false 1 (t1 38))), (o1 40 (.arith .eql (t1 29) (t1 39))), (o1 7 (.alloc [(.v (.bool
  false))])), ⟨none, none, (.store 1 (t1 7) (t1 40))⟩]) (.seq (.region false [(o1 41 (.fieldAddr 2 (t1 4))), (o1 42 (.load false 1 (t1 41))), (o1 43 (.mkFn 108 [] [(t1 3), (t1 7), (t1 5), (t1 4)])),
  (o1 44 (.call false 107 [(t1 42), (t1 43)])), (o1 6 (.move (t1 44)))]) .ret)))))
abbrev f_w_conflict := finF [(.tmp 6)] false
def c_w_conflict : AFn := .code 3 45 b_w_conflict [(.tmp 6)] false
-- 92
def b_w_requestErr : ACode := (.seq (.region false [(o1 4 (.move (.const (.v (.int .i64 0)))))]) (.seq (.region false [(o1 5 (.move (t1 1))), (o1 6 (.move (t1 0))), (o1 7 (.nilCheck (t1 6))), (o1 8
  (.fieldAddr 0 (t1 7))), (o1 9 (.fieldAddr 2 (t1 8))), (o1 10 (.load false 1 (t1 9))), (o1 11 (.len false (t1 10))), (o1 12 (.arith .sub (t1 11) (.const (.v (.int .i64 1))))), (o1 13 (.call false 62
  [(t1 5), (.const (.v (.int .i64 0))), (t1 12)])), (o1 14 (.call false 49 [(t1 13), (.const (.v (.int .i64 6)))])), (o1 4 (.move (t1 14)))]) .ret))
abbrev f_w_requestErr := finF [(.tmp 4)] false
def c_w_requestErr : AFn := .code 2 15 b_w_requestErr [(.tmp 4)] false
-- 99
def b_z_ContainsFunc_ScheduleAntenna : ACode := (.seq (.region false [(o1 4 (.move (.const (.v (.bool false)))))]) (.seq (.region false [(o1 5 (.move (t1 0))), (o1 6 (.move (t1 1))), (o1 7 (.call
  false 114 [(t1 5), (t1 6)])), (o1 8 (.arith .geq (t1 7) (.const (.v (.int .i64 0))))), (o1 4 (.move (t1 8)))]) .ret))
abbrev f_z_ContainsFunc_ScheduleAntenna := finF [(.tmp 4)] false
def c_z_ContainsFunc_ScheduleAntenna : AFn := .code 2 9 b_z_ContainsFunc_ScheduleAntenna [(.tmp 4)] false
-- 100
def b_s_antennaErr_1 : ACode := (.seq (.region false [(o1 2 (.box 3 (t1 0))), (o1 3 (.move (.const (.v (.bool false)))))]) (.seq (.region false [(o1 4 (.fieldAddr 0 (t1 2))), (o1 5 (.load false 1 (t1
  4))), (o1 6 (.fieldAddr 0 (t1 1))), (o1 7 (.load false 1 (t1 6))), (o1 8 (.arith .eql (t1 5) (t1 7))), (o1 3 (.move (t1 8)))]) .ret))
abbrev f_s_antennaErr_1 := finF [(.tmp 3)] false
def c_s_antennaErr_1 : AFn := .code 2 9 b_s_antennaErr_1 [(.tmp 3)] false
-- 101
def b_s_isName_r0 : ACode := (.seq (.region false [(o1 47 (.move (t1 0))), (o1 48 (.arith .neq (t1 47) (.const (.v (.string ⟨#[]⟩))))), (o1 49 (.move (t1 48))), ⟨(some 50), (some (49, true)), (.move
  (t1 0))⟩, ⟨(some 51), (some (49, true)), (.len true (t1 50))⟩, ⟨(some 52), (some (49, true)), (.arith .leq (t1 51) (.const (.v (.int .i64 12))))⟩, (o1 53 (.pick (t1 49) (t1 52) (.const (.v (.bool
  false))))), (o1 2 (.move (t1 53)))]) .ret)
def b_s_isName_l0 : ACode := (.seq (.region false [(o1 10 (.arith .lss (t1 9) (t1 8)))]) (.seq (.cond (t1 10) .skip (.exit 0)) (.seq (.block 1 (.seq (.region false [(o1 11 (.move (t1 9))), (o1 12
  (.indexAddr none 1 (t1 7) (t1 9))), (o1 13 (.load false 1 (t1 12))), (o1 3 (.move (t1 11))), (o1 4 (.move (t1 13)))]) (.seq (.region false [(o1 14 (.move (t1 4))), (o1 15 (.arith .geq (t1 14)
  (.const (.v (.int .u8 97))))), (o1 16 (.move (t1 15))), ⟨(some 17), (some (16, true)), (.move (t1 4))⟩, ⟨(some 18), (some (16, true)), (.arith .leq (t1 17) (.const (.v (.int .u8 122))))⟩, (o1 19
  (.pick (t1 16) (t1 18) (.const (.v (.bool false))))), (o1 20 (.move (t1 19))), ⟨(some 21), (some (20, false)), (.move (t1 4))⟩, ⟨(some 22), (some (20, false)), (.arith .geq (t1 21) (.const (.v (.int
  .u8 65))))⟩, ⟨(some 23), (some (20, false)), (.move (t1 22))⟩, ⟨(some 24), (some (23, true)), (.move (t1 4))⟩, ⟨(some 25), (some (23, true)), (.arith .leq (t1 24) (.const (.v (.int .u8 90))))⟩,
  ⟨(some 26), (some (20, false)), (.pick (t1 23) (t1 25) (.const (.v (.bool false))))⟩, (o1 27 (.pick (t1 20) (.const (.v (.bool true))) (t1 26))), (o1 5 (.move (t1 27)))]) (.seq (.region false [(o1
  28 (.move (t1 5))), (o1 29 (.un .not (t1 28))), (o1 30 (.move (t1 29))), ⟨(some 31), (some (30, true)), (.move (t1 3))⟩, ⟨(some 32), (some (30, true)), (.arith .eql (t1 31) (.const (.v (.int .i64
  0))))⟩, ⟨(some 33), (some (30, true)), (.move (t1 32))⟩, ⟨(some 34), (some (33, false)), (.move (t1 4))⟩, ⟨(some 35), (some (33, false)), (.arith .neq (t1 34) (.const (.v (.int .u8 45))))⟩, ⟨(some
  36), (some (33, false)), (.move (t1 35))⟩, ⟨(some 37), (some (36, true)), (.move (t1 4))⟩, ⟨(some 38), (some (36, true)), (.arith .lss (t1 37) (.const (.v (.int .u8 48))))⟩, ⟨(some 39), (some (36,
  true)), (.move (t1 38))⟩, ⟨(some 40), (some (39, false)), (.move (t1 4))⟩, ⟨(some 41), (some (39, false)), (.arith .gtr (t1 40) (.const (.v (.int .u8 57))))⟩, ⟨(some 42), (some (36, true)), (.pick
  (t1 39) (.const (.v (.bool true))) (t1 41))⟩, ⟨(some 43), (some (33, false)), (.pick (t1 36) (t1 42) (.const (.v (.bool false))))⟩, ⟨(some 44), (some (30, true)), (.pick (t1 33) (.const (.v (.bool
  true))) (t1 43))⟩, (o1 45 (.pick (t1 30) (t1 44) (.const (.v (.bool false)))))]) (.cond (t1 45) (.seq (.region false [(o1 2 (.move (.const (.v (.bool false)))))]) .ret) .skip))))) (.region false
  [(o1 46 (.arith .add (t1 9) (.const (.v (.int .i64 1))))), (o1 9 (.move (t1 46)))]))))
def b_s_isName : ACode := (.seq (.region false [(o1 2 (.move (.const (.v (.bool false)))))]) (.seq (.seq (.region false [(o1 6 (.move (t1 0))), (o1 7 (.conv .bytes (t1 6))), (o1 8 (.len false (t1
  7))), (o1 9 (.move (.const (.v (.int .i64 0)))))]) (.block 0 (.loop b_s_isName_l0))) b_s_isName_r0))
abbrev k_s_isName_0 : List K := [.blk 0, .c b_s_isName_r0]
abbrev f_s_isName := finF [(.tmp 2)] false
def c_s_isName : AFn := .code 1 54 b_s_isName [(.tmp 2)] false
-- 102
def b_s_slotsErr : ACode := (.seq (.region false [(o1 2 (.box 3 (t1 0))), (o1 3 (.box 2 (t1 1))), (o1 4 (.move (.const (.v (.int .i64 0)))))]) (.seq (.region false [(o1 6 (.mkFn 115 [] [(t1 2)])), (o1
  5 (.move (t1 6)))]) (.seq (.region true [(o1 7 (.move (t1 5))), (o1 8 (.fieldAddr 0 (t1 3))), (o1 9 (.load false 1 (t1 8))), (o1 10 (.callv true (t1 7) [(t1 9)])), (o1 11 (.move (t1 10))), ⟨(some
  12), (some (11, true)), (.move (t1 5))⟩, ⟨(some 13), (some (11, true)), (.fieldAddr 1 (t1 3))⟩, ⟨(some 14), (some (11, true)), (.load false 1 (t1 13))⟩, ⟨(some 15), (some (11, true)), (.callv true
  (t1 12) [(t1 14)])⟩, (o1 16 (.pick (t1 11) (t1 15) (.const (.v (.bool false))))), (o1 17 (.call true 49 [(t1 16), (.const (.v (.int .i64 2)))])), (o1 18 (.fieldAddr 0 (t1 3))), (o1 19 (.load false 1
  (t1 18))), (o1 20 (.fieldAddr 1 (t1 3))), (o1 21 (.load false 1 (t1 20))), (o1 22 (.arith .leq (t1 19) (t1 21))), (o1 23 (.call false 49 [(t1 22), (.const (.v (.int .i64 9)))])), (o1 24 (.buildSlice
  1 [[(.v (.int .i64 0))], [(.v (.int .i64 0))]] [(0, (t1 17)), (1, (t1 23))])), (o1 25 (.call false 83 [(t1 24)])), (o1 4 (.move (t1 25)))]) .ret)))
abbrev f_s_slotsErr := finF [(.tmp 4)] false
def c_s_slotsErr : AFn := .code 2 26 b_s_slotsErr [(.tmp 4)] false
-- 103
def b_z_Contains_bool : ACode := (.seq (.region false [(o1 4 (.move (.const (.v (.bool false)))))]) (.seq (.region false [(o1 5 (.move (t1 0))), (o1 6 (.move (t1 1))), (o1 7 (.call false 116 [(t1 5),
  (t1 6)])), (o1 8 (.arith .geq (t1 7) (.const (.v (.int .i64 0))))), (o1 4 (.move (t1 8)))]) .ret))
abbrev f_z_Contains_bool := finF [(.tmp 4)] false
def c_z_Contains_bool : AFn := .code 2 9 b_z_Contains_bool [(.tmp 4)] false
-- 104
def b_s_groups_1 : ACode := (.seq (.region false [(o1 3 (.box 1 (t1 0)))]) (.seq (.region false [(o1 4 (.alloc [(.v .nilFunc)]))]) (.seq (.region false [(o1 5 (.mkFn 105 [] [(t1 1), (t1 3), (t1 4)])),
  ⟨none, none, (.store 1 (t1 4) (t1 5))⟩]) (.region false [(o1 6 (.load false 1 (t1 4))), (o1 7 (.load false 1 (t1 2))), (o1 8 (.callv false (t1 6) [(.const (.slice .nilS 0 [])), (t1 7)]))]))))
abbrev f_s_groups_1 := finF [] false
def c_s_groups_1 : AFn := .code 3 9 b_s_groups_1 [] false
-- 105
def b_s_groups_1_1_r0 : ACode := (.seq (.region false [(o1 7 (.move (.const (.v (.bool true)))))]) .ret)
def b_s_groups_1_1_l0 : ACode := (.seq (.region false [(o1 21 (.arith .lss (t1 20) (t1 19)))]) (.seq (.cond (t1 21) .skip (.exit 0)) (.seq (.block 1 (.seq (.region false [(o1 22 (.move (t1 20))), (o1
  23 (.indexAddr none 1 (t1 18) (t1 20))), (o1 24 (.load false 1 (t1 23))), (o1 8 (.move (t1 22))), (o1 9 (.move (t1 24)))]) (.seq (.region true [(o1 25 (.load false 1 (t1 4))), (o1 26 (.move (t1
  0))), (o1 27 (.move (t1 0))), (o1 28 (.len false (t1 27))), (o1 29 (.move (t1 0))), (o1 30 (.len false (t1 29))), (o1 31 (.slice (.sl 1) (t1 26) none (some (t1 28)) (some (t1 30)))), (o1 32 (.move
  (t1 9))), (o1 33 (.buildSlice 1 [[(.v (.int .i64 0))]] [(0, (t1 32))])), (o1 34 (.append 1 (t1 31) (t1 33))), (o1 35 (.move (t1 1))), (o1 36 (.move (t1 8))), (o1 37 (.arith .add (t1 36) (.const (.v
  (.int .i64 1))))), (o1 38 (.slice (.sl 1) (t1 35) (some (t1 37)) none none)), (o1 39 (.callv false (t1 25) [(t1 34), (t1 38)])), (o1 40 (.un .not (t1 39)))]) (.cond (t1 40) (.seq (.region false [(o1
  7 (.move (.const (.v (.bool false)))))]) .ret) .skip)))) (.region false [(o1 41 (.arith .add (t1 20) (.const (.v (.int .i64 1))))), (o1 20 (.move (t1 41)))]))))
def b_s_groups_1_1 : ACode := (.seq (.region false [(o1 7 (.move (.const (.v (.bool false)))))]) (.seq (.seq (.region false [(o1 10 (.move (t1 0))), (o1 11 (.len false (t1 10))), (o1 12 (.load false 1
  (t1 2))), (o1 13 (.arith .eql (t1 11) (t1 12)))]) (.cond (t1 13) (.seq (.region true [(o1 14 (.load false 1 (t1 3))), (o1 15 (.move (t1 0))), (o1 16 (.call true 106 [(t1 15)])), (o1 17 (.callv false
  (t1 14) [(t1 16)])), (o1 7 (.move (t1 17)))]) .ret) .skip)) (.seq (.seq (.region false [(o1 18 (.move (t1 1))), (o1 19 (.len false (t1 18))), (o1 20 (.move (.const (.v (.int .i64 0)))))]) (.block 0
  (.loop b_s_groups_1_1_l0))) b_s_groups_1_1_r0)))
abbrev k_s_groups_1_1_0 : List K := [.blk 0, .c b_s_groups_1_1_r0]
abbrev f_s_groups_1_1 := finF [(.tmp 7)] false
def c_s_groups_1_1 : AFn := .code 5 42 b_s_groups_1_1 [(.tmp 7)] false
-- 106
def b_z_Clone_int : ACode := (.seq (.region false [(o1 2 (.move (.const (.slice .nilS 0 []))))]) (.seq (.seq (.region false [(o1 3 (.move (t1 0))), (o1 4 (.eqv false .slice (t1 3) (.const (.slice
  .nilS 0 []))))]) (.cond (t1 4) (.seq (.region false [(o1 2 (.move (.const (.slice .nilS 0 []))))]) .ret) .skip)) (.seq (.region false [(o1 5 (.buildSlice 1 [] [])), (o1 6 (.move (t1 0))), (o1 7
  (.append 1 (t1 5) (t1 6))), (o1 2 (.move (t1 7)))]) .ret)))
abbrev f_z_Clone_int := finF [(.tmp 2)] true
def c_z_Clone_int : AFn := .code 1 8 b_z_Clone_int [(.tmp 2)] true
-- 107
def b_z_ContainsFunc_int : ACode := (.seq (.region false [(o1 4 (.move (.const (.v (.bool false)))))]) (.seq (.region false [(o1 5 (.move (t1 0))), (o1 6 (.move (t1 1))), (o1 7 (.call false 117 [(t1
  5), (t1 6)])), (o1 8 (.arith .geq (t1 7) (.const (.v (.int .i64 0))))), (o1 4 (.move (t1 8)))]) .ret))
abbrev f_z_ContainsFunc_int := finF [(.tmp 4)] false
def c_z_ContainsFunc_int : AFn := .code 2 9 b_z_ContainsFunc_int [(.tmp 4)] false
-- 108
def b_w_conflict_1 : ACode := (.seq (.region false [(o1 6 (.move (.const (.v (.bool false)))))]) (.seq (.region false [(o1 8 (.load false 1 (t1 1))), (o1 9 (.nilCheck (t1 8))), (o1 10 (.fieldAddr 0
  (t1 9))), (o1 11 (.fieldAddr 1 (t1 10))), (o1 12 (.load false 1 (t1 11))), (o1 13 (.move (t1 0))), (o1 14 (.indexAddr none 3 (t1 12) (t1 13))), (o1 15 (.fieldAddr 1 (t1 14))), (o1 16 (.load false 1
  (t1 15))), (o1 7 (.move (t1 16)))]) (.seq (.seq (.region false [(o1 17 (.load false 1 (t1 2)))]) (.cond (t1 17) (.region false [(o1 7 (.move (.const (.v (.int .i64 0)))))]) .skip)) (.seq (.region
  true [(o1 18 (.fieldAddr 2 (t1 3))), (o1 19 (.load false 1 (t1 18))), (o1 20 (.move (t1 0))), (o1 21 (.call false 41 [(t1 19), (t1 20)])), (o1 22 (.move (t1 21))), ⟨(some 23), (some (22, true)),
  (.fieldAddr 1 (t1 3))⟩, ⟨(some 24), (some (22, true)), (.load false 1 (t1 23))⟩, ⟨(some 25), (some (22, true)), (.load false 1 (t1 1))⟩, ⟨(some 26), (some (22, true)), (.load true 3 (t1 4))⟩, ⟨(some
  27), (some (22, true)), (.call true 42 [(t1 25), (t1 26)])⟩, ⟨(some 28), (some (22, true)), (.arith .sub (t1 24) (t1 27))⟩, ⟨(some 29), (some (22, true)), (.move (t1 7))⟩, ⟨(some 30), (some (22,
  true)), (.arith .lss (t1 28) (t1 29))⟩, (o1 31 (.pick (t1 22) (t1 30) (.const (.v (.bool false))))), (o1 6 (.move (t1 31)))]) .ret))))
abbrev f_w_conflict_1 := finF [(.tmp 6)] false
def c_w_conflict_1 : AFn := .code 5 32 b_w_conflict_1 [(.tmp 6)] false
-- 114
def b_z_IndexFunc_ScheduleAntenna_r0 : ACode := (.seq (.region false [(o1 4 (.move (.const (.v (.int .i64 (-1))))))]) .ret)
def b_z_IndexFunc_ScheduleAntenna_l0 : ACode := (.seq (.region false [(o1 9 (.arith .lss (t1 8) (t1 7)))]) (.seq (.cond (t1 9) .skip (.exit 0)) (.seq (.block 1 (.seq (.region false [(o1 10 (.move (t1
  8))), (o1 5 (.move (t1 10)))]) (.seq (.region false [(o1 11 (.move (t1 1))), (o1 12 (.move (t1 0))), (o1 13 (.move (t1 5))), (o1 14 (.indexAddr none 3 (t1 12) (t1 13))), (o1 15 (.load true 3 (t1
  14))), (o1 16 (.callv false (t1 11) [(t1 15)]))]) (.cond (t1 16) (.seq (.region false [(o1 17 (.move (t1 5))), (o1 4 (.move (t1 17)))]) .ret) .skip)))) (.region false [(o1 18 (.arith .add (t1 8)
  (.const (.v (.int .i64 1))))), (o1 8 (.move (t1 18)))]))))
def b_z_IndexFunc_ScheduleAntenna : ACode := (.seq (.region false [(o1 4 (.move (.const (.v (.int .i64 0)))))]) (.seq (.seq (.region false [(o1 6 (.move (t1 0))), (o1 7 (.len false (t1 6))), (o1 8
  (.move (.const (.v (.int .i64 0)))))]) (.block 0 (.loop b_z_IndexFunc_ScheduleAntenna_l0))) b_z_IndexFunc_ScheduleAntenna_r0))
abbrev k_z_IndexFunc_ScheduleAntenna_0 : List K := [.blk 0, .c b_z_IndexFunc_ScheduleAntenna_r0]
abbrev f_z_IndexFunc_ScheduleAntenna := finF [(.tmp 4)] false
def c_z_IndexFunc_ScheduleAntenna : AFn := .code 2 19 b_z_IndexFunc_ScheduleAntenna [(.tmp 4)] false
-- 115
def b_s_slotsErr_1 : ACode := (.seq (.region false [(o1 3 (.move (.const (.v (.bool false)))))]) (.seq (.region false [(o1 4 (.move (t1 0))), (o1 5 (.fieldAddr 0 (t1 1))), (o1 6 (.load false 1 (t1
  5))), (o1 7 (.arith .sub (t1 6) (.const (.v (.int .i64 1))))), (o1 8 (.call false 62 [(t1 4), (.const (.v (.int .i64 0))), (t1 7)])), (o1 3 (.move (t1 8)))]) .ret))
abbrev f_s_slotsErr_1 := finF [(.tmp 3)] false
def c_s_slotsErr_1 : AFn := .code 2 9 b_s_slotsErr_1 [(.tmp 3)] false
-- 116
def b_z_Index_bool_r0 : ACode := (.seq (.region false [(o1 4 (.move (.const (.v (.int .i64 (-1))))))]) .ret)
def b_z_Index_bool_l0 : ACode := (.seq (.region false [(o1 9 (.arith .lss (t1 8) (t1 7)))]) (.seq (.cond (t1 9) .skip (.exit 0)) (.seq (.block 1 (.seq (.region false [(o1 10 (.move (t1 8))), (o1 5
  (.move (t1 10)))]) (.seq (.region false [(o1 11 (.move (t1 1))), (o1 12 (.move (t1 0))), (o1 13 (.move (t1 5))), (o1 14 (.indexAddr none 1 (t1 12) (t1 13))), (o1 15 (.load false 1 (t1 14))), (o1 16
  (.eqv false .bool (t1 11) (t1 15)))]) (.cond (t1 16) (.seq (.region false [(o1 17 (.move (t1 5))), (o1 4 (.move (t1 17)))]) .ret) .skip)))) (.region false [(o1 18 (.arith .add (t1 8) (.const (.v
  (.int .i64 1))))), (o1 8 (.move (t1 18)))]))))
def b_z_Index_bool : ACode := (.seq (.region false [(o1 4 (.move (.const (.v (.int .i64 0)))))]) (.seq (.seq (.region false [(o1 6 (.move (t1 0))), (o1 7 (.len false (t1 6))), (o1 8 (.move (.const (.v
  (.int .i64 0)))))]) (.block 0 (.loop b_z_Index_bool_l0))) b_z_Index_bool_r0))
abbrev k_z_Index_bool_0 : List K := [.blk 0, .c b_z_Index_bool_r0]
abbrev f_z_Index_bool := finF [(.tmp 4)] false
def c_z_Index_bool : AFn := .code 2 19 b_z_Index_bool [(.tmp 4)] false
-- 117
def b_z_IndexFunc_int_r0 : ACode := (.seq (.region false [(o1 4 (.move (.const (.v (.int .i64 (-1))))))]) .ret)
def b_z_IndexFunc_int_l0 : ACode := (.seq (.region false [(o1 9 (.arith .lss (t1 8) (t1 7)))]) (.seq (.cond (t1 9) .skip (.exit 0)) (.seq (.block 1 (.seq (.region false [(o1 10 (.move (t1 8))), (o1 5
  (.move (t1 10)))]) (.seq (.region false [(o1 11 (.move (t1 1))), (o1 12 (.move (t1 0))), (o1 13 (.move (t1 5))), (o1 14 (.indexAddr none 1 (t1 12) (t1 13))), (o1 15 (.load false 1 (t1 14))), (o1 16
  (.callv false (t1 11) [(t1 15)]))]) (.cond (t1 16) (.seq (.region false [(o1 17 (.move (t1 5))), (o1 4 (.move (t1 17)))]) .ret) .skip)))) (.region false [(o1 18 (.arith .add (t1 8) (.const (.v (.int
  .i64 1))))), (o1 8 (.move (t1 18)))]))))
def b_z_IndexFunc_int : ACode := (.seq (.region false [(o1 4 (.move (.const (.v (.int .i64 0)))))]) (.seq (.seq (.region false [(o1 6 (.move (t1 0))), (o1 7 (.len false (t1 6))), (o1 8 (.move (.const
  (.v (.int .i64 0)))))]) (.block 0 (.loop b_z_IndexFunc_int_l0))) b_z_IndexFunc_int_r0))
abbrev k_z_IndexFunc_int_0 : List K := [.blk 0, .c b_z_IndexFunc_int_r0]
abbrev f_z_IndexFunc_int := finF [(.tmp 4)] false
def c_z_IndexFunc_int : AFn := .code 2 19 b_z_IndexFunc_int [(.tmp 4)] false

def tab : List (Option AFn) := [none, none, none, some c_l_ScheduleAntennas, some c_l_awake, some c_l_Few, some c_l_short, some c_s_FreeOf, some c_r_CopyWeek, some c_r_Copy, some c_s_LoadOf, some
  c_r_PlanErr, some c_b_Within, some c_b_Ranges, some c_r_FreeOf, some c_r_LoadOf, some c_b_Has, some c_s_Best, some c_l_Week, some c_s_ShareOf, some c_s_FormatPlan, some c_b_Whole, some
  c_s_openAntenna, some c_w_occupied, some c_b_CopyRanges, some c_b_CopyInts, some c_s_share, some c_w_openSlots, some c_r_WeekErr, some c_r_CheckPlan, some c_r_closed, some c_r_taken, some
  c_b_Lowest, some c_s_openSmall, some c_w_free, some c_c_best, some c_s_openPlan, some c_s_passOf, some pItoa, some pJoin, some c_w_antennaErr, some c_z_Contains_int, some c_w_end, some
  c_r_CheckWeek, some c_r_passErr, some c_b_Gcd, some c_s_open, some c_s_openSmall_1, some c_z_ContainsFunc_ScheduleRequest, some c_s_unless, some c_w_placements, some c_c_worth, some c_c_isPermitted,
  some c_c_fits, some c_c_next, some c_w_check, some c_z_IndexFunc_SchedulePass, some c_s_passOf_1, none, none, none, none, some c_s_within, some c_z_Index_int, some c_r_antennaErr, some
  c_r_requestErr, some c_r_shut, some c_r_Conflict, some c_b_Size, some c_s_CheckWeek, some c_z_IndexFunc_ScheduleRequest, some c_w_possible, some c_w_conflicts, some c_s_members, some c_w_without,
  some c_w_fit, some c_z_Clone_SchedulePass, some c_w_passErr, none, none, none, some c_b_IsName, some c_r_slotsErr, some c_s_first, some c_s_antennaErr, some c_s_requestErr, some c_w_possible_1, some
  c_w_isOpen, some c_s_groups, some c_z_ContainsFunc_SchedulePass, some c_w_conflicts_1, some c_w_conflict, some c_w_requestErr, none, none, none, none, none, none, some
  c_z_ContainsFunc_ScheduleAntenna, some c_s_antennaErr_1, some c_s_isName, some c_s_slotsErr, some c_z_Contains_bool, some c_s_groups_1, some c_s_groups_1_1, some c_z_Clone_int, some
  c_z_ContainsFunc_int, some c_w_conflict_1, none, none, none, none, none, some c_z_IndexFunc_ScheduleAntenna, some c_s_slotsErr_1, some c_z_Index_bool, some c_z_IndexFunc_int]
def AP : FuncId → Option AFn := fun f => (tab[f]?).join

end Go.Ax.Sx.Sc
