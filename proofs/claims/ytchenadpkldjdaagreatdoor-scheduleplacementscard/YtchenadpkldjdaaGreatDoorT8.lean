/- The codes of the functions, as compFn gives them. -/
import Derived.Test.YtchenadpkldjdaaGreatDoorT7
namespace Go.Ax.Sx.Sc
open Go.Ax

-- 3
def b_l_SchedulePlacements_r0 : ACode := (.seq (.region false [⟨(some 6), none, (.move (.const (.v (.bool true))))⟩]) .ret)
def b_l_SchedulePlacements_r1 : ACode := (.region false [⟨(some 83), none, (.move (.tmp 11))⟩, ⟨(some 84), none, (.arith .add (.tmp 83) (.const (.v (.int .i64 1))))⟩, ⟨(some 11), none, (.move (.tmp
  84))⟩])
def b_l_SchedulePlacements_r2 : ACode := (.seq (.region false [⟨(some 107), none, (.move (.tmp 12))⟩, ⟨(some 108), none, (.len false (.tmp 107))⟩, ⟨(some 14), none, (.move (.tmp 108))⟩]) (.seq
  (.region false [⟨(some 109), none, (.move (.tmp 12))⟩, ⟨(some 110), none, (.move (.tmp 10))⟩, ⟨(some 111), none, (.move (.tmp 11))⟩, ⟨(some 112), none, (.indexAddr none 3 (.tmp 110) (.tmp 111))⟩,
  ⟨(some 113), none, (.load true 3 (.tmp 112))⟩, ⟨(some 114), none, (.buildSlice 3 [[(.v (.int .i64 0)), (.v (.int .i64 0)), (.slice .nilS 0 [])]] [(0, (.tmp 113))])⟩, ⟨(some 115), none, (.append 3
  (.tmp 109) (.tmp 114))⟩, ⟨(some 12), none, (.move (.tmp 115))⟩]) (.seq (.region false [⟨(some 116), none, (.move (.tmp 12))⟩, ⟨(some 117), none, (.move (.tmp 1))⟩, ⟨(some 118), none, (.move (.tmp
  14))⟩, ⟨(some 119), none, (.slice (.sl 3) (.tmp 117) (some (.tmp 118)) none none)⟩, ⟨(some 120), none, (.append 3 (.tmp 116) (.tmp 119))⟩, ⟨(some 12), none, (.move (.tmp 120))⟩]) (.seq (.region
  false [⟨(some 122), none, (.load true 3 (.tmp 3))⟩, ⟨(some 123), none, (.call false 8 [(.tmp 122)])⟩, ⟨(some 124), none, (.move (.tmp 12))⟩, ⟨(some 125), none, (.call false 9 [(.tmp 124)])⟩, ⟨(some
  126), none, (.call false 15 [(.tmp 123), (.tmp 125)])⟩, ⟨(some 121), none, (.move (.tmp 126))⟩, ⟨(some 127), none, (.extract 0 (.tmp 121))⟩, ⟨(some 128), none, (.extract 1 (.tmp 121))⟩, ⟨(some 15),
  none, (.move (.tmp 127))⟩, ⟨(some 16), none, (.move (.tmp 128))⟩]) (.seq (.region false [⟨(some 129), none, (.move (.tmp 16))⟩, ⟨(some 130), none, (.arith .neq (.tmp 129) (.const (.v (.int .i64
  0))))⟩]) (.cond (.tmp 130) (.seq (.region false [⟨(some 6), none, (.move (.const (.v (.bool false))))⟩]) .ret) .skip))))))
def b_l_SchedulePlacements_l1 : ACode := (.seq (.seq (.region false [⟨(some 85), none, (.move (.tmp 13))⟩, ⟨(some 86), none, (.move (.tmp 1))⟩, ⟨(some 87), none, (.len false (.tmp 86))⟩, ⟨(some 88),
  none, (.arith .lss (.tmp 85) (.tmp 87))⟩, ⟨(some 89), none, (.move (.tmp 88))⟩, ⟨(some 90), (some (89, true)), (.move (.tmp 1))⟩, ⟨(some 91), (some (89, true)), (.move (.tmp 13))⟩, ⟨(some 92), (some
  (89, true)), (.indexAddr none 3 (.tmp 90) (.tmp 91))⟩, ⟨(some 93), (some (89, true)), (.fieldAddr 0 (.tmp 92))⟩, ⟨(some 94), (some (89, true)), (.load false 1 (.tmp 93))⟩, ⟨(some 95), (some (89,
  true)), (.move (.tmp 2))⟩, ⟨(some 96), (some (89, true)), (.arith .lss (.tmp 94) (.tmp 95))⟩, ⟨(some 97), none, (.pick (.tmp 89) (.tmp 96) (.const (.v (.bool false))))⟩]) (.cond (.tmp 97) .skip
  (.exit 2))) (.seq (.block 3 (.region false [⟨(some 100), none, (.move (.tmp 12))⟩, ⟨(some 101), none, (.move (.tmp 1))⟩, ⟨(some 102), none, (.move (.tmp 13))⟩, ⟨(some 103), none, (.indexAddr none 3
  (.tmp 101) (.tmp 102))⟩, ⟨(some 104), none, (.load true 3 (.tmp 103))⟩, ⟨(some 105), none, (.buildSlice 3 [[(.v (.int .i64 0)), (.v (.int .i64 0)), (.slice .nilS 0 [])]] [(0, (.tmp 104))])⟩, ⟨(some
  106), none, (.append 3 (.tmp 100) (.tmp 105))⟩, ⟨(some 12), none, (.move (.tmp 106))⟩])) (.region false [⟨(some 98), none, (.move (.tmp 13))⟩, ⟨(some 99), none, (.arith .add (.tmp 98) (.const (.v
  (.int .i64 1))))⟩, ⟨(some 13), none, (.move (.tmp 99))⟩])))
def b_l_SchedulePlacements_l0 : ACode := (.seq (.seq (.region false [⟨(some 75), none, (.move (.tmp 11))⟩, ⟨(some 76), none, (.move (.tmp 10))⟩, ⟨(some 77), none, (.len false (.tmp 76))⟩, ⟨(some 78),
  none, (.arith .lss (.tmp 75) (.tmp 77))⟩, ⟨(some 79), none, (.move (.tmp 78))⟩, ⟨(some 80), (some (79, true)), (.move (.tmp 11))⟩, ⟨(some 81), (some (79, true)), (.arith .lss (.tmp 80) (.const (.v
  (.int .i64 20))))⟩, ⟨(some 82), none, (.pick (.tmp 79) (.tmp 81) (.const (.v (.bool false))))⟩]) (.cond (.tmp 82) .skip (.exit 0))) (.seq (.block 1 (.seq (.region false [⟨(some 12), none, (.move
  (.const (.slice .nilS 0 [])))⟩]) (.seq (.seq (.region false [⟨(some 13), none, (.move (.const (.v (.int .i64 0))))⟩]) (.block 2 (.loop b_l_SchedulePlacements_l1))) b_l_SchedulePlacements_r2)))
  b_l_SchedulePlacements_r1))
def b_l_SchedulePlacements : ACode := (.seq (.region false [⟨(some 3), none, (.box 3 (.tmp 0))⟩, ⟨(some 6), none, (.move (.const (.v (.bool false))))⟩]) (.seq (.seq (.region false [⟨(some 17), none,
  (.call false 4 [])⟩, ⟨(some 18), none, (.un .not (.tmp 17))⟩]) (.cond (.tmp 18) (.seq (.region false [⟨(some 6), none, (.move (.const (.v (.bool false))))⟩]) .ret) .skip)) (.seq (.seq (.region false
  [⟨(some 19), none, (.load true 3 (.tmp 3))⟩, ⟨(some 20), none, (.call false 5 [(.tmp 19)])⟩, ⟨(some 21), none, (.un .not (.tmp 20))⟩, ⟨(some 22), none, (.move (.tmp 21))⟩, ⟨(some 23), (some (22,
  false)), (.move (.tmp 1))⟩, ⟨(some 24), (some (22, false)), (.call false 6 [(.tmp 23)])⟩, ⟨(some 25), (some (22, false)), (.un .not (.tmp 24))⟩, ⟨(some 26), none, (.pick (.tmp 22) (.const (.v (.bool
  true))) (.tmp 25))⟩]) (.cond (.tmp 26) (.seq (.region false [⟨(some 6), none, (.move (.const (.v (.bool true))))⟩]) .ret) .skip)) (.seq (.region false [⟨(some 28), none, (.load true 3 (.tmp 3))⟩,
  ⟨(some 29), none, (.call false 8 [(.tmp 28)])⟩, ⟨(some 30), none, (.move (.tmp 1))⟩, ⟨(some 31), none, (.call false 9 [(.tmp 30)])⟩, ⟨(some 32), none, (.move (.tmp 2))⟩, ⟨(some 33), none, (.call
  false 7 [(.tmp 29), (.tmp 31), (.tmp 32)])⟩, ⟨(some 27), none, (.move (.tmp 33))⟩, ⟨(some 34), none, (.extract 0 (.tmp 27))⟩, ⟨(some 35), none, (.extract 1 (.tmp 27))⟩, ⟨(some 7), none, (.move (.tmp
  34))⟩, ⟨(some 8), none, (.move (.tmp 35))⟩]) (.seq (.region false [⟨(some 36), none, (.load true 3 (.tmp 3))⟩, ⟨(some 37), none, (.move (.tmp 1))⟩, ⟨(some 38), none, (.call false 10 [(.tmp 36),
  (.tmp 37)])⟩, ⟨(some 9), none, (.move (.tmp 38))⟩]) (.seq (.seq (.region false [⟨(some 39), none, (.move (.tmp 9))⟩, ⟨(some 40), none, (.arith .eql (.tmp 39) (.const (.v (.int .i64 0))))⟩]) (.cond
  (.tmp 40) (.region false [⟨(some 41), none, (.load true 3 (.tmp 3))⟩, ⟨(some 42), none, (.move (.tmp 2))⟩, ⟨(some 43), none, (.buildSlice 1 [[(.v (.int .i64 0))]] [(0, (.tmp 42))])⟩, ⟨(some 44),
  none, (.call false 11 [(.tmp 41), (.tmp 43)])⟩, ⟨(some 9), none, (.move (.tmp 44))⟩]) .skip)) (.seq (.seq (.region false [⟨(some 45), none, (.move (.tmp 9))⟩, ⟨(some 46), none, (.arith .eql (.tmp
  45) (.const (.v (.int .i64 0))))⟩, ⟨(some 47), none, (.move (.tmp 46))⟩, ⟨(some 48), (some (47, true)), (.move (.tmp 1))⟩, ⟨(some 49), (some (47, true)), (.move (.tmp 2))⟩, ⟨(some 50), (some (47,
  true)), (.call false 12 [(.tmp 48), (.tmp 49)])⟩, ⟨(some 51), (some (47, true)), (.arith .geq (.tmp 50) (.const (.v (.int .i64 0))))⟩, ⟨(some 52), none, (.pick (.tmp 47) (.tmp 51) (.const (.v (.bool
  false))))⟩]) (.cond (.tmp 52) (.region false [⟨(some 9), none, (.move (.const (.v (.int .i64 25))))⟩]) .skip)) (.seq (.seq (.region false [⟨(some 53), none, (.move (.tmp 9))⟩, ⟨(some 54), none,
  (.arith .neq (.tmp 53) (.const (.v (.int .i64 0))))⟩]) (.cond (.tmp 54) (.seq (.region false [⟨(some 55), none, (.move (.tmp 8))⟩, ⟨(some 56), none, (.move (.tmp 9))⟩, ⟨(some 57), none, (.arith .eql
  (.tmp 55) (.tmp 56))⟩, ⟨(some 58), none, (.move (.tmp 57))⟩, ⟨(some 59), (some (58, true)), (.move (.tmp 7))⟩, ⟨(some 60), (some (58, true)), (.len false (.tmp 59))⟩, ⟨(some 61), (some (58, true)),
  (.arith .eql (.tmp 60) (.const (.v (.int .i64 0))))⟩, ⟨(some 62), none, (.pick (.tmp 58) (.tmp 61) (.const (.v (.bool false))))⟩, ⟨(some 6), none, (.move (.tmp 62))⟩]) .ret) .skip)) (.seq (.region
  false [⟨(some 63), none, (.load true 3 (.tmp 3))⟩, ⟨(some 64), none, (.move (.tmp 1))⟩, ⟨(some 65), none, (.move (.tmp 2))⟩, ⟨(some 66), none, (.call false 13 [(.tmp 63), (.tmp 64), (.tmp 65)])⟩,
  ⟨(some 10), none, (.move (.tmp 66))⟩]) (.seq (.seq (.region false [⟨(some 67), none, (.move (.tmp 8))⟩, ⟨(some 68), none, (.arith .neq (.tmp 67) (.const (.v (.int .i64 0))))⟩, ⟨(some 69), none,
  (.move (.tmp 68))⟩, ⟨(some 70), (some (69, false)), (.move (.tmp 7))⟩, ⟨(some 71), (some (69, false)), (.move (.tmp 10))⟩, ⟨(some 72), (some (69, false)), (.call false 14 [(.tmp 70), (.tmp 71)])⟩,
  ⟨(some 73), (some (69, false)), (.un .not (.tmp 72))⟩, ⟨(some 74), none, (.pick (.tmp 69) (.const (.v (.bool true))) (.tmp 73))⟩]) (.cond (.tmp 74) (.seq (.region false [⟨(some 6), none, (.move
  (.const (.v (.bool false))))⟩]) .ret) .skip)) (.seq (.seq (.region false [⟨(some 11), none, (.move (.const (.v (.int .i64 0))))⟩]) (.block 0 (.loop b_l_SchedulePlacements_l0)))
  b_l_SchedulePlacements_r0)))))))))))
abbrev k_l_SchedulePlacements_1 : List K := [.blk 2, .c b_l_SchedulePlacements_r2, .blk 1, .c b_l_SchedulePlacements_r1, .lp b_l_SchedulePlacements_l0, .blk 0, .c b_l_SchedulePlacements_r0]
abbrev k_l_SchedulePlacements_0 : List K := [.blk 0, .c b_l_SchedulePlacements_r0]
abbrev f_l_SchedulePlacements := finF [(.tmp 6)] false
def c_l_SchedulePlacements : AFn := .code 3 131 b_l_SchedulePlacements [(.tmp 6)] false
-- 4
def b_l_awake : ACode := (.seq (.region false [⟨(some 0), none, (.move (.const (.v (.bool false))))⟩]) (.seq (.region false [⟨(some 7), none, (.call false 17 [])⟩, ⟨(some 8), none, (.call false 16
  [(.tmp 7)])⟩, ⟨(some 6), none, (.move (.tmp 8))⟩, ⟨(some 9), none, (.extract 0 (.tmp 6))⟩, ⟨(some 10), none, (.extract 1 (.tmp 6))⟩, ⟨(some 11), none, (.extract 2 (.tmp 6))⟩, ⟨(some 1), none, (.move
  (.tmp 9))⟩, ⟨(some 2), none, (.move (.tmp 10))⟩, ⟨(some 3), none, (.move (.tmp 11))⟩]) (.seq (.region false [⟨(some 13), none, (.call false 17 [])⟩, ⟨(some 14), none, (.move (.tmp 1))⟩, ⟨(some 15),
  none, (.call false 18 [(.tmp 13), (.tmp 14), (.const (.v (.string ⟨#[109, 97, 114, 115]⟩)))])⟩, ⟨(some 12), none, (.move (.tmp 15))⟩, ⟨(some 16), none, (.extract 0 (.tmp 12))⟩, ⟨(some 17), none,
  (.extract 1 (.tmp 12))⟩, ⟨(some 4), none, (.alloc [(.v (.int .i64 0)), (.v (.int .i64 0))])⟩, ⟨none, none, (.store 2 (.tmp 4) (.tmp 16))⟩, ⟨(some 5), none, (.move (.tmp 17))⟩]) (.seq (.region true
  [⟨(some 18), none, (.move (.tmp 3))⟩, ⟨(some 19), none, (.arith .eql (.tmp 18) (.const (.v (.int .i64 0))))⟩, ⟨(some 20), none, (.move (.tmp 19))⟩, ⟨(some 21), (some (20, true)), (.move (.tmp 2))⟩,
  ⟨(some 22), (some (20, true)), (.arith .eql (.tmp 21) (.const (.v (.int .i64 23))))⟩, ⟨(some 23), none, (.pick (.tmp 20) (.tmp 22) (.const (.v (.bool false))))⟩, ⟨(some 24), none, (.move (.tmp
  23))⟩, ⟨(some 25), (some (24, true)), (.move (.tmp 1))⟩, ⟨(some 26), (some (24, true)), (.call false 19 [(.tmp 25)])⟩, ⟨(some 27), (some (24, true)), (.arith .eql (.tmp 26) (.const (.v (.string
  ⟨#[48, 64, 48, 43, 48, 32, 49, 64, 48, 43, 49, 32, 50, 64, 53, 43, 48, 43, 49]⟩))))⟩, ⟨(some 28), none, (.pick (.tmp 24) (.tmp 27) (.const (.v (.bool false))))⟩, ⟨(some 29), none, (.move (.tmp
  28))⟩, ⟨(some 30), (some (29, true)), (.move (.tmp 5))⟩, ⟨(some 31), (some (29, true)), (.arith .eql (.tmp 30) (.const (.v (.int .i64 0))))⟩, ⟨(some 32), none, (.pick (.tmp 29) (.tmp 31) (.const (.v
  (.bool false))))⟩, ⟨(some 33), none, (.move (.tmp 32))⟩, ⟨(some 34), (some (33, true)), (.load true 2 (.tmp 4))⟩, ⟨(some 35), (some (33, true)), (.call true 20 [(.const (.v (.int .i64 1)))])⟩,
  ⟨(some 36), (some (33, true)), (.eqv false (.agg [.int, .int]) (.tmp 34) (.tmp 35))⟩, ⟨(some 37), none, (.pick (.tmp 33) (.tmp 36) (.const (.v (.bool false))))⟩, ⟨(some 0), none, (.move (.tmp
  37))⟩]) .ret))))
abbrev f_l_awake := finF [(.tmp 0)] false
def c_l_awake : AFn := .code 0 38 b_l_awake [(.tmp 0)] false
-- 5
def b_l_Few_r0 : ACode := (.seq (.region false [⟨(some 2), none, (.move (.const (.v (.bool true))))⟩]) .ret)
def b_l_Few_l0 : ACode := (.seq (.seq (.region false [⟨(some 40), none, (.move (.tmp 4))⟩, ⟨(some 41), none, (.fieldAddr 2 (.tmp 1))⟩, ⟨(some 42), none, (.load false 1 (.tmp 41))⟩, ⟨(some 43), none,
  (.len false (.tmp 42))⟩, ⟨(some 44), none, (.arith .lss (.tmp 40) (.tmp 43))⟩]) (.cond (.tmp 44) .skip (.exit 2))) (.seq (.block 3 (.seq (.region false [⟨(some 47), none, (.fieldAddr 2 (.tmp 1))⟩,
  ⟨(some 48), none, (.load false 1 (.tmp 47))⟩, ⟨(some 49), none, (.move (.tmp 4))⟩, ⟨(some 50), none, (.indexAddr none 7 (.tmp 48) (.tmp 49))⟩, ⟨(some 51), none, (.fieldAddr 0 (.tmp 50))⟩, ⟨(some
  52), none, (.load false 1 (.tmp 51))⟩, ⟨(some 53), none, (.len true (.tmp 52))⟩, ⟨(some 54), none, (.arith .gtr (.tmp 53) (.const (.v (.int .i64 20))))⟩, ⟨(some 55), none, (.move (.tmp 54))⟩, ⟨(some
  56), (some (55, false)), (.fieldAddr 2 (.tmp 1))⟩, ⟨(some 57), (some (55, false)), (.load false 1 (.tmp 56))⟩, ⟨(some 58), (some (55, false)), (.move (.tmp 4))⟩, ⟨(some 59), (some (55, false)),
  (.indexAddr none 7 (.tmp 57) (.tmp 58))⟩, ⟨(some 60), (some (55, false)), (.fieldAddr 5 (.tmp 59))⟩, ⟨(some 61), (some (55, false)), (.load false 1 (.tmp 60))⟩, ⟨(some 62), (some (55, false)), (.len
  false (.tmp 61))⟩, ⟨(some 63), (some (55, false)), (.arith .gtr (.tmp 62) (.const (.v (.int .i64 6))))⟩, ⟨(some 64), none, (.pick (.tmp 55) (.const (.v (.bool true))) (.tmp 63))⟩]) (.cond (.tmp 64)
  (.seq (.region false [⟨(some 2), none, (.move (.const (.v (.bool false))))⟩]) .ret) .skip))) (.region false [⟨(some 45), none, (.move (.tmp 4))⟩, ⟨(some 46), none, (.arith .add (.tmp 45) (.const (.v
  (.int .i64 1))))⟩, ⟨(some 4), none, (.move (.tmp 46))⟩])))
def b_l_Few_r1 : ACode := (.seq (.seq (.region false [⟨(some 4), none, (.move (.const (.v (.int .i64 0))))⟩]) (.block 2 (.loop b_l_Few_l0))) b_l_Few_r0)
def b_l_Few_l1 : ACode := (.seq (.seq (.region false [⟨(some 15), none, (.move (.tmp 3))⟩, ⟨(some 16), none, (.fieldAddr 1 (.tmp 1))⟩, ⟨(some 17), none, (.load false 1 (.tmp 16))⟩, ⟨(some 18), none,
  (.len false (.tmp 17))⟩, ⟨(some 19), none, (.arith .lss (.tmp 15) (.tmp 18))⟩]) (.cond (.tmp 19) .skip (.exit 0))) (.seq (.block 1 (.seq (.region false [⟨(some 22), none, (.fieldAddr 1 (.tmp 1))⟩,
  ⟨(some 23), none, (.load false 1 (.tmp 22))⟩, ⟨(some 24), none, (.move (.tmp 3))⟩, ⟨(some 25), none, (.indexAddr none 3 (.tmp 23) (.tmp 24))⟩, ⟨(some 26), none, (.fieldAddr 0 (.tmp 25))⟩, ⟨(some
  27), none, (.load false 1 (.tmp 26))⟩, ⟨(some 28), none, (.len true (.tmp 27))⟩, ⟨(some 29), none, (.arith .gtr (.tmp 28) (.const (.v (.int .i64 20))))⟩, ⟨(some 30), none, (.move (.tmp 29))⟩, ⟨(some
  31), (some (30, false)), (.fieldAddr 1 (.tmp 1))⟩, ⟨(some 32), (some (30, false)), (.load false 1 (.tmp 31))⟩, ⟨(some 33), (some (30, false)), (.move (.tmp 3))⟩, ⟨(some 34), (some (30, false)),
  (.indexAddr none 3 (.tmp 32) (.tmp 33))⟩, ⟨(some 35), (some (30, false)), (.fieldAddr 2 (.tmp 34))⟩, ⟨(some 36), (some (30, false)), (.load false 1 (.tmp 35))⟩, ⟨(some 37), (some (30, false)), (.len
  false (.tmp 36))⟩, ⟨(some 38), (some (30, false)), (.arith .gtr (.tmp 37) (.const (.v (.int .i64 8))))⟩, ⟨(some 39), none, (.pick (.tmp 30) (.const (.v (.bool true))) (.tmp 38))⟩]) (.cond (.tmp 39)
  (.seq (.region false [⟨(some 2), none, (.move (.const (.v (.bool false))))⟩]) .ret) .skip))) (.region false [⟨(some 20), none, (.move (.tmp 3))⟩, ⟨(some 21), none, (.arith .add (.tmp 20) (.const (.v
  (.int .i64 1))))⟩, ⟨(some 3), none, (.move (.tmp 21))⟩])))
def b_l_Few : ACode := (.seq (.region false [⟨(some 1), none, (.box 3 (.tmp 0))⟩, ⟨(some 2), none, (.move (.const (.v (.bool false))))⟩]) (.seq (.seq (.region false [⟨(some 5), none, (.fieldAddr 1
  (.tmp 1))⟩, ⟨(some 6), none, (.load false 1 (.tmp 5))⟩, ⟨(some 7), none, (.len false (.tmp 6))⟩, ⟨(some 8), none, (.arith .gtr (.tmp 7) (.const (.v (.int .i64 6))))⟩, ⟨(some 9), none, (.move (.tmp
  8))⟩, ⟨(some 10), (some (9, false)), (.fieldAddr 2 (.tmp 1))⟩, ⟨(some 11), (some (9, false)), (.load false 1 (.tmp 10))⟩, ⟨(some 12), (some (9, false)), (.len false (.tmp 11))⟩, ⟨(some 13), (some
  (9, false)), (.arith .gtr (.tmp 12) (.const (.v (.int .i64 14))))⟩, ⟨(some 14), none, (.pick (.tmp 9) (.const (.v (.bool true))) (.tmp 13))⟩]) (.cond (.tmp 14) (.seq (.region false [⟨(some 2), none,
  (.move (.const (.v (.bool false))))⟩]) .ret) .skip)) (.seq (.seq (.region false [⟨(some 3), none, (.move (.const (.v (.int .i64 0))))⟩]) (.block 0 (.loop b_l_Few_l1))) b_l_Few_r1)))
abbrev k_l_Few_0 : List K := [.blk 2, .c b_l_Few_r0]
abbrev k_l_Few_1 : List K := [.blk 0, .c b_l_Few_r1]
abbrev f_l_Few := finF [(.tmp 2)] false
def c_l_Few : AFn := .code 1 65 b_l_Few [(.tmp 2)] false
-- 6
def b_l_short_r0 : ACode := (.seq (.region false [⟨(some 2), none, (.move (.const (.v (.bool true))))⟩]) .ret)
def b_l_short_l0 : ACode := (.seq (.seq (.region false [⟨(some 7), none, (.move (.tmp 3))⟩, ⟨(some 8), none, (.move (.tmp 0))⟩, ⟨(some 9), none, (.len false (.tmp 8))⟩, ⟨(some 10), none, (.arith .lss
  (.tmp 7) (.tmp 9))⟩]) (.cond (.tmp 10) .skip (.exit 0))) (.seq (.block 1 (.seq (.region false [⟨(some 13), none, (.move (.tmp 0))⟩, ⟨(some 14), none, (.move (.tmp 3))⟩, ⟨(some 15), none, (.indexAddr
  none 3 (.tmp 13) (.tmp 14))⟩, ⟨(some 16), none, (.fieldAddr 2 (.tmp 15))⟩, ⟨(some 17), none, (.load false 1 (.tmp 16))⟩, ⟨(some 18), none, (.len false (.tmp 17))⟩, ⟨(some 19), none, (.arith .gtr
  (.tmp 18) (.const (.v (.int .i64 6))))⟩]) (.cond (.tmp 19) (.seq (.region false [⟨(some 2), none, (.move (.const (.v (.bool false))))⟩]) .ret) .skip))) (.region false [⟨(some 11), none, (.move (.tmp
  3))⟩, ⟨(some 12), none, (.arith .add (.tmp 11) (.const (.v (.int .i64 1))))⟩, ⟨(some 3), none, (.move (.tmp 12))⟩])))
def b_l_short : ACode := (.seq (.region false [⟨(some 2), none, (.move (.const (.v (.bool false))))⟩]) (.seq (.seq (.region false [⟨(some 4), none, (.move (.tmp 0))⟩, ⟨(some 5), none, (.len false
  (.tmp 4))⟩, ⟨(some 6), none, (.arith .gtr (.tmp 5) (.const (.v (.int .i64 14))))⟩]) (.cond (.tmp 6) (.seq (.region false [⟨(some 2), none, (.move (.const (.v (.bool false))))⟩]) .ret) .skip)) (.seq
  (.seq (.region false [⟨(some 3), none, (.move (.const (.v (.int .i64 0))))⟩]) (.block 0 (.loop b_l_short_l0))) b_l_short_r0)))
abbrev k_l_short_0 : List K := [.blk 0, .c b_l_short_r0]
abbrev f_l_short := finF [(.tmp 2)] false
def c_l_short : AFn := .code 1 20 b_l_short [(.tmp 2)] false
-- 7
def b_s_Placements : ACode := (.seq (.region false [⟨(some 3), none, (.box 3 (.tmp 0))⟩, ⟨(some 6), none, (.move (.const (.slice .nilS 0 [])))⟩, ⟨(some 7), none, (.move (.const (.v (.int .i64 0))))⟩])
  (.seq (.region false [⟨(some 15), none, (.load true 3 (.tmp 3))⟩, ⟨(some 16), none, (.move (.tmp 1))⟩, ⟨(some 17), none, (.call false 21 [(.tmp 15), (.tmp 16)])⟩, ⟨(some 14), none, (.move (.tmp
  17))⟩, ⟨(some 18), none, (.extract 0 (.tmp 14))⟩, ⟨(some 19), none, (.extract 1 (.tmp 14))⟩, ⟨(some 20), none, (.extract 2 (.tmp 14))⟩, ⟨(some 8), none, (.move (.tmp 18))⟩, ⟨(some 9), none, (.move
  (.tmp 19))⟩, ⟨(some 10), none, (.move (.tmp 20))⟩]) (.seq (.seq (.region false [⟨(some 21), none, (.move (.tmp 10))⟩, ⟨(some 22), none, (.arith .neq (.tmp 21) (.const (.v (.int .i64 0))))⟩]) (.cond
  (.tmp 22) (.seq (.region false [⟨(some 23), none, (.move (.tmp 10))⟩, ⟨(some 6), none, (.move (.const (.slice .nilS 0 [])))⟩, ⟨(some 7), none, (.move (.tmp 23))⟩]) .ret) .skip)) (.seq (.region false
  [⟨(some 25), none, (.move (.tmp 1))⟩, ⟨(some 26), none, (.move (.tmp 2))⟩, ⟨(some 27), none, (.call false 22 [(.tmp 25), (.tmp 26)])⟩, ⟨(some 24), none, (.move (.tmp 27))⟩, ⟨(some 28), none,
  (.extract 0 (.tmp 24))⟩, ⟨(some 29), none, (.extract 1 (.tmp 24))⟩, ⟨(some 11), none, (.alloc [(.v (.int .i64 0)), (.v (.int .i64 0)), (.slice .nilS 0 [])])⟩, ⟨none, none, (.store 3 (.tmp 11) (.tmp
  28))⟩, ⟨(some 12), none, (.move (.tmp 29))⟩]) (.seq (.seq (.region false [⟨(some 30), none, (.move (.tmp 8))⟩, ⟨(some 31), none, (.move (.tmp 2))⟩, ⟨(some 32), none, (.call false 24 [(.tmp 30),
  (.tmp 31)])⟩, ⟨(some 33), none, (.move (.tmp 12))⟩, ⟨(some 34), none, (.un .not (.tmp 33))⟩, ⟨(some 35), none, (.call false 25 [(.tmp 34), (.const (.v (.int .i64 25)))])⟩, ⟨(some 36), none,
  (.buildSlice 1 [[(.v (.int .i64 0))], [(.v (.int .i64 0))]] [(0, (.tmp 32)), (1, (.tmp 35))])⟩, ⟨(some 37), none, (.call false 23 [(.tmp 36)])⟩, ⟨(some 13), none, (.move (.tmp 37))⟩]) (.seq (.region
  false [⟨(some 38), none, (.move (.tmp 13))⟩, ⟨(some 39), none, (.arith .neq (.tmp 38) (.const (.v (.int .i64 0))))⟩]) (.cond (.tmp 39) (.seq (.region false [⟨(some 40), none, (.move (.tmp 13))⟩,
  ⟨(some 6), none, (.move (.const (.slice .nilS 0 [])))⟩, ⟨(some 7), none, (.move (.tmp 40))⟩]) .ret) .skip))) (.seq (.region false [⟨(some 41), none, (.move (.tmp 8))⟩, ⟨(some 42), none, (.move (.tmp
  1))⟩, ⟨(some 43), none, (.move (.tmp 2))⟩, ⟨(some 44), none, (.call false 26 [(.tmp 41), (.tmp 42), (.tmp 43)])⟩, ⟨(some 6), none, (.move (.tmp 44))⟩, ⟨(some 7), none, (.move (.const (.v (.int .i64
  0))))⟩]) .ret))))))
abbrev f_s_Placements := finF [(.tmp 6), (.tmp 7)] false
def c_s_Placements : AFn := .code 3 45 b_s_Placements [(.tmp 6), (.tmp 7)] false
-- 8
def b_r_CopyWeek_r0 : ACode := (.seq (.region false [⟨(some 55), none, (.load true 3 (.tmp 3))⟩, ⟨none, none, (.store 3 (.tmp 2) (.tmp 55))⟩]) .ret)
def b_r_CopyWeek_l0 : ACode := (.seq (.seq (.region false [⟨(some 33), none, (.move (.tmp 6))⟩, ⟨(some 34), none, (.fieldAddr 2 (.tmp 1))⟩, ⟨(some 35), none, (.load false 1 (.tmp 34))⟩, ⟨(some 36),
  none, (.len false (.tmp 35))⟩, ⟨(some 37), none, (.arith .lss (.tmp 33) (.tmp 36))⟩]) (.cond (.tmp 37) .skip (.exit 2))) (.seq (.block 3 (.seq (.region false [⟨(some 40), none, (.fieldAddr 2 (.tmp
  1))⟩, ⟨(some 41), none, (.load false 1 (.tmp 40))⟩, ⟨(some 42), none, (.move (.tmp 6))⟩, ⟨(some 43), none, (.indexAddr none 7 (.tmp 41) (.tmp 42))⟩, ⟨(some 44), none, (.load true 7 (.tmp 43))⟩,
  ⟨(some 7), none, (.alloc [(.v (.string ⟨#[]⟩)), (.v (.int .i64 0)), (.v (.int .i64 0)), (.v (.int .i64 0)), (.v (.int .i64 0)), (.slice .nilS 0 []), (.v (.int .i64 0))])⟩, ⟨none, none, (.store 7
  (.tmp 7) (.tmp 44))⟩]) (.seq (.region false [⟨(some 45), none, (.fieldAddr 5 (.tmp 7))⟩, ⟨(some 46), none, (.load false 1 (.tmp 45))⟩, ⟨(some 47), none, (.call false 28 [(.tmp 46)])⟩, ⟨(some 48),
  none, (.fieldAddr 5 (.tmp 7))⟩, ⟨none, none, (.store 1 (.tmp 48) (.tmp 47))⟩]) (.region false [⟨(some 49), none, (.fieldAddr 2 (.tmp 3))⟩, ⟨(some 50), none, (.load false 1 (.tmp 49))⟩, ⟨(some 51),
  none, (.load true 7 (.tmp 7))⟩, ⟨(some 52), none, (.buildSlice 7 [[(.v (.string ⟨#[]⟩)), (.v (.int .i64 0)), (.v (.int .i64 0)), (.v (.int .i64 0)), (.v (.int .i64 0)), (.slice .nilS 0 []), (.v
  (.int .i64 0))]] [(0, (.tmp 51))])⟩, ⟨(some 53), none, (.append 7 (.tmp 50) (.tmp 52))⟩, ⟨(some 54), none, (.fieldAddr 2 (.tmp 3))⟩, ⟨none, none, (.store 1 (.tmp 54) (.tmp 53))⟩])))) (.region false
  [⟨(some 38), none, (.move (.tmp 6))⟩, ⟨(some 39), none, (.arith .add (.tmp 38) (.const (.v (.int .i64 1))))⟩, ⟨(some 6), none, (.move (.tmp 39))⟩])))
def b_r_CopyWeek_r1 : ACode := (.seq (.seq (.region false [⟨(some 6), none, (.move (.const (.v (.int .i64 0))))⟩]) (.block 2 (.loop b_r_CopyWeek_l0))) b_r_CopyWeek_r0)
def b_r_CopyWeek_l1 : ACode := (.seq (.seq (.region false [⟨(some 11), none, (.move (.tmp 4))⟩, ⟨(some 12), none, (.fieldAddr 1 (.tmp 1))⟩, ⟨(some 13), none, (.load false 1 (.tmp 12))⟩, ⟨(some 14),
  none, (.len false (.tmp 13))⟩, ⟨(some 15), none, (.arith .lss (.tmp 11) (.tmp 14))⟩]) (.cond (.tmp 15) .skip (.exit 0))) (.seq (.block 1 (.seq (.region false [⟨(some 18), none, (.fieldAddr 1 (.tmp
  1))⟩, ⟨(some 19), none, (.load false 1 (.tmp 18))⟩, ⟨(some 20), none, (.move (.tmp 4))⟩, ⟨(some 21), none, (.indexAddr none 3 (.tmp 19) (.tmp 20))⟩, ⟨(some 22), none, (.load true 3 (.tmp 21))⟩,
  ⟨(some 5), none, (.alloc [(.v (.string ⟨#[]⟩)), (.v (.int .i64 0)), (.slice .nilS 0 [])])⟩, ⟨none, none, (.store 3 (.tmp 5) (.tmp 22))⟩]) (.seq (.region false [⟨(some 23), none, (.fieldAddr 2 (.tmp
  5))⟩, ⟨(some 24), none, (.load false 1 (.tmp 23))⟩, ⟨(some 25), none, (.call false 27 [(.tmp 24)])⟩, ⟨(some 26), none, (.fieldAddr 2 (.tmp 5))⟩, ⟨none, none, (.store 1 (.tmp 26) (.tmp 25))⟩])
  (.region false [⟨(some 27), none, (.fieldAddr 1 (.tmp 3))⟩, ⟨(some 28), none, (.load false 1 (.tmp 27))⟩, ⟨(some 29), none, (.load true 3 (.tmp 5))⟩, ⟨(some 30), none, (.buildSlice 3 [[(.v (.string
  ⟨#[]⟩)), (.v (.int .i64 0)), (.slice .nilS 0 [])]] [(0, (.tmp 29))])⟩, ⟨(some 31), none, (.append 3 (.tmp 28) (.tmp 30))⟩, ⟨(some 32), none, (.fieldAddr 1 (.tmp 3))⟩, ⟨none, none, (.store 1 (.tmp
  32) (.tmp 31))⟩])))) (.region false [⟨(some 16), none, (.move (.tmp 4))⟩, ⟨(some 17), none, (.arith .add (.tmp 16) (.const (.v (.int .i64 1))))⟩, ⟨(some 4), none, (.move (.tmp 17))⟩])))
def b_r_CopyWeek : ACode := (.seq (.region false [⟨(some 1), none, (.box 3 (.tmp 0))⟩, ⟨(some 2), none, (.alloc [(.v (.int .i64 0)), (.slice .nilS 0 []), (.slice .nilS 0 [])])⟩]) (.seq (.region false
  [⟨(some 8), none, (.fieldAddr 0 (.tmp 1))⟩, ⟨(some 9), none, (.load false 1 (.tmp 8))⟩, ⟨(some 10), none, (.build [(.v (.int .i64 0)), (.slice .nilS 0 []), (.slice .nilS 0 [])] [(0, (1, (.tmp
  9)))])⟩, ⟨(some 3), none, (.alloc [(.v (.int .i64 0)), (.slice .nilS 0 []), (.slice .nilS 0 [])])⟩, ⟨none, none, (.store 3 (.tmp 3) (.tmp 10))⟩]) (.seq (.seq (.region false [⟨(some 4), none, (.move
  (.const (.v (.int .i64 0))))⟩]) (.block 0 (.loop b_r_CopyWeek_l1))) b_r_CopyWeek_r1)))
abbrev k_r_CopyWeek_0 : List K := [.blk 2, .c b_r_CopyWeek_r0]
abbrev k_r_CopyWeek_1 : List K := [.blk 0, .c b_r_CopyWeek_r1]
abbrev f_r_CopyWeek := finF [(.cell true 3 2)] false
def c_r_CopyWeek : AFn := .code 1 56 b_r_CopyWeek [(.cell true 3 2)] false
-- 9
def b_r_Copy_r0 : ACode := (.seq (.region false [⟨(some 31), none, (.move (.tmp 3))⟩, ⟨(some 2), none, (.move (.tmp 31))⟩]) .ret)
def b_r_Copy_l0 : ACode := (.seq (.seq (.region false [⟨(some 5), none, (.move (.tmp 4))⟩, ⟨(some 6), none, (.move (.tmp 0))⟩, ⟨(some 7), none, (.len false (.tmp 6))⟩, ⟨(some 8), none, (.arith .lss
  (.tmp 5) (.tmp 7))⟩]) (.cond (.tmp 8) .skip (.exit 0))) (.seq (.block 1 (.region true [⟨(some 11), none, (.move (.tmp 3))⟩, ⟨(some 12), none, (.move (.tmp 0))⟩, ⟨(some 13), none, (.move (.tmp 4))⟩,
  ⟨(some 14), none, (.indexAddr none 3 (.tmp 12) (.tmp 13))⟩, ⟨(some 15), none, (.fieldAddr 0 (.tmp 14))⟩, ⟨(some 16), none, (.load false 1 (.tmp 15))⟩, ⟨(some 17), none, (.move (.tmp 0))⟩, ⟨(some
  18), none, (.move (.tmp 4))⟩, ⟨(some 19), none, (.indexAddr none 3 (.tmp 17) (.tmp 18))⟩, ⟨(some 20), none, (.fieldAddr 1 (.tmp 19))⟩, ⟨(some 21), none, (.load false 1 (.tmp 20))⟩, ⟨(some 22), none,
  (.move (.tmp 0))⟩, ⟨(some 23), none, (.move (.tmp 4))⟩, ⟨(some 24), none, (.indexAddr none 3 (.tmp 22) (.tmp 23))⟩, ⟨(some 25), none, (.fieldAddr 2 (.tmp 24))⟩, ⟨(some 26), none, (.load false 1
  (.tmp 25))⟩, ⟨(some 27), none, (.call true 28 [(.tmp 26)])⟩, ⟨(some 28), none, (.build [(.v (.int .i64 0)), (.v (.int .i64 0)), (.slice .nilS 0 [])] [(0, (1, (.tmp 16))), (1, (1, (.tmp 21))), (2,
  (1, (.tmp 27)))])⟩, ⟨(some 29), none, (.buildSlice 3 [[(.v (.int .i64 0)), (.v (.int .i64 0)), (.slice .nilS 0 [])]] [(0, (.tmp 28))])⟩, ⟨(some 30), none, (.append 3 (.tmp 11) (.tmp 29))⟩, ⟨(some
  3), none, (.move (.tmp 30))⟩])) (.region false [⟨(some 9), none, (.move (.tmp 4))⟩, ⟨(some 10), none, (.arith .add (.tmp 9) (.const (.v (.int .i64 1))))⟩, ⟨(some 4), none, (.move (.tmp 10))⟩])))
def b_r_Copy : ACode := (.seq (.region false [⟨(some 2), none, (.move (.const (.slice .nilS 0 [])))⟩]) (.seq (.region false [⟨(some 3), none, (.move (.const (.slice .nilS 0 [])))⟩]) (.seq (.seq
  (.region false [⟨(some 4), none, (.move (.const (.v (.int .i64 0))))⟩]) (.block 0 (.loop b_r_Copy_l0))) b_r_Copy_r0)))
abbrev k_r_Copy_0 : List K := [.blk 0, .c b_r_Copy_r0]
abbrev f_r_Copy := finF [(.tmp 2)] true
def c_r_Copy : AFn := .code 1 32 b_r_Copy [(.tmp 2)] true
-- 10
def b_r_PlanErr : ACode := (.seq (.region false [⟨(some 2), none, (.box 3 (.tmp 0))⟩, ⟨(some 4), none, (.move (.const (.v (.int .i64 0))))⟩]) (.seq (.seq (.region false [⟨(some 8), none, (.load true 3
  (.tmp 2))⟩, ⟨(some 9), none, (.call false 29 [(.tmp 8)])⟩, ⟨(some 5), none, (.move (.tmp 9))⟩]) (.seq (.region false [⟨(some 10), none, (.move (.tmp 5))⟩, ⟨(some 11), none, (.arith .neq (.tmp 10)
  (.const (.v (.int .i64 0))))⟩]) (.cond (.tmp 11) (.seq (.region false [⟨(some 12), none, (.move (.tmp 5))⟩, ⟨(some 4), none, (.move (.tmp 12))⟩]) .ret) .skip))) (.seq (.region false [⟨(some 14),
  none, (.load true 3 (.tmp 2))⟩, ⟨(some 15), none, (.move (.tmp 1))⟩, ⟨(some 16), none, (.call false 30 [(.tmp 14), (.tmp 15)])⟩, ⟨(some 13), none, (.move (.tmp 16))⟩, ⟨(some 17), none, (.extract 0
  (.tmp 13))⟩, ⟨(some 18), none, (.extract 1 (.tmp 13))⟩, ⟨(some 6), none, (.move (.tmp 17))⟩, ⟨(some 7), none, (.move (.tmp 18))⟩]) (.seq (.region false [⟨(some 19), none, (.move (.tmp 7))⟩, ⟨(some
  4), none, (.move (.tmp 19))⟩]) .ret))))
abbrev f_r_PlanErr := finF [(.tmp 4)] false
def c_r_PlanErr : AFn := .code 2 20 b_r_PlanErr [(.tmp 4)] false
-- 11
def b_r_RequestsErr_r0 : ACode := (.seq (.region false [⟨(some 4), none, (.move (.const (.v (.int .i64 0))))⟩]) .ret)
def b_r_RequestsErr_l0 : ACode := (.seq (.seq (.region false [⟨(some 6), none, (.move (.tmp 5))⟩, ⟨(some 7), none, (.move (.tmp 1))⟩, ⟨(some 8), none, (.len false (.tmp 7))⟩, ⟨(some 9), none, (.arith
  .lss (.tmp 6) (.tmp 8))⟩]) (.cond (.tmp 9) .skip (.exit 0))) (.seq (.block 1 (.seq (.seq (.region true [⟨(some 12), none, (.move (.tmp 1))⟩, ⟨(some 13), none, (.move (.tmp 5))⟩, ⟨(some 14), none,
  (.indexAddr none 1 (.tmp 12) (.tmp 13))⟩, ⟨(some 15), none, (.load false 1 (.tmp 14))⟩, ⟨(some 16), none, (.fieldAddr 2 (.tmp 2))⟩, ⟨(some 17), none, (.load false 1 (.tmp 16))⟩, ⟨(some 18), none,
  (.len false (.tmp 17))⟩, ⟨(some 19), none, (.arith .sub (.tmp 18) (.const (.v (.int .i64 1))))⟩, ⟨(some 20), none, (.call false 31 [(.tmp 15), (.const (.v (.int .i64 0))), (.tmp 19)])⟩, ⟨(some 21),
  none, (.un .not (.tmp 20))⟩]) (.cond (.tmp 21) (.seq (.region false [⟨(some 4), none, (.move (.const (.v (.int .i64 6))))⟩]) .ret) .skip)) (.seq (.region true [⟨(some 22), none, (.move (.tmp 5))⟩,
  ⟨(some 23), none, (.arith .gtr (.tmp 22) (.const (.v (.int .i64 0))))⟩, ⟨(some 24), none, (.move (.tmp 23))⟩, ⟨(some 25), (some (24, true)), (.move (.tmp 1))⟩, ⟨(some 26), (some (24, true)), (.move
  (.tmp 5))⟩, ⟨(some 27), (some (24, true)), (.indexAddr none 1 (.tmp 25) (.tmp 26))⟩, ⟨(some 28), (some (24, true)), (.load false 1 (.tmp 27))⟩, ⟨(some 29), (some (24, true)), (.move (.tmp 1))⟩,
  ⟨(some 30), (some (24, true)), (.move (.tmp 5))⟩, ⟨(some 31), (some (24, true)), (.arith .sub (.tmp 30) (.const (.v (.int .i64 1))))⟩, ⟨(some 32), (some (24, true)), (.indexAddr none 1 (.tmp 29)
  (.tmp 31))⟩, ⟨(some 33), (some (24, true)), (.load false 1 (.tmp 32))⟩, ⟨(some 34), (some (24, true)), (.arith .leq (.tmp 28) (.tmp 33))⟩, ⟨(some 35), none, (.pick (.tmp 24) (.tmp 34) (.const (.v
  (.bool false))))⟩]) (.cond (.tmp 35) (.seq (.region false [⟨(some 4), none, (.move (.const (.v (.int .i64 9))))⟩]) .ret) .skip)))) (.region false [⟨(some 10), none, (.move (.tmp 5))⟩, ⟨(some 11),
  none, (.arith .add (.tmp 10) (.const (.v (.int .i64 1))))⟩, ⟨(some 5), none, (.move (.tmp 11))⟩])))
def b_r_RequestsErr : ACode := (.seq (.region false [⟨(some 2), none, (.box 3 (.tmp 0))⟩, ⟨(some 4), none, (.move (.const (.v (.int .i64 0))))⟩]) (.seq (.seq (.region false [⟨(some 5), none, (.move
  (.const (.v (.int .i64 0))))⟩]) (.block 0 (.loop b_r_RequestsErr_l0))) b_r_RequestsErr_r0))
abbrev k_r_RequestsErr_0 : List K := [.blk 0, .c b_r_RequestsErr_r0]
abbrev f_r_RequestsErr := finF [(.tmp 4)] false
def c_r_RequestsErr : AFn := .code 2 36 b_r_RequestsErr [(.tmp 4)] false
-- 12
def b_r_PassOf_r0 : ACode := (.seq (.region false [⟨(some 4), none, (.move (.const (.v (.int .i64 (-1)))))⟩]) .ret)
def b_r_PassOf_l0 : ACode := (.seq (.seq (.region false [⟨(some 6), none, (.move (.tmp 5))⟩, ⟨(some 7), none, (.move (.tmp 0))⟩, ⟨(some 8), none, (.len false (.tmp 7))⟩, ⟨(some 9), none, (.arith .lss
  (.tmp 6) (.tmp 8))⟩]) (.cond (.tmp 9) .skip (.exit 0))) (.seq (.block 1 (.seq (.region false [⟨(some 12), none, (.move (.tmp 0))⟩, ⟨(some 13), none, (.move (.tmp 5))⟩, ⟨(some 14), none, (.indexAddr
  none 3 (.tmp 12) (.tmp 13))⟩, ⟨(some 15), none, (.fieldAddr 0 (.tmp 14))⟩, ⟨(some 16), none, (.load false 1 (.tmp 15))⟩, ⟨(some 17), none, (.move (.tmp 1))⟩, ⟨(some 18), none, (.arith .eql (.tmp 16)
  (.tmp 17))⟩]) (.cond (.tmp 18) (.seq (.region false [⟨(some 19), none, (.move (.tmp 5))⟩, ⟨(some 4), none, (.move (.tmp 19))⟩]) .ret) .skip))) (.region false [⟨(some 10), none, (.move (.tmp 5))⟩,
  ⟨(some 11), none, (.arith .add (.tmp 10) (.const (.v (.int .i64 1))))⟩, ⟨(some 5), none, (.move (.tmp 11))⟩])))
def b_r_PassOf : ACode := (.seq (.region false [⟨(some 4), none, (.move (.const (.v (.int .i64 0))))⟩]) (.seq (.seq (.region false [⟨(some 5), none, (.move (.const (.v (.int .i64 0))))⟩]) (.block 0
  (.loop b_r_PassOf_l0))) b_r_PassOf_r0))
abbrev k_r_PassOf_0 : List K := [.blk 0, .c b_r_PassOf_r0]
abbrev f_r_PassOf := finF [(.tmp 4)] false
def c_r_PassOf : AFn := .code 2 20 b_r_PassOf [(.tmp 4)] false
-- 13
def b_r_Placements_r0 : ACode := (.seq (.region false [⟨(some 49), none, (.move (.tmp 8))⟩, ⟨(some 6), none, (.move (.tmp 49))⟩]) .ret)
def b_r_Placements_r1 : ACode := (.region false [⟨(some 19), none, (.move (.tmp 9))⟩, ⟨(some 20), none, (.arith .add (.tmp 19) (.const (.v (.int .i64 1))))⟩, ⟨(some 9), none, (.move (.tmp 20))⟩])
def b_r_Placements_r2 : ACode := (.seq (.region false [⟨(some 41), none, (.move (.tmp 10))⟩]) (.cond (.tmp 41) (.region false [⟨(some 42), none, (.move (.tmp 8))⟩, ⟨(some 43), none, (.move (.tmp 7))⟩,
  ⟨(some 44), none, (.move (.tmp 9))⟩, ⟨(some 45), none, (.indexAddr none 3 (.tmp 43) (.tmp 44))⟩, ⟨(some 46), none, (.load true 3 (.tmp 45))⟩, ⟨(some 47), none, (.buildSlice 3 [[(.v (.int .i64 0)),
  (.v (.int .i64 0)), (.slice .nilS 0 [])]] [(0, (.tmp 46))])⟩, ⟨(some 48), none, (.append 3 (.tmp 42) (.tmp 47))⟩, ⟨(some 8), none, (.move (.tmp 48))⟩]) .skip))
def b_r_Placements_l1 : ACode := (.seq (.seq (.region false [⟨(some 21), none, (.move (.tmp 11))⟩, ⟨(some 22), none, (.move (.tmp 1))⟩, ⟨(some 23), none, (.len false (.tmp 22))⟩, ⟨(some 24), none,
  (.arith .lss (.tmp 21) (.tmp 23))⟩]) (.cond (.tmp 24) .skip (.exit 2))) (.seq (.block 3 (.region true [⟨(some 27), none, (.move (.tmp 10))⟩, ⟨(some 28), none, (.move (.tmp 27))⟩, ⟨(some 29), (some
  (28, true)), (.load true 3 (.tmp 3))⟩, ⟨(some 30), (some (28, true)), (.move (.tmp 7))⟩, ⟨(some 31), (some (28, true)), (.move (.tmp 9))⟩, ⟨(some 32), (some (28, true)), (.indexAddr none 3 (.tmp 30)
  (.tmp 31))⟩, ⟨(some 33), (some (28, true)), (.load true 3 (.tmp 32))⟩, ⟨(some 34), (some (28, true)), (.move (.tmp 1))⟩, ⟨(some 35), (some (28, true)), (.move (.tmp 11))⟩, ⟨(some 36), (some (28,
  true)), (.indexAddr none 3 (.tmp 34) (.tmp 35))⟩, ⟨(some 37), (some (28, true)), (.load true 3 (.tmp 36))⟩, ⟨(some 38), (some (28, true)), (.call false 33 [(.tmp 29), (.tmp 33), (.tmp 37)])⟩, ⟨(some
  39), (some (28, true)), (.un .not (.tmp 38))⟩, ⟨(some 40), none, (.pick (.tmp 28) (.tmp 39) (.const (.v (.bool false))))⟩, ⟨(some 10), none, (.move (.tmp 40))⟩])) (.region false [⟨(some 25), none,
  (.move (.tmp 11))⟩, ⟨(some 26), none, (.arith .add (.tmp 25) (.const (.v (.int .i64 1))))⟩, ⟨(some 11), none, (.move (.tmp 26))⟩])))
def b_r_Placements_l0 : ACode := (.seq (.seq (.region false [⟨(some 15), none, (.move (.tmp 9))⟩, ⟨(some 16), none, (.move (.tmp 7))⟩, ⟨(some 17), none, (.len false (.tmp 16))⟩, ⟨(some 18), none,
  (.arith .lss (.tmp 15) (.tmp 17))⟩]) (.cond (.tmp 18) .skip (.exit 0))) (.seq (.block 1 (.seq (.region false [⟨(some 10), none, (.move (.const (.v (.bool true))))⟩]) (.seq (.seq (.region false
  [⟨(some 11), none, (.move (.const (.v (.int .i64 0))))⟩]) (.block 2 (.loop b_r_Placements_l1))) b_r_Placements_r2))) b_r_Placements_r1))
def b_r_Placements : ACode := (.seq (.region false [⟨(some 3), none, (.box 3 (.tmp 0))⟩, ⟨(some 6), none, (.move (.const (.slice .nilS 0 [])))⟩]) (.seq (.region false [⟨(some 12), none, (.load true 3
  (.tmp 3))⟩, ⟨(some 13), none, (.move (.tmp 2))⟩, ⟨(some 14), none, (.call false 32 [(.tmp 12), (.tmp 13)])⟩, ⟨(some 7), none, (.move (.tmp 14))⟩]) (.seq (.region false [⟨(some 8), none, (.move
  (.const (.slice .nilS 0 [])))⟩]) (.seq (.seq (.region false [⟨(some 9), none, (.move (.const (.v (.int .i64 0))))⟩]) (.block 0 (.loop b_r_Placements_l0))) b_r_Placements_r0))))
abbrev k_r_Placements_1 : List K := [.blk 2, .c b_r_Placements_r2, .blk 1, .c b_r_Placements_r1, .lp b_r_Placements_l0, .blk 0, .c b_r_Placements_r0]
abbrev k_r_Placements_0 : List K := [.blk 0, .c b_r_Placements_r0]
abbrev f_r_Placements := finF [(.tmp 6)] false
def c_r_Placements : AFn := .code 3 50 b_r_Placements [(.tmp 6)] false
-- 14
def b_r_Same_r0 : ACode := (.seq (.region false [⟨(some 4), none, (.move (.const (.v (.bool true))))⟩]) .ret)
def b_r_Same_l0 : ACode := (.seq (.seq (.region false [⟨(some 11), none, (.move (.tmp 5))⟩, ⟨(some 12), none, (.move (.tmp 0))⟩, ⟨(some 13), none, (.len false (.tmp 12))⟩, ⟨(some 14), none, (.arith
  .lss (.tmp 11) (.tmp 13))⟩]) (.cond (.tmp 14) .skip (.exit 0))) (.seq (.block 1 (.seq (.region true [⟨(some 17), none, (.move (.tmp 0))⟩, ⟨(some 18), none, (.move (.tmp 5))⟩, ⟨(some 19), none,
  (.indexAddr none 3 (.tmp 17) (.tmp 18))⟩, ⟨(some 20), none, (.load true 3 (.tmp 19))⟩, ⟨(some 21), none, (.move (.tmp 1))⟩, ⟨(some 22), none, (.move (.tmp 5))⟩, ⟨(some 23), none, (.indexAddr none 3
  (.tmp 21) (.tmp 22))⟩, ⟨(some 24), none, (.load true 3 (.tmp 23))⟩, ⟨(some 25), none, (.call false 34 [(.tmp 20), (.tmp 24)])⟩, ⟨(some 26), none, (.arith .neq (.tmp 25) (.const (.v (.int .i64
  0))))⟩]) (.cond (.tmp 26) (.seq (.region false [⟨(some 4), none, (.move (.const (.v (.bool false))))⟩]) .ret) .skip))) (.region false [⟨(some 15), none, (.move (.tmp 5))⟩, ⟨(some 16), none, (.arith
  .add (.tmp 15) (.const (.v (.int .i64 1))))⟩, ⟨(some 5), none, (.move (.tmp 16))⟩])))
def b_r_Same : ACode := (.seq (.region false [⟨(some 4), none, (.move (.const (.v (.bool false))))⟩]) (.seq (.seq (.region false [⟨(some 6), none, (.move (.tmp 0))⟩, ⟨(some 7), none, (.len false (.tmp
  6))⟩, ⟨(some 8), none, (.move (.tmp 1))⟩, ⟨(some 9), none, (.len false (.tmp 8))⟩, ⟨(some 10), none, (.arith .neq (.tmp 7) (.tmp 9))⟩]) (.cond (.tmp 10) (.seq (.region false [⟨(some 4), none, (.move
  (.const (.v (.bool false))))⟩]) .ret) .skip)) (.seq (.seq (.region false [⟨(some 5), none, (.move (.const (.v (.int .i64 0))))⟩]) (.block 0 (.loop b_r_Same_l0))) b_r_Same_r0)))
abbrev k_r_Same_0 : List K := [.blk 0, .c b_r_Same_r0]
abbrev f_r_Same := finF [(.tmp 4)] false
def c_r_Same : AFn := .code 2 27 b_r_Same [(.tmp 4)] false
-- 15
def b_s_CheckPlan : ACode := (.seq (.region false [⟨(some 2), none, (.box 3 (.tmp 0))⟩, ⟨(some 4), none, (.move (.const (.v (.int .i64 0))))⟩, ⟨(some 5), none, (.move (.const (.v (.int .i64 0))))⟩])
  (.seq (.region false [⟨(some 10), none, (.load true 3 (.tmp 2))⟩, ⟨(some 11), none, (.move (.tmp 1))⟩, ⟨(some 12), none, (.call false 21 [(.tmp 10), (.tmp 11)])⟩, ⟨(some 9), none, (.move (.tmp
  12))⟩, ⟨(some 13), none, (.extract 0 (.tmp 9))⟩, ⟨(some 14), none, (.extract 1 (.tmp 9))⟩, ⟨(some 15), none, (.extract 2 (.tmp 9))⟩, ⟨(some 6), none, (.move (.tmp 13))⟩, ⟨(some 7), none, (.move
  (.tmp 14))⟩, ⟨(some 8), none, (.move (.tmp 15))⟩]) (.seq (.region false [⟨(some 16), none, (.move (.tmp 7))⟩, ⟨(some 17), none, (.move (.tmp 8))⟩, ⟨(some 4), none, (.move (.tmp 16))⟩, ⟨(some 5),
  none, (.move (.tmp 17))⟩]) .ret)))
abbrev f_s_CheckPlan := finF [(.tmp 4), (.tmp 5)] false
def c_s_CheckPlan : AFn := .code 2 18 b_s_CheckPlan [(.tmp 4), (.tmp 5)] false
-- 16
def b_s_Best : ACode := (.seq (.region false [⟨(some 1), none, (.box 3 (.tmp 0))⟩, ⟨(some 2), none, (.move (.const (.slice .nilS 0 [])))⟩, ⟨(some 3), none, (.move (.const (.v (.int .i64 0))))⟩, ⟨(some
  4), none, (.move (.const (.v (.int .i64 0))))⟩]) (.seq (.region false [⟨(some 11), none, (.load true 3 (.tmp 1))⟩, ⟨(some 12), none, (.call false 35 [(.tmp 11)])⟩, ⟨(some 10), none, (.move (.tmp
  12))⟩, ⟨(some 13), none, (.extract 0 (.tmp 10))⟩, ⟨(some 14), none, (.extract 1 (.tmp 10))⟩, ⟨(some 5), none, (.move (.tmp 13))⟩, ⟨(some 6), none, (.move (.tmp 14))⟩]) (.seq (.seq (.region false
  [⟨(some 15), none, (.move (.tmp 6))⟩, ⟨(some 16), none, (.arith .neq (.tmp 15) (.const (.v (.int .i64 0))))⟩]) (.cond (.tmp 16) (.seq (.region false [⟨(some 17), none, (.move (.tmp 6))⟩, ⟨(some 2),
  none, (.move (.const (.slice .nilS 0 [])))⟩, ⟨(some 3), none, (.move (.const (.v (.int .i64 0))))⟩, ⟨(some 4), none, (.move (.tmp 17))⟩]) .ret) .skip)) (.seq (.region false [⟨(some 19), none, (.move
  (.tmp 5))⟩, ⟨(some 20), none, (.call false 36 [(.tmp 19)])⟩, ⟨(some 21), none, (.call false 37 [(.tmp 20)])⟩, ⟨(some 18), none, (.move (.tmp 21))⟩, ⟨(some 22), none, (.extract 0 (.tmp 18))⟩, ⟨(some
  23), none, (.extract 1 (.tmp 18))⟩, ⟨(some 24), none, (.extract 2 (.tmp 18))⟩, ⟨(some 7), none, (.move (.tmp 22))⟩, ⟨(some 8), none, (.move (.tmp 23))⟩, ⟨(some 9), none, (.move (.tmp 24))⟩]) (.seq
  (.region false [⟨(some 25), none, (.move (.tmp 7))⟩, ⟨(some 26), none, (.move (.tmp 8))⟩, ⟨(some 2), none, (.move (.tmp 25))⟩, ⟨(some 3), none, (.move (.tmp 26))⟩, ⟨(some 4), none, (.move (.const
  (.v (.int .i64 0))))⟩]) .ret)))))
abbrev f_s_Best := finF [(.tmp 2), (.tmp 3), (.tmp 4)] false
def c_s_Best : AFn := .code 1 27 b_s_Best [(.tmp 2), (.tmp 3), (.tmp 4)] false
-- 17
def b_l_Week : ACode := (.seq (.region false [⟨(some 0), none, (.alloc [(.v (.int .i64 0)), (.slice .nilS 0 []), (.slice .nilS 0 [])])⟩]) (.seq (.region false [⟨(some 1), none, (.build [(.v (.int .i64
  0)), (.v (.int .i64 0))] [(0, (1, (.const (.v (.int .i64 4))))), (1, (1, (.const (.v (.int .i64 4)))))])⟩, ⟨(some 2), none, (.buildSlice 2 [[(.v (.int .i64 0)), (.v (.int .i64 0))]] [(0, (.tmp
  1))])⟩, ⟨(some 3), none, (.build [(.v (.string ⟨#[]⟩)), (.v (.int .i64 0)), (.slice .nilS 0 [])] [(0, (1, (.const (.v (.string ⟨#[97]⟩))))), (1, (1, (.const (.v (.int .i64 1))))), (2, (1, (.tmp
  2)))])⟩, ⟨(some 4), none, (.build [(.v (.string ⟨#[]⟩)), (.v (.int .i64 0)), (.slice .nilS 0 [])] [(0, (1, (.const (.v (.string ⟨#[98]⟩)))))])⟩, ⟨(some 5), none, (.buildSlice 3 [[(.v (.string
  ⟨#[]⟩)), (.v (.int .i64 0)), (.slice .nilS 0 [])], [(.v (.string ⟨#[]⟩)), (.v (.int .i64 0)), (.slice .nilS 0 [])]] [(0, (.tmp 3)), (1, (.tmp 4))])⟩, ⟨(some 6), none, (.build [(.v (.int .i64 0)),
  (.v (.int .i64 0))] [(1, (1, (.const (.v (.int .i64 5)))))])⟩, ⟨(some 7), none, (.buildSlice 1 [[(.v (.int .i64 0))]] [(0, (.const (.v (.int .i64 0))))])⟩, ⟨(some 8), none, (.build [(.v (.string
  ⟨#[]⟩)), (.v (.int .i64 0)), (.v (.int .i64 0)), (.v (.int .i64 0)), (.v (.int .i64 0)), (.slice .nilS 0 []), (.v (.int .i64 0))] [(0, (1, (.const (.v (.string ⟨#[109, 97, 114, 115]⟩))))), (1, (2,
  (.tmp 6))), (3, (1, (.const (.v (.int .i64 3))))), (4, (1, (.const (.v (.int .i64 10))))), (5, (1, (.tmp 7))), (6, (1, (.const (.v (.int .i64 1)))))])⟩, ⟨(some 9), none, (.build [(.v (.int .i64 0)),
  (.v (.int .i64 0))] [(1, (1, (.const (.v (.int .i64 4)))))])⟩, ⟨(some 10), none, (.buildSlice 1 [[(.v (.int .i64 0))], [(.v (.int .i64 0))]] [(0, (.const (.v (.int .i64 0)))), (1, (.const (.v (.int
  .i64 1))))])⟩, ⟨(some 11), none, (.build [(.v (.string ⟨#[]⟩)), (.v (.int .i64 0)), (.v (.int .i64 0)), (.v (.int .i64 0)), (.v (.int .i64 0)), (.slice .nilS 0 []), (.v (.int .i64 0))] [(0, (1,
  (.const (.v (.string ⟨#[109, 111, 111, 110]⟩))))), (1, (2, (.tmp 9))), (3, (1, (.const (.v (.int .i64 2))))), (4, (1, (.const (.v (.int .i64 7))))), (5, (1, (.tmp 10))), (6, (1, (.const (.v (.int
  .i64 1)))))])⟩, ⟨(some 12), none, (.build [(.v (.int .i64 0)), (.v (.int .i64 0))] [(1, (1, (.const (.v (.int .i64 9)))))])⟩, ⟨(some 13), none, (.buildSlice 1 [[(.v (.int .i64 0))], [(.v (.int .i64
  0))]] [(0, (.const (.v (.int .i64 0)))), (1, (.const (.v (.int .i64 1))))])⟩, ⟨(some 14), none, (.build [(.v (.string ⟨#[]⟩)), (.v (.int .i64 0)), (.v (.int .i64 0)), (.v (.int .i64 0)), (.v (.int
  .i64 0)), (.slice .nilS 0 []), (.v (.int .i64 0))] [(0, (1, (.const (.v (.string ⟨#[109, 97, 114, 115]⟩))))), (1, (2, (.tmp 12))), (3, (1, (.const (.v (.int .i64 4))))), (4, (1, (.const (.v (.int
  .i64 6))))), (5, (1, (.tmp 13))), (6, (1, (.const (.v (.int .i64 2)))))])⟩, ⟨(some 15), none, (.buildSlice 7 [[(.v (.string ⟨#[]⟩)), (.v (.int .i64 0)), (.v (.int .i64 0)), (.v (.int .i64 0)), (.v
  (.int .i64 0)), (.slice .nilS 0 []), (.v (.int .i64 0))], [(.v (.string ⟨#[]⟩)), (.v (.int .i64 0)), (.v (.int .i64 0)), (.v (.int .i64 0)), (.v (.int .i64 0)), (.slice .nilS 0 []), (.v (.int .i64
  0))], [(.v (.string ⟨#[]⟩)), (.v (.int .i64 0)), (.v (.int .i64 0)), (.v (.int .i64 0)), (.v (.int .i64 0)), (.slice .nilS 0 []), (.v (.int .i64 0))]] [(0, (.tmp 8)), (1, (.tmp 11)), (2, (.tmp
  14))])⟩, ⟨(some 16), none, (.build [(.v (.int .i64 0)), (.slice .nilS 0 []), (.slice .nilS 0 [])] [(0, (1, (.const (.v (.int .i64 10))))), (1, (1, (.tmp 5))), (2, (1, (.tmp 15)))])⟩, ⟨none, none,
  (.store 3 (.tmp 0) (.tmp 16))⟩]) .ret))
abbrev f_l_Week := finF [(.cell true 3 0)] false
def c_l_Week : AFn := .code 0 17 b_l_Week [(.cell true 3 0)] false
-- 18
def b_s_ShareOf_r0 : ACode := (.seq (.seq (.region false [⟨(some 56), none, (.move (.tmp 12))⟩, ⟨(some 57), none, (.arith .eql (.tmp 56) (.const (.v (.int .i64 0))))⟩]) (.cond (.tmp 57) (.seq (.region
  false [⟨(some 58), none, (.build [(.v (.int .i64 0)), (.v (.int .i64 0))] [])⟩, ⟨none, none, (.store 2 (.tmp 6) (.tmp 58))⟩, ⟨(some 7), none, (.move (.const (.v (.int .i64 6))))⟩]) .ret) .skip))
  (.seq (.region false [⟨(some 59), none, (.move (.tmp 11))⟩, ⟨(some 60), none, (.move (.tmp 12))⟩, ⟨(some 61), none, (.call false 38 [(.tmp 59), (.tmp 60)])⟩, ⟨none, none, (.store 2 (.tmp 6) (.tmp
  61))⟩, ⟨(some 7), none, (.move (.const (.v (.int .i64 0))))⟩]) .ret))
def b_s_ShareOf_l0 : ACode := (.seq (.region false [⟨(some 32), none, (.arith .lss (.tmp 31) (.tmp 30))⟩]) (.seq (.cond (.tmp 32) .skip (.exit 0)) (.seq (.block 1 (.seq (.region false [⟨(some 33),
  none, (.move (.tmp 31))⟩, ⟨(some 34), none, (.indexAddr none 7 (.tmp 29) (.tmp 31))⟩, ⟨(some 35), none, (.load true 7 (.tmp 34))⟩, ⟨(some 14), none, (.alloc [(.v (.string ⟨#[]⟩)), (.v (.int .i64
  0)), (.v (.int .i64 0)), (.v (.int .i64 0)), (.v (.int .i64 0)), (.slice .nilS 0 []), (.v (.int .i64 0))])⟩, ⟨(some 13), none, (.move (.tmp 33))⟩, ⟨none, none, (.store 7 (.tmp 14) (.tmp 35))⟩])
  (.seq (.seq (.region false [⟨(some 36), none, (.fieldAddr 0 (.tmp 14))⟩, ⟨(some 37), none, (.load false 1 (.tmp 36))⟩, ⟨(some 38), none, (.move (.tmp 2))⟩, ⟨(some 39), none, (.arith .neq (.tmp 37)
  (.tmp 38))⟩]) (.cond (.tmp 39) (.exit 1) .skip)) (.seq (.region false [⟨(some 40), none, (.move (.tmp 12))⟩, ⟨(some 41), none, (.fieldAddr 3 (.tmp 14))⟩, ⟨(some 42), none, (.load false 1 (.tmp
  41))⟩, ⟨(some 43), none, (.arith .add (.tmp 40) (.tmp 42))⟩, ⟨(some 12), none, (.move (.tmp 43))⟩]) (.seq (.region false [⟨(some 45), none, (.move (.tmp 1))⟩, ⟨(some 46), none, (.move (.tmp 13))⟩,
  ⟨(some 47), none, (.call false 22 [(.tmp 45), (.tmp 46)])⟩, ⟨(some 44), none, (.move (.tmp 47))⟩, ⟨(some 48), none, (.extract 0 (.tmp 44))⟩, ⟨(some 49), none, (.extract 1 (.tmp 44))⟩, ⟨(some 15),
  none, (.alloc [(.v (.int .i64 0)), (.v (.int .i64 0)), (.slice .nilS 0 [])])⟩, ⟨none, none, (.store 3 (.tmp 15) (.tmp 48))⟩, ⟨(some 16), none, (.move (.tmp 49))⟩]) (.seq (.region false [⟨(some 50),
  none, (.move (.tmp 16))⟩]) (.cond (.tmp 50) (.region false [⟨(some 51), none, (.move (.tmp 11))⟩, ⟨(some 52), none, (.fieldAddr 3 (.tmp 14))⟩, ⟨(some 53), none, (.load false 1 (.tmp 52))⟩, ⟨(some
  54), none, (.arith .add (.tmp 51) (.tmp 53))⟩, ⟨(some 11), none, (.move (.tmp 54))⟩]) .skip))))))) (.region false [⟨(some 55), none, (.arith .add (.tmp 31) (.const (.v (.int .i64 1))))⟩, ⟨(some 31),
  none, (.move (.tmp 55))⟩]))))
def b_s_ShareOf : ACode := (.seq (.region false [⟨(some 3), none, (.box 3 (.tmp 0))⟩, ⟨(some 6), none, (.alloc [(.v (.int .i64 0)), (.v (.int .i64 0))])⟩, ⟨(some 7), none, (.move (.const (.v (.int
  .i64 0))))⟩]) (.seq (.seq (.region false [⟨(some 18), none, (.load true 3 (.tmp 3))⟩, ⟨(some 19), none, (.move (.tmp 1))⟩, ⟨(some 20), none, (.call false 21 [(.tmp 18), (.tmp 19)])⟩, ⟨(some 17),
  none, (.move (.tmp 20))⟩, ⟨(some 21), none, (.extract 0 (.tmp 17))⟩, ⟨(some 22), none, (.extract 1 (.tmp 17))⟩, ⟨(some 23), none, (.extract 2 (.tmp 17))⟩, ⟨(some 8), none, (.move (.tmp 21))⟩, ⟨(some
  9), none, (.move (.tmp 22))⟩, ⟨(some 10), none, (.move (.tmp 23))⟩]) (.seq (.region false [⟨(some 24), none, (.move (.tmp 10))⟩, ⟨(some 25), none, (.arith .neq (.tmp 24) (.const (.v (.int .i64
  0))))⟩]) (.cond (.tmp 25) (.seq (.region false [⟨(some 26), none, (.build [(.v (.int .i64 0)), (.v (.int .i64 0))] [])⟩, ⟨(some 27), none, (.move (.tmp 10))⟩, ⟨none, none, (.store 2 (.tmp 6) (.tmp
  26))⟩, ⟨(some 7), none, (.move (.tmp 27))⟩]) .ret) .skip))) (.seq (.region false [⟨(some 11), none, (.move (.const (.v (.int .i64 0))))⟩, ⟨(some 12), none, (.move (.const (.v (.int .i64 0))))⟩])
  (.seq (.seq (.region false [⟨(some 28), none, (.fieldAddr 2 (.tmp 3))⟩, ⟨(some 29), none, (.load false 1 (.tmp 28))⟩, ⟨(some 30), none, (.len false (.tmp 29))⟩, ⟨(some 31), none, (.move (.const (.v
  (.int .i64 0))))⟩]) (.block 0 (.loop b_s_ShareOf_l0))) b_s_ShareOf_r0))))
abbrev k_s_ShareOf_0 : List K := [.blk 0, .c b_s_ShareOf_r0]
abbrev f_s_ShareOf := finF [(.cell true 2 6), (.tmp 7)] false
def c_s_ShareOf : AFn := .code 3 62 b_s_ShareOf [(.cell true 2 6), (.tmp 7)] false
-- 19
def b_s_FormatPlan_r0 : ACode := (.seq (.region false [⟨(some 41), none, (.move (.tmp 3))⟩, ⟨(some 42), none, (.call false 40 [(.tmp 41), (.const (.v (.string ⟨#[32]⟩)))])⟩, ⟨(some 2), none, (.move
  (.tmp 42))⟩]) .ret)
def b_s_FormatPlan_r1 : ACode := (.region false [⟨(some 40), none, (.arith .add (.tmp 11) (.const (.v (.int .i64 1))))⟩, ⟨(some 11), none, (.move (.tmp 40))⟩])
def b_s_FormatPlan_r2 : ACode := (.region false [⟨(some 36), none, (.move (.tmp 3))⟩, ⟨(some 37), none, (.move (.tmp 6))⟩, ⟨(some 38), none, (.buildSlice 1 [[(.v (.string ⟨#[]⟩))]] [(0, (.tmp 37))])⟩,
  ⟨(some 39), none, (.append 1 (.tmp 36) (.tmp 38))⟩, ⟨(some 3), none, (.move (.tmp 39))⟩])
def b_s_FormatPlan_l1 : ACode := (.seq (.region false [⟨(some 27), none, (.arith .lss (.tmp 26) (.tmp 25))⟩]) (.seq (.cond (.tmp 27) .skip (.exit 2)) (.seq (.block 3 (.seq (.region false [⟨(some 28),
  none, (.indexAddr none 1 (.tmp 24) (.tmp 26))⟩, ⟨(some 29), none, (.load false 1 (.tmp 28))⟩, ⟨(some 8), none, (.move (.tmp 29))⟩]) (.region false [⟨(some 30), none, (.move (.tmp 6))⟩, ⟨(some 31),
  none, (.move (.tmp 8))⟩, ⟨(some 32), none, (.call false 39 [(.tmp 31)])⟩, ⟨(some 33), none, (.arith .add (.const (.v (.string ⟨#[43]⟩))) (.tmp 32))⟩, ⟨(some 34), none, (.arith .add (.tmp 30) (.tmp
  33))⟩, ⟨(some 6), none, (.move (.tmp 34))⟩]))) (.region false [⟨(some 35), none, (.arith .add (.tmp 26) (.const (.v (.int .i64 1))))⟩, ⟨(some 26), none, (.move (.tmp 35))⟩]))))
def b_s_FormatPlan_l0 : ACode := (.seq (.region false [⟨(some 12), none, (.arith .lss (.tmp 11) (.tmp 10))⟩]) (.seq (.cond (.tmp 12) .skip (.exit 0)) (.seq (.block 1 (.seq (.region false [⟨(some 13),
  none, (.indexAddr none 3 (.tmp 9) (.tmp 11))⟩, ⟨(some 14), none, (.load true 3 (.tmp 13))⟩, ⟨(some 5), none, (.alloc [(.v (.int .i64 0)), (.v (.int .i64 0)), (.slice .nilS 0 [])])⟩, ⟨none, none,
  (.store 3 (.tmp 5) (.tmp 14))⟩]) (.seq (.region true [⟨(some 15), none, (.fieldAddr 0 (.tmp 5))⟩, ⟨(some 16), none, (.load false 1 (.tmp 15))⟩, ⟨(some 17), none, (.call true 39 [(.tmp 16)])⟩, ⟨(some
  18), none, (.arith .add (.tmp 17) (.const (.v (.string ⟨#[64]⟩))))⟩, ⟨(some 19), none, (.fieldAddr 1 (.tmp 5))⟩, ⟨(some 20), none, (.load false 1 (.tmp 19))⟩, ⟨(some 21), none, (.call false 39
  [(.tmp 20)])⟩, ⟨(some 22), none, (.arith .add (.tmp 18) (.tmp 21))⟩, ⟨(some 6), none, (.move (.tmp 22))⟩]) (.seq (.seq (.region false [⟨(some 23), none, (.fieldAddr 2 (.tmp 5))⟩, ⟨(some 24), none,
  (.load false 1 (.tmp 23))⟩, ⟨(some 25), none, (.len false (.tmp 24))⟩, ⟨(some 26), none, (.move (.const (.v (.int .i64 0))))⟩]) (.block 2 (.loop b_s_FormatPlan_l1))) b_s_FormatPlan_r2))))
  b_s_FormatPlan_r1)))
def b_s_FormatPlan : ACode := (.seq (.region false [⟨(some 2), none, (.move (.const (.v (.string ⟨#[]⟩))))⟩]) (.seq (.region false [⟨(some 3), none, (.move (.const (.slice .nilS 0 [])))⟩]) (.seq (.seq
  (.region false [⟨(some 9), none, (.move (.tmp 0))⟩, ⟨(some 10), none, (.len false (.tmp 9))⟩, ⟨(some 11), none, (.move (.const (.v (.int .i64 0))))⟩]) (.block 0 (.loop b_s_FormatPlan_l0)))
  b_s_FormatPlan_r0)))
abbrev k_s_FormatPlan_1 : List K := [.blk 2, .c b_s_FormatPlan_r2, .blk 1, .c b_s_FormatPlan_r1, .lp b_s_FormatPlan_l0, .blk 0, .c b_s_FormatPlan_r0]
abbrev k_s_FormatPlan_0 : List K := [.blk 0, .c b_s_FormatPlan_r0]
abbrev f_s_FormatPlan := finF [(.tmp 2)] false
def c_s_FormatPlan : AFn := .code 1 43 b_s_FormatPlan [(.tmp 2)] false
-- 20
def b_b_Whole : ACode := (.seq (.region false [⟨(some 2), none, (.alloc [(.v (.int .i64 0)), (.v (.int .i64 0))])⟩]) (.seq (.region false [⟨(some 3), none, (.move (.tmp 0))⟩, ⟨(some 4), none, (.build
  [(.v (.int .i64 0)), (.v (.int .i64 0))] [(0, (1, (.tmp 3))), (1, (1, (.const (.v (.int .i64 1)))))])⟩, ⟨none, none, (.store 2 (.tmp 2) (.tmp 4))⟩]) .ret))
abbrev f_b_Whole := finF [(.cell true 2 2)] false
def c_b_Whole : AFn := .code 1 5 b_b_Whole [(.cell true 2 2)] false
-- 21
def b_s_openPlan : ACode := (.seq (.region false [⟨(some 2), none, (.box 3 (.tmp 0))⟩, ⟨(some 4), none, (.move (.const (.v (.pointer none))))⟩, ⟨(some 5), none, (.move (.const (.v (.int .i64 0))))⟩,
  ⟨(some 6), none, (.move (.const (.v (.int .i64 0))))⟩]) (.seq (.region false [⟨(some 11), none, (.load true 3 (.tmp 2))⟩, ⟨(some 12), none, (.call false 41 [(.tmp 11)])⟩, ⟨(some 10), none, (.move
  (.tmp 12))⟩, ⟨(some 13), none, (.extract 0 (.tmp 10))⟩, ⟨(some 14), none, (.extract 1 (.tmp 10))⟩, ⟨(some 7), none, (.move (.tmp 13))⟩, ⟨(some 8), none, (.move (.tmp 14))⟩]) (.seq (.seq (.region
  false [⟨(some 15), none, (.move (.tmp 8))⟩, ⟨(some 16), none, (.arith .neq (.tmp 15) (.const (.v (.int .i64 0))))⟩]) (.cond (.tmp 16) (.seq (.region false [⟨(some 17), none, (.move (.tmp 8))⟩,
  ⟨(some 4), none, (.move (.const (.v (.pointer none))))⟩, ⟨(some 5), none, (.move (.const (.v (.int .i64 0))))⟩, ⟨(some 6), none, (.move (.tmp 17))⟩]) .ret) .skip)) (.seq (.region false [⟨(some 19),
  none, (.move (.tmp 7))⟩, ⟨(some 20), none, (.move (.tmp 1))⟩, ⟨(some 21), none, (.call false 42 [(.tmp 19), (.tmp 20)])⟩, ⟨(some 18), none, (.move (.tmp 21))⟩, ⟨(some 22), none, (.extract 0 (.tmp
  18))⟩, ⟨(some 23), none, (.extract 1 (.tmp 18))⟩, ⟨(some 9), none, (.move (.tmp 22))⟩, ⟨(some 8), none, (.move (.tmp 23))⟩]) (.seq (.region false [⟨(some 24), none, (.move (.tmp 7))⟩, ⟨(some 25),
  none, (.move (.tmp 9))⟩, ⟨(some 26), none, (.move (.tmp 8))⟩, ⟨(some 4), none, (.move (.tmp 24))⟩, ⟨(some 5), none, (.move (.tmp 25))⟩, ⟨(some 6), none, (.move (.tmp 26))⟩]) .ret)))))
abbrev f_s_openPlan := finF [(.tmp 4), (.tmp 5), (.tmp 6)] false
def c_s_openPlan : AFn := .code 2 27 b_s_openPlan [(.tmp 4), (.tmp 5), (.tmp 6)] false
-- 22
def b_s_passOf : ACode := (.seq (.region false [⟨(some 3), none, (.box 1 (.tmp 1))⟩, ⟨(some 4), none, (.alloc [(.v (.int .i64 0)), (.v (.int .i64 0)), (.slice .nilS 0 [])])⟩, ⟨(some 5), none, (.move
  (.const (.v (.bool false))))⟩]) (.seq (.region false [⟨(some 7), none, (.move (.tmp 0))⟩, ⟨(some 8), none, (.mkFn 44 [] [(.tmp 3)])⟩, ⟨(some 9), none, (.call false 43 [(.tmp 7), (.tmp 8)])⟩, ⟨(some
  6), none, (.move (.tmp 9))⟩]) (.seq (.seq (.region false [⟨(some 10), none, (.move (.tmp 6))⟩, ⟨(some 11), none, (.arith .lss (.tmp 10) (.const (.v (.int .i64 0))))⟩]) (.cond (.tmp 11) (.seq
  (.region false [⟨(some 12), none, (.build [(.v (.int .i64 0)), (.v (.int .i64 0)), (.slice .nilS 0 [])] [])⟩, ⟨none, none, (.store 3 (.tmp 4) (.tmp 12))⟩, ⟨(some 5), none, (.move (.const (.v (.bool
  false))))⟩]) .ret) .skip)) (.seq (.region false [⟨(some 13), none, (.move (.tmp 0))⟩, ⟨(some 14), none, (.move (.tmp 6))⟩, ⟨(some 15), none, (.indexAddr none 3 (.tmp 13) (.tmp 14))⟩, ⟨(some 16),
  none, (.load true 3 (.tmp 15))⟩, ⟨none, none, (.store 3 (.tmp 4) (.tmp 16))⟩, ⟨(some 5), none, (.move (.const (.v (.bool true))))⟩]) .ret))))
abbrev f_s_passOf := finF [(.cell true 3 4), (.tmp 5)] false
def c_s_passOf : AFn := .code 2 17 b_s_passOf [(.cell true 3 4), (.tmp 5)] false
-- 23
def b_s_first_r0 : ACode := (.seq (.region false [⟨(some 2), none, (.move (.const (.v (.int .i64 0))))⟩]) .ret)
def b_s_first_l0 : ACode := (.seq (.region false [⟨(some 8), none, (.arith .lss (.tmp 7) (.tmp 6))⟩]) (.seq (.cond (.tmp 8) .skip (.exit 0)) (.seq (.block 1 (.seq (.region false [⟨(some 9), none,
  (.indexAddr none 1 (.tmp 5) (.tmp 7))⟩, ⟨(some 10), none, (.load false 1 (.tmp 9))⟩, ⟨(some 4), none, (.move (.tmp 10))⟩]) (.seq (.region false [⟨(some 11), none, (.move (.tmp 4))⟩, ⟨(some 12),
  none, (.arith .neq (.tmp 11) (.const (.v (.int .i64 0))))⟩]) (.cond (.tmp 12) (.seq (.region false [⟨(some 13), none, (.move (.tmp 4))⟩, ⟨(some 2), none, (.move (.tmp 13))⟩]) .ret) .skip))))
  (.region false [⟨(some 14), none, (.arith .add (.tmp 7) (.const (.v (.int .i64 1))))⟩, ⟨(some 7), none, (.move (.tmp 14))⟩]))))
def b_s_first : ACode := (.seq (.region false [⟨(some 2), none, (.move (.const (.v (.int .i64 0))))⟩]) (.seq (.seq (.region false [⟨(some 5), none, (.move (.tmp 0))⟩, ⟨(some 6), none, (.len false
  (.tmp 5))⟩, ⟨(some 7), none, (.move (.const (.v (.int .i64 0))))⟩]) (.block 0 (.loop b_s_first_l0))) b_s_first_r0))
abbrev k_s_first_0 : List K := [.blk 0, .c b_s_first_r0]
abbrev f_s_first := finF [(.tmp 2)] false
def c_s_first : AFn := .code 1 15 b_s_first [(.tmp 2)] false
-- 24
def b_w_requestErr : ACode := (.seq (.region false [⟨(some 4), none, (.move (.const (.v (.int .i64 0))))⟩]) (.seq (.region false [⟨(some 5), none, (.move (.tmp 1))⟩, ⟨(some 6), none, (.move (.tmp
  0))⟩, ⟨(some 7), none, (.nilCheck (.tmp 6))⟩, ⟨(some 8), none, (.fieldAddr 0 (.tmp 7))⟩, ⟨(some 9), none, (.fieldAddr 2 (.tmp 8))⟩, ⟨(some 10), none, (.load false 1 (.tmp 9))⟩, ⟨(some 11), none,
  (.len false (.tmp 10))⟩, ⟨(some 12), none, (.arith .sub (.tmp 11) (.const (.v (.int .i64 1))))⟩, ⟨(some 13), none, (.call false 45 [(.tmp 5), (.const (.v (.int .i64 0))), (.tmp 12)])⟩, ⟨(some 14),
  none, (.call false 25 [(.tmp 13), (.const (.v (.int .i64 6)))])⟩, ⟨(some 4), none, (.move (.tmp 14))⟩]) .ret))
abbrev f_w_requestErr := finF [(.tmp 4)] false
def c_w_requestErr : AFn := .code 2 15 b_w_requestErr [(.tmp 4)] false
-- 25
def b_s_unless : ACode := (.seq (.region false [⟨(some 4), none, (.move (.const (.v (.int .i64 0))))⟩]) (.seq (.seq (.region false [⟨(some 5), none, (.move (.tmp 0))⟩]) (.cond (.tmp 5) (.seq (.region
  false [⟨(some 4), none, (.move (.const (.v (.int .i64 0))))⟩]) .ret) .skip)) (.seq (.region false [⟨(some 6), none, (.move (.tmp 1))⟩, ⟨(some 4), none, (.move (.tmp 6))⟩]) .ret)))
abbrev f_s_unless := finF [(.tmp 4)] false
def c_s_unless : AFn := .code 2 7 b_s_unless [(.tmp 4)] false
-- 26
def b_w_placements_r0 : ACode := (.seq (.region false [⟨(some 22), none, (.load false 1 (.tmp 7))⟩, ⟨(some 6), none, (.move (.tmp 22))⟩]) .ret)
def b_w_placements_y0 : ACode := (.block 1 (.seq (.region false [⟨(some 13), none, (.load false 1 (.tmp 3))⟩, ⟨(some 14), none, (.load true 3 (.tmp 8))⟩, ⟨(some 15), none, (.load false 1 (.tmp 4))⟩,
  ⟨(some 16), none, (.call false 47 [(.tmp 13), (.tmp 14), (.tmp 15)])⟩, ⟨(some 17), none, (.un .not (.tmp 16))⟩]) (.cond (.tmp 17) (.region false [⟨(some 18), none, (.load false 1 (.tmp 7))⟩, ⟨(some
  19), none, (.load true 3 (.tmp 8))⟩, ⟨(some 20), none, (.buildSlice 3 [[(.v (.int .i64 0)), (.v (.int .i64 0)), (.slice .nilS 0 [])]] [(0, (.tmp 19))])⟩, ⟨(some 21), none, (.append 3 (.tmp 18) (.tmp
  20))⟩, ⟨none, none, (.store 1 (.tmp 7) (.tmp 21))⟩]) .skip)))
def b_w_placements_a0 : ACode := (.region false [⟨(some 8), none, (.alloc [(.v (.int .i64 0)), (.v (.int .i64 0)), (.slice .nilS 0 [])])⟩, ⟨none, none, (.store 3 (.tmp 8) (.tmp 12))⟩])
def b_w_placements : ACode := (.seq (.region false [⟨(some 3), none, (.box 1 (.tmp 0))⟩, ⟨(some 4), none, (.box 1 (.tmp 1))⟩, ⟨(some 6), none, (.move (.const (.slice .nilS 0 [])))⟩]) (.seq (.region
  false [⟨(some 7), none, (.alloc [(.slice .nilS 0 [])])⟩]) (.seq (.seq (.region false [⟨(some 9), none, (.load false 1 (.tmp 3))⟩, ⟨(some 10), none, (.move (.tmp 2))⟩, ⟨(some 11), none, (.call false
  46 [(.tmp 9), (.tmp 10)])⟩]) (.block 0 (.rangeFunc (.tmp 11) [12] b_w_placements_a0 b_w_placements_y0))) b_w_placements_r0)))
abbrev k_w_placements_0 : List K := [.blk 0, .c b_w_placements_r0]
abbrev f_w_placements := finF [(.tmp 6)] false
def c_w_placements : AFn := .code 3 23 b_w_placements [(.tmp 6)] false
-- 27
def b_b_CopyRanges : ACode := (.seq (.region false [⟨(some 2), none, (.move (.const (.slice .nilS 0 [])))⟩]) (.seq (.region false [⟨(some 3), none, (.buildSlice 2 [] [])⟩, ⟨(some 4), none, (.move
  (.tmp 0))⟩, ⟨(some 5), none, (.append 2 (.tmp 3) (.tmp 4))⟩, ⟨(some 2), none, (.move (.tmp 5))⟩]) .ret))
abbrev f_b_CopyRanges := finF [(.tmp 2)] false
def c_b_CopyRanges : AFn := .code 1 6 b_b_CopyRanges [(.tmp 2)] false
-- 28
def b_b_CopyInts : ACode := (.seq (.region false [⟨(some 2), none, (.move (.const (.slice .nilS 0 [])))⟩]) (.seq (.region false [⟨(some 3), none, (.buildSlice 1 [] [])⟩, ⟨(some 4), none, (.move (.tmp
  0))⟩, ⟨(some 5), none, (.append 1 (.tmp 3) (.tmp 4))⟩, ⟨(some 2), none, (.move (.tmp 5))⟩]) .ret))
abbrev f_b_CopyInts := finF [(.tmp 2)] true
def c_b_CopyInts : AFn := .code 1 6 b_b_CopyInts [(.tmp 2)] true
-- 29
def b_r_WeekErr : ACode := (.seq (.region false [⟨(some 1), none, (.box 3 (.tmp 0))⟩, ⟨(some 2), none, (.move (.const (.v (.int .i64 0))))⟩]) (.seq (.region false [⟨(some 6), none, (.load true 3 (.tmp
  1))⟩, ⟨(some 7), none, (.call false 48 [(.tmp 6)])⟩, ⟨(some 5), none, (.move (.tmp 7))⟩, ⟨(some 8), none, (.extract 0 (.tmp 5))⟩, ⟨(some 9), none, (.extract 1 (.tmp 5))⟩, ⟨(some 3), none, (.alloc
  [(.v (.int .i64 0)), (.v (.int .i64 0))])⟩, ⟨none, none, (.store 2 (.tmp 3) (.tmp 8))⟩, ⟨(some 4), none, (.move (.tmp 9))⟩]) (.seq (.region false [⟨(some 10), none, (.move (.tmp 4))⟩, ⟨(some 2),
  none, (.move (.tmp 10))⟩]) .ret)))
abbrev f_r_WeekErr := finF [(.tmp 2)] false
def c_r_WeekErr : AFn := .code 1 11 b_r_WeekErr [(.tmp 2)] false
-- 30
def b_r_CheckPlan_r0 : ACode := (.seq (.region false [⟨(some 4), none, (.move (.const (.v (.int .i64 0))))⟩, ⟨(some 5), none, (.move (.const (.v (.int .i64 0))))⟩]) .ret)
def b_r_CheckPlan_l0 : ACode := (.seq (.seq (.region false [⟨(some 8), none, (.move (.tmp 6))⟩, ⟨(some 9), none, (.move (.tmp 1))⟩, ⟨(some 10), none, (.len false (.tmp 9))⟩, ⟨(some 11), none, (.arith
  .lss (.tmp 8) (.tmp 10))⟩]) (.cond (.tmp 11) .skip (.exit 0))) (.seq (.block 1 (.seq (.region false [⟨(some 14), none, (.load true 3 (.tmp 2))⟩, ⟨(some 15), none, (.move (.tmp 1))⟩, ⟨(some 16),
  none, (.move (.tmp 6))⟩, ⟨(some 17), none, (.call false 49 [(.tmp 14), (.tmp 15), (.tmp 16)])⟩, ⟨(some 7), none, (.move (.tmp 17))⟩]) (.seq (.region false [⟨(some 18), none, (.move (.tmp 7))⟩,
  ⟨(some 19), none, (.arith .neq (.tmp 18) (.const (.v (.int .i64 0))))⟩]) (.cond (.tmp 19) (.seq (.region false [⟨(some 20), none, (.move (.tmp 6))⟩, ⟨(some 21), none, (.move (.tmp 7))⟩, ⟨(some 4),
  none, (.move (.tmp 20))⟩, ⟨(some 5), none, (.move (.tmp 21))⟩]) .ret) .skip)))) (.region false [⟨(some 12), none, (.move (.tmp 6))⟩, ⟨(some 13), none, (.arith .add (.tmp 12) (.const (.v (.int .i64
  1))))⟩, ⟨(some 6), none, (.move (.tmp 13))⟩])))
def b_r_CheckPlan : ACode := (.seq (.region false [⟨(some 2), none, (.box 3 (.tmp 0))⟩, ⟨(some 4), none, (.move (.const (.v (.int .i64 0))))⟩, ⟨(some 5), none, (.move (.const (.v (.int .i64 0))))⟩])
  (.seq (.seq (.region false [⟨(some 6), none, (.move (.const (.v (.int .i64 0))))⟩]) (.block 0 (.loop b_r_CheckPlan_l0))) b_r_CheckPlan_r0))
abbrev k_r_CheckPlan_0 : List K := [.blk 0, .c b_r_CheckPlan_r0]
abbrev f_r_CheckPlan := finF [(.tmp 4), (.tmp 5)] false
def c_r_CheckPlan : AFn := .code 2 22 b_r_CheckPlan [(.tmp 4), (.tmp 5)] false
-- 31
def b_b_Within : ACode := (.seq (.region false [⟨(some 6), none, (.move (.const (.v (.bool false))))⟩]) (.seq (.region false [⟨(some 7), none, (.move (.tmp 1))⟩, ⟨(some 8), none, (.move (.tmp 0))⟩,
  ⟨(some 9), none, (.arith .leq (.tmp 7) (.tmp 8))⟩, ⟨(some 10), none, (.move (.tmp 9))⟩, ⟨(some 11), (some (10, true)), (.move (.tmp 0))⟩, ⟨(some 12), (some (10, true)), (.move (.tmp 2))⟩, ⟨(some
  13), (some (10, true)), (.arith .leq (.tmp 11) (.tmp 12))⟩, ⟨(some 14), none, (.pick (.tmp 10) (.tmp 13) (.const (.v (.bool false))))⟩, ⟨(some 6), none, (.move (.tmp 14))⟩]) .ret))
abbrev f_b_Within := finF [(.tmp 6)] false
def c_b_Within : AFn := .code 3 15 b_b_Within [(.tmp 6)] false
-- 32
def b_r_Possible_r0 : ACode := (.seq (.region false [⟨(some 56), none, (.move (.tmp 7))⟩, ⟨(some 4), none, (.move (.tmp 56))⟩]) .ret)
def b_r_Possible_r1 : ACode := (.region false [⟨(some 33), none, (.move (.tmp 8))⟩, ⟨(some 34), none, (.arith .add (.tmp 33) (.const (.v (.int .i64 1))))⟩, ⟨(some 8), none, (.move (.tmp 34))⟩])
def b_r_Possible_l1 : ACode := (.seq (.seq (.region false [⟨(some 35), none, (.move (.tmp 9))⟩, ⟨(some 36), none, (.move (.tmp 6))⟩, ⟨(some 37), none, (.len false (.tmp 36))⟩, ⟨(some 38), none,
  (.arith .lss (.tmp 35) (.tmp 37))⟩]) (.cond (.tmp 38) .skip (.exit 2))) (.seq (.block 3 (.seq (.region false [⟨(some 41), none, (.move (.tmp 1))⟩, ⟨(some 42), none, (.move (.tmp 8))⟩, ⟨(some 43),
  none, (.move (.tmp 6))⟩, ⟨(some 44), none, (.move (.tmp 9))⟩, ⟨(some 45), none, (.indexAddr none 1 (.tmp 43) (.tmp 44))⟩, ⟨(some 46), none, (.load false 1 (.tmp 45))⟩, ⟨(some 47), none, (.build [(.v
  (.int .i64 0)), (.v (.int .i64 0)), (.slice .nilS 0 [])] [(0, (1, (.tmp 41))), (1, (1, (.tmp 42))), (2, (1, (.tmp 46)))])⟩, ⟨(some 10), none, (.alloc [(.v (.int .i64 0)), (.v (.int .i64 0)), (.slice
  .nilS 0 [])])⟩, ⟨none, none, (.store 3 (.tmp 10) (.tmp 47))⟩]) (.seq (.region false [⟨(some 48), none, (.load true 3 (.tmp 2))⟩, ⟨(some 49), none, (.load true 3 (.tmp 10))⟩, ⟨(some 50), none, (.call
  false 51 [(.tmp 48), (.tmp 49)])⟩, ⟨(some 51), none, (.un .not (.tmp 50))⟩]) (.cond (.tmp 51) (.region false [⟨(some 52), none, (.move (.tmp 7))⟩, ⟨(some 53), none, (.load true 3 (.tmp 10))⟩, ⟨(some
  54), none, (.buildSlice 3 [[(.v (.int .i64 0)), (.v (.int .i64 0)), (.slice .nilS 0 [])]] [(0, (.tmp 53))])⟩, ⟨(some 55), none, (.append 3 (.tmp 52) (.tmp 54))⟩, ⟨(some 7), none, (.move (.tmp
  55))⟩]) .skip)))) (.region false [⟨(some 39), none, (.move (.tmp 9))⟩, ⟨(some 40), none, (.arith .add (.tmp 39) (.const (.v (.int .i64 1))))⟩, ⟨(some 9), none, (.move (.tmp 40))⟩])))
def b_r_Possible_l0 : ACode := (.seq (.seq (.region false [⟨(some 24), none, (.move (.tmp 8))⟩, ⟨(some 25), none, (.fieldAddr 1 (.tmp 5))⟩, ⟨(some 26), none, (.fieldAddr 1 (.tmp 25))⟩, ⟨(some 27),
  none, (.load false 1 (.tmp 26))⟩, ⟨(some 28), none, (.fieldAddr 3 (.tmp 5))⟩, ⟨(some 29), none, (.load false 1 (.tmp 28))⟩, ⟨(some 30), none, (.arith .sub (.tmp 27) (.tmp 29))⟩, ⟨(some 31), none,
  (.arith .add (.tmp 30) (.const (.v (.int .i64 1))))⟩, ⟨(some 32), none, (.arith .leq (.tmp 24) (.tmp 31))⟩]) (.cond (.tmp 32) .skip (.exit 0))) (.seq (.block 1 (.seq (.region false [⟨(some 9), none,
  (.move (.const (.v (.int .i64 0))))⟩]) (.block 2 (.loop b_r_Possible_l1)))) b_r_Possible_r1))
def b_r_Possible : ACode := (.seq (.region false [⟨(some 2), none, (.box 3 (.tmp 0))⟩, ⟨(some 4), none, (.move (.const (.slice .nilS 0 [])))⟩]) (.seq (.region false [⟨(some 11), none, (.fieldAddr 2
  (.tmp 2))⟩, ⟨(some 12), none, (.load false 1 (.tmp 11))⟩, ⟨(some 13), none, (.move (.tmp 1))⟩, ⟨(some 14), none, (.indexAddr none 7 (.tmp 12) (.tmp 13))⟩, ⟨(some 15), none, (.load true 7 (.tmp
  14))⟩, ⟨(some 5), none, (.alloc [(.v (.string ⟨#[]⟩)), (.v (.int .i64 0)), (.v (.int .i64 0)), (.v (.int .i64 0)), (.v (.int .i64 0)), (.slice .nilS 0 []), (.v (.int .i64 0))])⟩, ⟨none, none,
  (.store 7 (.tmp 5) (.tmp 15))⟩]) (.seq (.region false [⟨(some 16), none, (.fieldAddr 5 (.tmp 5))⟩, ⟨(some 17), none, (.load false 1 (.tmp 16))⟩, ⟨(some 18), none, (.fieldAddr 6 (.tmp 5))⟩, ⟨(some
  19), none, (.load false 1 (.tmp 18))⟩, ⟨(some 20), none, (.call false 50 [(.tmp 17), (.tmp 19)])⟩, ⟨(some 6), none, (.move (.tmp 20))⟩]) (.seq (.region false [⟨(some 7), none, (.move (.const (.slice
  .nilS 0 [])))⟩]) (.seq (.seq (.region false [⟨(some 21), none, (.fieldAddr 1 (.tmp 5))⟩, ⟨(some 22), none, (.fieldAddr 0 (.tmp 21))⟩, ⟨(some 23), none, (.load false 1 (.tmp 22))⟩, ⟨(some 8), none,
  (.move (.tmp 23))⟩]) (.block 0 (.loop b_r_Possible_l0))) b_r_Possible_r0)))))
abbrev k_r_Possible_1 : List K := [.blk 2, .blk 1, .c b_r_Possible_r1, .lp b_r_Possible_l0, .blk 0, .c b_r_Possible_r0]
abbrev k_r_Possible_0 : List K := [.blk 0, .c b_r_Possible_r0]
abbrev f_r_Possible := finF [(.tmp 4)] false
def c_r_Possible : AFn := .code 2 57 b_r_Possible [(.tmp 4)] false
-- 33
def b_r_Conflict_r0 : ACode := (.seq (.region false [⟨(some 6), none, (.move (.const (.v (.bool false))))⟩]) .ret)
def b_r_Conflict_l0 : ACode := (.seq (.seq (.region false [⟨(some 43), none, (.move (.tmp 10))⟩, ⟨(some 44), none, (.fieldAddr 2 (.tmp 4))⟩, ⟨(some 45), none, (.load false 1 (.tmp 44))⟩, ⟨(some 46),
  none, (.len false (.tmp 45))⟩, ⟨(some 47), none, (.arith .lss (.tmp 43) (.tmp 46))⟩]) (.cond (.tmp 47) .skip (.exit 0))) (.seq (.block 1 (.seq (.region true [⟨(some 50), none, (.fieldAddr 2 (.tmp
  5))⟩, ⟨(some 51), none, (.load false 1 (.tmp 50))⟩, ⟨(some 52), none, (.fieldAddr 2 (.tmp 4))⟩, ⟨(some 53), none, (.load false 1 (.tmp 52))⟩, ⟨(some 54), none, (.move (.tmp 10))⟩, ⟨(some 55), none,
  (.indexAddr none 1 (.tmp 53) (.tmp 54))⟩, ⟨(some 56), none, (.load false 1 (.tmp 55))⟩, ⟨(some 57), none, (.call false 52 [(.tmp 51), (.tmp 56)])⟩, ⟨(some 58), none, (.move (.tmp 57))⟩, ⟨(some 59),
  (some (58, true)), (.move (.tmp 9))⟩, ⟨(some 60), (some (58, true)), (.arith .lss (.tmp 59) (.const (.v (.int .i64 0))))⟩, ⟨(some 61), (some (58, true)), (.move (.tmp 60))⟩, ⟨(some 62), (some (61,
  false)), (.fieldAddr 0 (.tmp 7))⟩, ⟨(some 63), (some (61, false)), (.load false 1 (.tmp 62))⟩, ⟨(some 64), (some (61, false)), (.fieldAddr 0 (.tmp 8))⟩, ⟨(some 65), (some (61, false)), (.load false
  1 (.tmp 64))⟩, ⟨(some 66), (some (61, false)), (.arith .neq (.tmp 63) (.tmp 65))⟩, ⟨(some 67), (some (61, false)), (.move (.tmp 66))⟩, ⟨(some 68), (some (67, true)), (.move (.tmp 9))⟩, ⟨(some 69),
  (some (67, true)), (.fieldAddr 1 (.tmp 3))⟩, ⟨(some 70), (some (67, true)), (.load false 1 (.tmp 69))⟩, ⟨(some 71), (some (67, true)), (.fieldAddr 2 (.tmp 4))⟩, ⟨(some 72), (some (67, true)), (.load
  false 1 (.tmp 71))⟩, ⟨(some 73), (some (67, true)), (.move (.tmp 10))⟩, ⟨(some 74), (some (67, true)), (.indexAddr none 1 (.tmp 72) (.tmp 73))⟩, ⟨(some 75), (some (67, true)), (.load false 1 (.tmp
  74))⟩, ⟨(some 76), (some (67, true)), (.indexAddr none 3 (.tmp 70) (.tmp 75))⟩, ⟨(some 77), (some (67, true)), (.fieldAddr 1 (.tmp 76))⟩, ⟨(some 78), (some (67, true)), (.load false 1 (.tmp 77))⟩,
  ⟨(some 79), (some (67, true)), (.arith .lss (.tmp 68) (.tmp 78))⟩, ⟨(some 80), (some (61, false)), (.pick (.tmp 67) (.tmp 79) (.const (.v (.bool false))))⟩, ⟨(some 81), (some (58, true)), (.pick
  (.tmp 61) (.const (.v (.bool true))) (.tmp 80))⟩, ⟨(some 82), none, (.pick (.tmp 58) (.tmp 81) (.const (.v (.bool false))))⟩]) (.cond (.tmp 82) (.seq (.region false [⟨(some 6), none, (.move (.const
  (.v (.bool true))))⟩]) .ret) .skip))) (.region false [⟨(some 48), none, (.move (.tmp 10))⟩, ⟨(some 49), none, (.arith .add (.tmp 48) (.const (.v (.int .i64 1))))⟩, ⟨(some 10), none, (.move (.tmp
  49))⟩])))
def b_r_Conflict : ACode := (.seq (.region false [⟨(some 3), none, (.box 3 (.tmp 0))⟩, ⟨(some 4), none, (.box 3 (.tmp 1))⟩, ⟨(some 5), none, (.box 3 (.tmp 2))⟩, ⟨(some 6), none, (.move (.const (.v
  (.bool false))))⟩]) (.seq (.seq (.region false [⟨(some 11), none, (.fieldAddr 0 (.tmp 4))⟩, ⟨(some 12), none, (.load false 1 (.tmp 11))⟩, ⟨(some 13), none, (.fieldAddr 0 (.tmp 5))⟩, ⟨(some 14),
  none, (.load false 1 (.tmp 13))⟩, ⟨(some 15), none, (.arith .eql (.tmp 12) (.tmp 14))⟩]) (.cond (.tmp 15) (.seq (.region false [⟨(some 6), none, (.move (.const (.v (.bool true))))⟩]) .ret) .skip))
  (.seq (.seq (.region false [⟨(some 16), none, (.fieldAddr 1 (.tmp 4))⟩, ⟨(some 17), none, (.load false 1 (.tmp 16))⟩, ⟨(some 18), none, (.fieldAddr 1 (.tmp 5))⟩, ⟨(some 19), none, (.load false 1
  (.tmp 18))⟩, ⟨(some 20), none, (.arith .gtr (.tmp 17) (.tmp 19))⟩]) (.cond (.tmp 20) (.region false [⟨(some 21), none, (.load true 3 (.tmp 5))⟩, ⟨(some 22), none, (.load true 3 (.tmp 4))⟩, ⟨none,
  none, (.store 3 (.tmp 4) (.tmp 21))⟩, ⟨none, none, (.store 3 (.tmp 5) (.tmp 22))⟩]) .skip)) (.seq (.seq (.region false [⟨none, none, (.reserve 2)⟩]) (.region true [⟨(some 23), none, (.fieldAddr 2
  (.tmp 3))⟩, ⟨(some 24), none, (.loadr 2 false 1 (.tmp 23))⟩, ⟨(some 25), none, (.fieldAddr 0 (.tmp 4))⟩, ⟨(some 26), none, (.loadr 2 false 1 (.tmp 25))⟩, ⟨(some 27), none, (.indexAddr none 7 (.tmp
  24) (.tmp 26))⟩, ⟨(some 28), none, (.loadr 2 true 7 (.tmp 27))⟩, ⟨(some 29), none, (.fieldAddr 2 (.tmp 3))⟩, ⟨(some 30), none, (.loadr 2 false 1 (.tmp 29))⟩, ⟨(some 31), none, (.fieldAddr 0 (.tmp
  5))⟩, ⟨(some 32), none, (.loadr 2 false 1 (.tmp 31))⟩, ⟨(some 33), none, (.indexAddr none 7 (.tmp 30) (.tmp 32))⟩, ⟨(some 34), none, (.loadr 2 true 7 (.tmp 33))⟩, ⟨(some 7), none, (.slot 2 [(.v
  (.string ⟨#[]⟩)), (.v (.int .i64 0)), (.v (.int .i64 0)), (.v (.int .i64 0)), (.v (.int .i64 0)), (.slice .nilS 0 []), (.v (.int .i64 0))])⟩, ⟨(some 8), none, (.slot 1 [(.v (.string ⟨#[]⟩)), (.v
  (.int .i64 0)), (.v (.int .i64 0)), (.v (.int .i64 0)), (.v (.int .i64 0)), (.slice .nilS 0 []), (.v (.int .i64 0))])⟩, ⟨none, none, (.fill 2 7 (.tmp 7) (.tmp 28))⟩, ⟨none, none, (.fill 1 7 (.tmp 8)
  (.tmp 34))⟩])) (.seq (.region false [⟨(some 35), none, (.fieldAddr 1 (.tmp 5))⟩, ⟨(some 36), none, (.load false 1 (.tmp 35))⟩, ⟨(some 37), none, (.fieldAddr 1 (.tmp 4))⟩, ⟨(some 38), none, (.load
  false 1 (.tmp 37))⟩, ⟨(some 39), none, (.arith .sub (.tmp 36) (.tmp 38))⟩, ⟨(some 40), none, (.fieldAddr 3 (.tmp 7))⟩, ⟨(some 41), none, (.load false 1 (.tmp 40))⟩, ⟨(some 42), none, (.arith .sub
  (.tmp 39) (.tmp 41))⟩, ⟨(some 9), none, (.move (.tmp 42))⟩]) (.seq (.seq (.region false [⟨(some 10), none, (.move (.const (.v (.int .i64 0))))⟩]) (.block 0 (.loop b_r_Conflict_l0)))
  b_r_Conflict_r0))))))
abbrev k_r_Conflict_0 : List K := [.blk 0, .c b_r_Conflict_r0]
abbrev f_r_Conflict := finF [(.tmp 6)] false
def c_r_Conflict : AFn := .code 3 83 b_r_Conflict [(.tmp 6)] false
-- 34
def b_r_compare : ACode := (.seq (.region false [⟨(some 2), none, (.box 3 (.tmp 0))⟩, ⟨(some 3), none, (.box 3 (.tmp 1))⟩, ⟨(some 4), none, (.move (.const (.v (.int .i64 0))))⟩]) (.seq (.region false
  [⟨(some 7), none, (.fieldAddr 0 (.tmp 2))⟩, ⟨(some 8), none, (.load false 1 (.tmp 7))⟩, ⟨(some 9), none, (.fieldAddr 1 (.tmp 2))⟩, ⟨(some 10), none, (.load false 1 (.tmp 9))⟩, ⟨(some 11), none,
  (.buildSlice 1 [[(.v (.int .i64 0))], [(.v (.int .i64 0))]] [(0, (.tmp 8)), (1, (.tmp 10))])⟩, ⟨(some 12), none, (.fieldAddr 2 (.tmp 2))⟩, ⟨(some 13), none, (.load false 1 (.tmp 12))⟩, ⟨(some 14),
  none, (.append 1 (.tmp 11) (.tmp 13))⟩, ⟨(some 5), none, (.move (.tmp 14))⟩]) (.seq (.region false [⟨(some 15), none, (.fieldAddr 0 (.tmp 3))⟩, ⟨(some 16), none, (.load false 1 (.tmp 15))⟩, ⟨(some
  17), none, (.fieldAddr 1 (.tmp 3))⟩, ⟨(some 18), none, (.load false 1 (.tmp 17))⟩, ⟨(some 19), none, (.buildSlice 1 [[(.v (.int .i64 0))], [(.v (.int .i64 0))]] [(0, (.tmp 16)), (1, (.tmp 18))])⟩,
  ⟨(some 20), none, (.fieldAddr 2 (.tmp 3))⟩, ⟨(some 21), none, (.load false 1 (.tmp 20))⟩, ⟨(some 22), none, (.append 1 (.tmp 19) (.tmp 21))⟩, ⟨(some 6), none, (.move (.tmp 22))⟩]) (.seq (.seq
  (.region false [⟨(some 23), none, (.move (.tmp 5))⟩, ⟨(some 24), none, (.move (.tmp 6))⟩, ⟨(some 25), none, (.call false 53 [(.tmp 23), (.tmp 24)])⟩]) (.cond (.tmp 25) (.seq (.region false [⟨(some
  4), none, (.move (.const (.v (.int .i64 (-1)))))⟩]) .ret) .skip)) (.seq (.seq (.region false [⟨(some 26), none, (.move (.tmp 6))⟩, ⟨(some 27), none, (.move (.tmp 5))⟩, ⟨(some 28), none, (.call false
  53 [(.tmp 26), (.tmp 27)])⟩]) (.cond (.tmp 28) (.seq (.region false [⟨(some 4), none, (.move (.const (.v (.int .i64 1))))⟩]) .ret) .skip)) (.seq (.region false [⟨(some 4), none, (.move (.const (.v
  (.int .i64 0))))⟩]) .ret))))))
abbrev f_r_compare := finF [(.tmp 4)] false
def c_r_compare : AFn := .code 2 29 b_r_compare [(.tmp 4)] false
-- 35
def b_s_openSmall : ACode := (.seq (.region false [⟨(some 1), none, (.box 3 (.tmp 0))⟩, ⟨(some 2), none, (.move (.const (.v (.pointer none))))⟩, ⟨(some 3), none, (.move (.const (.v (.int .i64 0))))⟩])
  (.seq (.region false [⟨(some 9), none, (.load true 3 (.tmp 1))⟩, ⟨(some 10), none, (.call false 41 [(.tmp 9)])⟩, ⟨(some 8), none, (.move (.tmp 10))⟩, ⟨(some 11), none, (.extract 0 (.tmp 8))⟩, ⟨(some
  12), none, (.extract 1 (.tmp 8))⟩, ⟨(some 4), none, (.move (.tmp 11))⟩, ⟨(some 5), none, (.move (.tmp 12))⟩]) (.seq (.seq (.region false [⟨(some 13), none, (.move (.tmp 5))⟩, ⟨(some 14), none,
  (.arith .neq (.tmp 13) (.const (.v (.int .i64 0))))⟩]) (.cond (.tmp 14) (.seq (.region false [⟨(some 15), none, (.move (.tmp 5))⟩, ⟨(some 2), none, (.move (.const (.v (.pointer none))))⟩, ⟨(some 3),
  none, (.move (.tmp 15))⟩]) .ret) .skip)) (.seq (.region false [⟨(some 6), none, (.move (.const (.fn 54 [] [])))⟩]) (.seq (.region false [⟨(some 16), none, (.fieldAddr 2 (.tmp 1))⟩, ⟨(some 17), none,
  (.load false 1 (.tmp 16))⟩, ⟨(some 18), none, (.len false (.tmp 17))⟩, ⟨(some 19), none, (.arith .leq (.tmp 18) (.const (.v (.int .i64 6))))⟩, ⟨(some 20), none, (.move (.tmp 19))⟩, ⟨(some 21), (some
  (20, true)), (.fieldAddr 2 (.tmp 1))⟩, ⟨(some 22), (some (20, true)), (.load false 1 (.tmp 21))⟩, ⟨(some 23), (some (20, true)), (.move (.tmp 6))⟩, ⟨(some 24), (some (20, true)), (.call false 55
  [(.tmp 22), (.tmp 23)])⟩, ⟨(some 25), (some (20, true)), (.un .not (.tmp 24))⟩, ⟨(some 26), none, (.pick (.tmp 20) (.tmp 25) (.const (.v (.bool false))))⟩, ⟨(some 7), none, (.move (.tmp 26))⟩])
  (.seq (.region false [⟨(some 27), none, (.move (.tmp 4))⟩, ⟨(some 28), none, (.move (.tmp 7))⟩, ⟨(some 29), none, (.call false 25 [(.tmp 28), (.const (.v (.int .i64 8)))])⟩, ⟨(some 2), none, (.move
  (.tmp 27))⟩, ⟨(some 3), none, (.move (.tmp 29))⟩]) .ret))))))
abbrev f_s_openSmall := finF [(.tmp 2), (.tmp 3)] false
def c_s_openSmall : AFn := .code 1 30 b_s_openSmall [(.tmp 2), (.tmp 3)] false
-- 36
def b_w_free_r0 : ACode := (.seq (.region false [⟨(some 26), none, (.load true 2 (.tmp 3))⟩, ⟨none, none, (.store 2 (.tmp 2) (.tmp 26))⟩]) .ret)
def b_w_free_l0 : ACode := (.seq (.region false [⟨(some 14), none, (.arith .lss (.tmp 13) (.tmp 12))⟩]) (.seq (.cond (.tmp 14) .skip (.exit 0)) (.seq (.block 1 (.seq (.region false [⟨(some 15), none,
  (.move (.tmp 13))⟩, ⟨(some 4), none, (.move (.tmp 15))⟩]) (.region true [⟨(some 16), none, (.fieldAddr 1 (.tmp 3))⟩, ⟨(some 17), none, (.load false 1 (.tmp 16))⟩, ⟨(some 18), none, (.move (.tmp
  0))⟩, ⟨(some 19), none, (.move (.tmp 4))⟩, ⟨(some 20), none, (.call true 26 [(.tmp 18), (.const (.slice .nilS 0 [])), (.tmp 19)])⟩, ⟨(some 21), none, (.build [(.slice .nilS 0 []), (.v (.bool
  false))] [(0, (1, (.tmp 20))), (1, (1, (.const (.v (.bool true)))))])⟩, ⟨(some 22), none, (.buildSlice 2 [[(.slice .nilS 0 []), (.v (.bool false))]] [(0, (.tmp 21))])⟩, ⟨(some 23), none, (.append 2
  (.tmp 17) (.tmp 22))⟩, ⟨(some 24), none, (.fieldAddr 1 (.tmp 3))⟩, ⟨none, none, (.store 1 (.tmp 24) (.tmp 23))⟩]))) (.region false [⟨(some 25), none, (.arith .add (.tmp 13) (.const (.v (.int .i64
  1))))⟩, ⟨(some 13), none, (.move (.tmp 25))⟩]))))
def b_w_free : ACode := (.seq (.region false [⟨(some 2), none, (.alloc [(.v (.pointer none)), (.slice .nilS 0 [])])⟩]) (.seq (.region false [⟨(some 5), none, (.move (.tmp 0))⟩, ⟨(some 6), none,
  (.build [(.v (.pointer none)), (.slice .nilS 0 [])] [(0, (1, (.tmp 5)))])⟩, ⟨(some 3), none, (.alloc [(.v (.pointer none)), (.slice .nilS 0 [])])⟩, ⟨none, none, (.store 2 (.tmp 3) (.tmp 6))⟩]) (.seq
  (.seq (.region false [⟨(some 7), none, (.move (.tmp 0))⟩, ⟨(some 8), none, (.nilCheck (.tmp 7))⟩, ⟨(some 9), none, (.fieldAddr 0 (.tmp 8))⟩, ⟨(some 10), none, (.fieldAddr 2 (.tmp 9))⟩, ⟨(some 11),
  none, (.load false 1 (.tmp 10))⟩, ⟨(some 12), none, (.len false (.tmp 11))⟩, ⟨(some 13), none, (.move (.const (.v (.int .i64 0))))⟩]) (.block 0 (.loop b_w_free_l0))) b_w_free_r0)))
abbrev k_w_free_0 : List K := [.blk 0, .c b_w_free_r0]
abbrev f_w_free := finF [(.cell true 2 2)] false
def c_w_free : AFn := .code 1 27 b_w_free [(.cell true 2 2)] false
-- 37
def b_c_best_r0 : ACode := (.seq (.seq (.region false [⟨(some 61), none, (.move (.tmp 5))⟩, ⟨(some 62), none, (.move (.tmp 10))⟩, ⟨(some 63), none, (.call false 59 [(.tmp 61), (.tmp 62)])⟩]) (.cond
  (.tmp 63) (.seq (.region false [⟨(some 64), none, (.move (.tmp 9))⟩, ⟨(some 65), none, (.move (.tmp 6))⟩, ⟨(some 2), none, (.move (.tmp 64))⟩, ⟨(some 3), none, (.move (.tmp 65))⟩, ⟨(some 4), none,
  (.move (.const (.v (.bool true))))⟩]) .ret) .skip)) (.seq (.region false [⟨(some 67), none, (.load true 2 (.tmp 1))⟩, ⟨(some 68), none, (.move (.tmp 9))⟩, ⟨(some 69), none, (.move (.tmp 10))⟩,
  ⟨(some 70), none, (.move (.tmp 5))⟩, ⟨(some 71), none, (.call false 60 [(.tmp 67), (.tmp 68), (.tmp 69), (.tmp 70)])⟩, ⟨(some 66), none, (.move (.tmp 71))⟩, ⟨(some 72), none, (.extract 0 (.tmp
  66))⟩, ⟨(some 73), none, (.extract 1 (.tmp 66))⟩, ⟨(some 13), none, (.alloc [(.v (.int .i64 0)), (.v (.int .i64 0)), (.slice .nilS 0 [])])⟩, ⟨none, none, (.store 3 (.tmp 13) (.tmp 72))⟩, ⟨(some 14),
  none, (.move (.tmp 73))⟩]) (.seq (.seq (.region false [⟨(some 74), none, (.move (.tmp 14))⟩, ⟨(some 75), none, (.un .not (.tmp 74))⟩]) (.cond (.tmp 75) (.seq (.region false [⟨(some 76), none, (.move
  (.tmp 9))⟩, ⟨(some 77), none, (.move (.tmp 6))⟩, ⟨(some 2), none, (.move (.tmp 76))⟩, ⟨(some 3), none, (.move (.tmp 77))⟩, ⟨(some 4), none, (.move (.const (.v (.bool true))))⟩]) .ret) .skip))
  (.region false [⟨(some 78), none, (.move (.tmp 9))⟩, ⟨(some 79), none, (.load true 3 (.tmp 13))⟩, ⟨(some 80), none, (.buildSlice 3 [[(.v (.int .i64 0)), (.v (.int .i64 0)), (.slice .nilS 0 [])]]
  [(0, (.tmp 79))])⟩, ⟨(some 81), none, (.append 3 (.tmp 78) (.tmp 80))⟩, ⟨(some 9), none, (.move (.tmp 81))⟩]))))
def b_c_best_l1 : ACode := (.seq (.region false [⟨(some 52), none, (.arith .lss (.tmp 51) (.tmp 50))⟩]) (.seq (.cond (.tmp 52) .skip (.exit 4)) (.seq (.block 5 (.seq (.region false [⟨(some 53), none,
  (.indexAddr none 3 (.tmp 49) (.tmp 51))⟩, ⟨(some 54), none, (.load true 3 (.tmp 53))⟩, ⟨(some 12), none, (.alloc [(.v (.int .i64 0)), (.v (.int .i64 0)), (.slice .nilS 0 [])])⟩, ⟨none, none, (.store
  3 (.tmp 12) (.tmp 54))⟩]) (.region false [⟨(some 55), none, (.move (.tmp 10))⟩, ⟨(some 56), none, (.fieldAddr 0 (.tmp 12))⟩, ⟨(some 57), none, (.load false 1 (.tmp 56))⟩, ⟨(some 58), none, (.arith
  .shl (.const (.v (.int .i64 1))) (.tmp 57))⟩, ⟨(some 59), none, (.arith .or (.tmp 55) (.tmp 58))⟩, ⟨(some 10), none, (.move (.tmp 59))⟩]))) (.region false [⟨(some 60), none, (.arith .add (.tmp 51)
  (.const (.v (.int .i64 1))))⟩, ⟨(some 51), none, (.move (.tmp 60))⟩]))))
def b_c_best_l0 : ACode := (.block 3 (.seq (.region false [⟨(some 10), none, (.move (.const (.v (.int .i64 0))))⟩]) (.seq (.seq (.region false [⟨(some 49), none, (.move (.tmp 9))⟩, ⟨(some 50), none,
  (.len false (.tmp 49))⟩, ⟨(some 51), none, (.move (.const (.v (.int .i64 0))))⟩]) (.block 4 (.loop b_c_best_l1))) b_c_best_r0)))
def b_c_best_r1 : ACode := (.seq (.seq (.region false [⟨(some 47), none, (.move (.tmp 6))⟩, ⟨(some 48), none, (.arith .lss (.tmp 47) (.const (.v (.int .i64 0))))⟩]) (.cond (.tmp 48) (.seq (.region
  false [⟨(some 2), none, (.move (.const (.slice .nilS 0 [])))⟩, ⟨(some 3), none, (.move (.const (.v (.int .i64 0))))⟩, ⟨(some 4), none, (.move (.const (.v (.bool false))))⟩]) .ret) .skip)) (.seq
  (.region false [⟨(some 9), none, (.move (.const (.slice .nilS 0 [])))⟩]) (.block 2 (.loop b_c_best_l0))))
def b_c_best_l2 : ACode := (.seq (.region false [⟨(some 20), none, (.arith .lss (.tmp 19) (.tmp 18))⟩]) (.seq (.cond (.tmp 20) .skip (.exit 0)) (.seq (.block 1 (.seq (.region false [⟨(some 21), none,
  (.move (.tmp 19))⟩, ⟨(some 7), none, (.move (.tmp 21))⟩]) (.seq (.region false [⟨(some 22), none, (.load true 2 (.tmp 1))⟩, ⟨(some 23), none, (.move (.tmp 7))⟩, ⟨(some 24), none, (.call false 56
  [(.tmp 22), (.tmp 23)])⟩, ⟨(some 8), none, (.move (.tmp 24))⟩]) (.seq (.region false [⟨(some 25), none, (.move (.tmp 8))⟩, ⟨(some 26), none, (.move (.tmp 6))⟩, ⟨(some 27), none, (.arith .geq (.tmp
  25) (.tmp 26))⟩, ⟨(some 28), none, (.move (.tmp 27))⟩, ⟨(some 29), (some (28, true)), (.load true 2 (.tmp 1))⟩, ⟨(some 30), (some (28, true)), (.move (.tmp 7))⟩, ⟨(some 31), (some (28, true)),
  (.call false 57 [(.tmp 29), (.tmp 30)])⟩, ⟨(some 32), none, (.pick (.tmp 28) (.tmp 31) (.const (.v (.bool false))))⟩, ⟨(some 33), none, (.move (.tmp 32))⟩, ⟨(some 34), (some (33, true)), (.load true
  2 (.tmp 1))⟩, ⟨(some 35), (some (33, true)), (.move (.tmp 7))⟩, ⟨(some 36), (some (33, true)), (.call false 58 [(.tmp 34), (.const (.slice .nilS 0 [])), (.tmp 35)])⟩, ⟨(some 37), none, (.pick (.tmp
  33) (.tmp 36) (.const (.v (.bool false))))⟩]) (.cond (.tmp 37) (.seq (.seq (.region false [⟨(some 38), none, (.move (.tmp 8))⟩, ⟨(some 39), none, (.move (.tmp 6))⟩, ⟨(some 40), none, (.arith .gtr
  (.tmp 38) (.tmp 39))⟩]) (.cond (.tmp 40) (.region false [⟨(some 41), none, (.move (.tmp 8))⟩, ⟨(some 5), none, (.move (.const (.slice .nilS 0 [])))⟩, ⟨(some 6), none, (.move (.tmp 41))⟩]) .skip))
  (.region false [⟨(some 42), none, (.move (.tmp 5))⟩, ⟨(some 43), none, (.move (.tmp 7))⟩, ⟨(some 44), none, (.buildSlice 1 [[(.v (.int .i64 0))]] [(0, (.tmp 43))])⟩, ⟨(some 45), none, (.append 1
  (.tmp 42) (.tmp 44))⟩, ⟨(some 5), none, (.move (.tmp 45))⟩])) .skip))))) (.region false [⟨(some 46), none, (.arith .add (.tmp 19) (.const (.v (.int .i64 1))))⟩, ⟨(some 19), none, (.move (.tmp
  46))⟩]))))
def b_c_best : ACode := (.seq (.region false [⟨(some 1), none, (.box 2 (.tmp 0))⟩, ⟨(some 2), none, (.move (.const (.slice .nilS 0 [])))⟩, ⟨(some 3), none, (.move (.const (.v (.int .i64 0))))⟩, ⟨(some
  4), none, (.move (.const (.v (.bool false))))⟩]) (.seq (.region false [⟨(some 5), none, (.move (.const (.slice .nilS 0 [])))⟩]) (.seq (.region false [⟨(some 6), none, (.move (.const (.v (.int .i64
  (-1)))))⟩]) (.seq (.seq (.region false [⟨(some 15), none, (.fieldAddr 1 (.tmp 1))⟩, ⟨(some 16), none, (.load false 1 (.tmp 15))⟩, ⟨(some 17), none, (.len false (.tmp 16))⟩, ⟨(some 18), none, (.arith
  .shl (.const (.v (.int .i64 1))) (.tmp 17))⟩, ⟨(some 19), none, (.move (.const (.v (.int .i64 0))))⟩]) (.block 0 (.loop b_c_best_l2))) b_c_best_r1))))
abbrev k_c_best_1 : List K := [.blk 4, .c b_c_best_r0, .blk 3, .lp b_c_best_l0, .blk 2]
abbrev k_c_best_0 : List K := [.blk 2]
abbrev k_c_best_2 : List K := [.blk 0, .c b_c_best_r1]
abbrev f_c_best := finF [(.tmp 2), (.tmp 3), (.tmp 4)] false
def c_c_best : AFn := .code 1 82 b_c_best [(.tmp 2), (.tmp 3), (.tmp 4)] false
-- 38
def b_s_share_r0 : ACode := (.seq (.region true [⟨(some 18), none, (.move (.tmp 0))⟩, ⟨(some 19), none, (.move (.tmp 5))⟩, ⟨(some 20), none, (.arith .quo (.tmp 18) (.tmp 19))⟩, ⟨(some 21), none,
  (.move (.tmp 1))⟩, ⟨(some 22), none, (.move (.tmp 5))⟩, ⟨(some 23), none, (.arith .quo (.tmp 21) (.tmp 22))⟩, ⟨(some 24), none, (.build [(.v (.int .i64 0)), (.v (.int .i64 0))] [(0, (1, (.tmp 20))),
  (1, (1, (.tmp 23)))])⟩, ⟨none, none, (.store 2 (.tmp 4) (.tmp 24))⟩]) .ret)
def b_s_share_l0 : ACode := (.seq (.seq (.region false [⟨(some 12), none, (.move (.tmp 6))⟩, ⟨(some 13), none, (.arith .neq (.tmp 12) (.const (.v (.int .i64 0))))⟩]) (.cond (.tmp 13) .skip (.exit 0)))
  (.block 1 (.region true [⟨(some 14), none, (.move (.tmp 6))⟩, ⟨(some 15), none, (.move (.tmp 5))⟩, ⟨(some 16), none, (.move (.tmp 6))⟩, ⟨(some 17), none, (.arith .rem (.tmp 15) (.tmp 16))⟩, ⟨(some
  5), none, (.move (.tmp 14))⟩, ⟨(some 6), none, (.move (.tmp 17))⟩])))
def b_s_share : ACode := (.seq (.region false [⟨(some 4), none, (.alloc [(.v (.int .i64 0)), (.v (.int .i64 0))])⟩]) (.seq (.seq (.region false [⟨(some 7), none, (.move (.tmp 1))⟩, ⟨(some 8), none,
  (.arith .eql (.tmp 7) (.const (.v (.int .i64 0))))⟩]) (.cond (.tmp 8) (.seq (.region false [⟨(some 9), none, (.build [(.v (.int .i64 0)), (.v (.int .i64 0))] [(0, (1, (.const (.v (.int .i64 0))))),
  (1, (1, (.const (.v (.int .i64 1)))))])⟩, ⟨none, none, (.store 2 (.tmp 4) (.tmp 9))⟩]) .ret) .skip)) (.seq (.region false [⟨(some 10), none, (.move (.tmp 0))⟩, ⟨(some 11), none, (.move (.tmp 1))⟩,
  ⟨(some 5), none, (.move (.tmp 10))⟩, ⟨(some 6), none, (.move (.tmp 11))⟩]) (.seq (.block 0 (.loop b_s_share_l0)) b_s_share_r0))))
abbrev k_s_share_0 : List K := [.blk 0, .c b_s_share_r0]
abbrev f_s_share := finF [(.cell true 2 4)] false
def c_s_share : AFn := .code 2 25 b_s_share [(.cell true 2 4)] false
-- 41
def b_s_open_r0 : ACode := (.seq (.region false [⟨(some 55), none, (.move (.tmp 6))⟩, ⟨(some 2), none, (.move (.tmp 55))⟩, ⟨(some 3), none, (.move (.const (.v (.int .i64 0))))⟩]) .ret)
def b_s_open_r1 : ACode := (.region false [⟨(some 54), none, (.arith .add (.tmp 26) (.const (.v (.int .i64 1))))⟩, ⟨(some 26), none, (.move (.tmp 54))⟩])
def b_s_open_r2 : ACode := (.region false [⟨(some 53), none, (.arith .add (.tmp 34) (.const (.v (.int .i64 1))))⟩, ⟨(some 34), none, (.move (.tmp 53))⟩])
def b_s_open_l2 : ACode := (.seq (.seq (.region false [⟨(some 40), none, (.move (.tmp 11))⟩, ⟨(some 41), none, (.fieldAddr 1 (.tmp 10))⟩, ⟨(some 42), none, (.load false 1 (.tmp 41))⟩, ⟨(some 43),
  none, (.arith .leq (.tmp 40) (.tmp 42))⟩]) (.cond (.tmp 43) .skip (.exit 4))) (.seq (.block 5 (.region false [⟨(some 46), none, (.move (.tmp 6))⟩, ⟨(some 47), none, (.move (.tmp 7))⟩, ⟨(some 48),
  none, (.move (.tmp 11))⟩, ⟨(some 49), none, (.nilCheck (.tmp 46))⟩, ⟨(some 50), none, (.fieldAddr 3 (.tmp 49))⟩, ⟨(some 51), none, (.indexAddr (some 4) 200 (.tmp 50) (.tmp 47))⟩, ⟨(some 52), none,
  (.indexAddr (some 200) 1 (.tmp 51) (.tmp 48))⟩, ⟨none, none, (.store 1 (.tmp 52) (.const (.v (.bool true))))⟩])) (.region false [⟨(some 44), none, (.move (.tmp 11))⟩, ⟨(some 45), none, (.arith .add
  (.tmp 44) (.const (.v (.int .i64 1))))⟩, ⟨(some 11), none, (.move (.tmp 45))⟩])))
def b_s_open_l1 : ACode := (.seq (.region false [⟨(some 35), none, (.arith .lss (.tmp 34) (.tmp 33))⟩]) (.seq (.cond (.tmp 35) .skip (.exit 2)) (.seq (.block 3 (.seq (.region false [⟨(some 36), none,
  (.indexAddr none 2 (.tmp 32) (.tmp 34))⟩, ⟨(some 37), none, (.load true 2 (.tmp 36))⟩, ⟨(some 10), none, (.alloc [(.v (.int .i64 0)), (.v (.int .i64 0))])⟩, ⟨none, none, (.store 2 (.tmp 10) (.tmp
  37))⟩]) (.seq (.region false [⟨(some 38), none, (.fieldAddr 0 (.tmp 10))⟩, ⟨(some 39), none, (.load false 1 (.tmp 38))⟩, ⟨(some 11), none, (.move (.tmp 39))⟩]) (.block 4 (.loop b_s_open_l2)))))
  b_s_open_r2)))
def b_s_open_l0 : ACode := (.seq (.region false [⟨(some 27), none, (.arith .lss (.tmp 26) (.tmp 25))⟩]) (.seq (.cond (.tmp 27) .skip (.exit 0)) (.seq (.block 1 (.seq (.region false [⟨(some 28), none,
  (.move (.tmp 26))⟩, ⟨(some 29), none, (.indexAddr none 3 (.tmp 24) (.tmp 26))⟩, ⟨(some 30), none, (.load true 3 (.tmp 29))⟩, ⟨(some 8), none, (.alloc [(.v (.string ⟨#[]⟩)), (.v (.int .i64 0)),
  (.slice .nilS 0 [])])⟩, ⟨(some 7), none, (.move (.tmp 28))⟩, ⟨none, none, (.store 3 (.tmp 8) (.tmp 30))⟩]) (.seq (.region false [⟨(some 31), none, (.fieldAddr 2 (.tmp 8))⟩, ⟨(some 32), none, (.load
  false 1 (.tmp 31))⟩, ⟨(some 33), none, (.len false (.tmp 32))⟩, ⟨(some 34), none, (.move (.const (.v (.int .i64 0))))⟩]) (.block 2 (.loop b_s_open_l1))))) b_s_open_r1)))
def b_s_open : ACode := (.seq (.region false [⟨(some 1), none, (.box 3 (.tmp 0))⟩, ⟨(some 2), none, (.move (.const (.v (.pointer none))))⟩, ⟨(some 3), none, (.move (.const (.v (.int .i64 0))))⟩])
  (.seq (.seq (.region false [⟨(some 13), none, (.load true 3 (.tmp 1))⟩, ⟨(some 14), none, (.call false 65 [(.tmp 13)])⟩, ⟨(some 12), none, (.move (.tmp 14))⟩, ⟨(some 15), none, (.extract 0 (.tmp
  12))⟩, ⟨(some 16), none, (.extract 1 (.tmp 12))⟩, ⟨(some 4), none, (.alloc [(.v (.int .i64 0)), (.v (.int .i64 0))])⟩, ⟨none, none, (.store 2 (.tmp 4) (.tmp 15))⟩, ⟨(some 5), none, (.move (.tmp
  16))⟩]) (.seq (.region false [⟨(some 17), none, (.move (.tmp 5))⟩, ⟨(some 18), none, (.arith .neq (.tmp 17) (.const (.v (.int .i64 0))))⟩]) (.cond (.tmp 18) (.seq (.region false [⟨(some 19), none,
  (.move (.tmp 5))⟩, ⟨(some 2), none, (.move (.const (.v (.pointer none))))⟩, ⟨(some 3), none, (.move (.tmp 19))⟩]) .ret) .skip))) (.seq (.region false [⟨(some 20), none, (.load true 3 (.tmp 1))⟩,
  ⟨(some 21), none, (.build ((.v (.int .i64 0)) :: (.slice .nilS 0 []) :: (.slice .nilS 0 []) :: zeros 800) [(0, (3, (.tmp 20)))])⟩, ⟨(some 22), none, (.box 803 (.tmp 21))⟩, ⟨(some 6), none, (.move
  (.tmp 22))⟩]) (.seq (.seq (.region false [⟨(some 23), none, (.fieldAddr 1 (.tmp 1))⟩, ⟨(some 24), none, (.load false 1 (.tmp 23))⟩, ⟨(some 25), none, (.len false (.tmp 24))⟩, ⟨(some 26), none,
  (.move (.const (.v (.int .i64 0))))⟩]) (.block 0 (.loop b_s_open_l0))) b_s_open_r0))))
abbrev k_s_open_2 : List K := [.blk 4, .blk 3, .c b_s_open_r2, .lp b_s_open_l1, .blk 2, .blk 1, .c b_s_open_r1, .lp b_s_open_l0, .blk 0, .c b_s_open_r0]
abbrev k_s_open_1 : List K := [.blk 2, .blk 1, .c b_s_open_r1, .lp b_s_open_l0, .blk 0, .c b_s_open_r0]
abbrev k_s_open_0 : List K := [.blk 0, .c b_s_open_r0]
abbrev f_s_open := finF [(.tmp 2), (.tmp 3)] false
def c_s_open : AFn := .code 1 56 b_s_open [(.tmp 2), (.tmp 3)] false
-- 42
def b_w_check_r0 : ACode := (.seq (.region false [⟨(some 4), none, (.move (.const (.v (.int .i64 0))))⟩, ⟨(some 5), none, (.move (.const (.v (.int .i64 0))))⟩]) .ret)
def b_w_check_l0 : ACode := (.seq (.region false [⟨(some 12), none, (.arith .lss (.tmp 11) (.tmp 10))⟩]) (.seq (.cond (.tmp 12) .skip (.exit 0)) (.seq (.block 1 (.seq (.region false [⟨(some 13), none,
  (.move (.tmp 11))⟩, ⟨(some 14), none, (.indexAddr none 3 (.tmp 9) (.tmp 11))⟩, ⟨(some 15), none, (.load true 3 (.tmp 14))⟩, ⟨(some 7), none, (.alloc [(.v (.int .i64 0)), (.v (.int .i64 0)), (.slice
  .nilS 0 [])])⟩, ⟨(some 6), none, (.move (.tmp 13))⟩, ⟨none, none, (.store 3 (.tmp 7) (.tmp 15))⟩]) (.seq (.region true [⟨(some 16), none, (.move (.tmp 0))⟩, ⟨(some 17), none, (.load true 3 (.tmp
  7))⟩, ⟨(some 18), none, (.move (.tmp 1))⟩, ⟨(some 19), none, (.move (.tmp 6))⟩, ⟨(some 20), none, (.slice (.sl 3) (.tmp 18) none (some (.tmp 19)) none)⟩, ⟨(some 21), none, (.call false 66 [(.tmp
  16), (.tmp 17), (.tmp 20)])⟩, ⟨(some 8), none, (.move (.tmp 21))⟩]) (.seq (.region false [⟨(some 22), none, (.move (.tmp 8))⟩, ⟨(some 23), none, (.arith .neq (.tmp 22) (.const (.v (.int .i64
  0))))⟩]) (.cond (.tmp 23) (.seq (.region false [⟨(some 24), none, (.move (.tmp 6))⟩, ⟨(some 25), none, (.move (.tmp 8))⟩, ⟨(some 4), none, (.move (.tmp 24))⟩, ⟨(some 5), none, (.move (.tmp 25))⟩])
  .ret) .skip))))) (.region false [⟨(some 26), none, (.arith .add (.tmp 11) (.const (.v (.int .i64 1))))⟩, ⟨(some 11), none, (.move (.tmp 26))⟩]))))
def b_w_check : ACode := (.seq (.region false [⟨(some 4), none, (.move (.const (.v (.int .i64 0))))⟩, ⟨(some 5), none, (.move (.const (.v (.int .i64 0))))⟩]) (.seq (.seq (.region false [⟨(some 9),
  none, (.move (.tmp 1))⟩, ⟨(some 10), none, (.len false (.tmp 9))⟩, ⟨(some 11), none, (.move (.const (.v (.int .i64 0))))⟩]) (.block 0 (.loop b_w_check_l0))) b_w_check_r0))
abbrev k_w_check_0 : List K := [.blk 0, .c b_w_check_r0]
abbrev f_w_check := finF [(.tmp 4), (.tmp 5)] false
def c_w_check : AFn := .code 2 27 b_w_check [(.tmp 4), (.tmp 5)] false
-- 43
def b_z_IndexFunc_SchedulePass_r0 : ACode := (.seq (.region false [⟨(some 4), none, (.move (.const (.v (.int .i64 (-1)))))⟩]) .ret)
def b_z_IndexFunc_SchedulePass_l0 : ACode := (.seq (.region false [⟨(some 9), none, (.arith .lss (.tmp 8) (.tmp 7))⟩]) (.seq (.cond (.tmp 9) .skip (.exit 0)) (.seq (.block 1 (.seq (.region false
  [⟨(some 10), none, (.move (.tmp 8))⟩, ⟨(some 5), none, (.move (.tmp 10))⟩]) (.seq (.region false [⟨(some 11), none, (.move (.tmp 1))⟩, ⟨(some 12), none, (.move (.tmp 0))⟩, ⟨(some 13), none, (.move
  (.tmp 5))⟩, ⟨(some 14), none, (.indexAddr none 3 (.tmp 12) (.tmp 13))⟩, ⟨(some 15), none, (.load true 3 (.tmp 14))⟩, ⟨(some 16), none, (.callv false (.tmp 11) [(.tmp 15)])⟩]) (.cond (.tmp 16) (.seq
  (.region false [⟨(some 17), none, (.move (.tmp 5))⟩, ⟨(some 4), none, (.move (.tmp 17))⟩]) .ret) .skip)))) (.region false [⟨(some 18), none, (.arith .add (.tmp 8) (.const (.v (.int .i64 1))))⟩,
  ⟨(some 8), none, (.move (.tmp 18))⟩]))))
def b_z_IndexFunc_SchedulePass : ACode := (.seq (.region false [⟨(some 4), none, (.move (.const (.v (.int .i64 0))))⟩]) (.seq (.seq (.region false [⟨(some 6), none, (.move (.tmp 0))⟩, ⟨(some 7), none,
  (.len false (.tmp 6))⟩, ⟨(some 8), none, (.move (.const (.v (.int .i64 0))))⟩]) (.block 0 (.loop b_z_IndexFunc_SchedulePass_l0))) b_z_IndexFunc_SchedulePass_r0))
abbrev k_z_IndexFunc_SchedulePass_0 : List K := [.blk 0, .c b_z_IndexFunc_SchedulePass_r0]
abbrev f_z_IndexFunc_SchedulePass := finF [(.tmp 4)] false
def c_z_IndexFunc_SchedulePass : AFn := .code 2 19 b_z_IndexFunc_SchedulePass [(.tmp 4)] false
-- 44
def b_s_passOf_1 : ACode := (.seq (.region false [⟨(some 2), none, (.box 3 (.tmp 0))⟩, ⟨(some 3), none, (.move (.const (.v (.bool false))))⟩]) (.seq (.region false [⟨(some 4), none, (.fieldAddr 0
  (.tmp 2))⟩, ⟨(some 5), none, (.load false 1 (.tmp 4))⟩, ⟨(some 6), none, (.load false 1 (.tmp 1))⟩, ⟨(some 7), none, (.arith .eql (.tmp 5) (.tmp 6))⟩, ⟨(some 3), none, (.move (.tmp 7))⟩]) .ret))
abbrev f_s_passOf_1 := finF [(.tmp 3)] false
def c_s_passOf_1 : AFn := .code 2 8 b_s_passOf_1 [(.tmp 3)] false
-- 45
def b_s_within : ACode := (.seq (.region false [⟨(some 6), none, (.move (.const (.v (.bool false))))⟩]) (.seq (.region false [⟨(some 7), none, (.move (.tmp 1))⟩, ⟨(some 8), none, (.move (.tmp 0))⟩,
  ⟨(some 9), none, (.arith .leq (.tmp 7) (.tmp 8))⟩, ⟨(some 10), none, (.move (.tmp 9))⟩, ⟨(some 11), (some (10, true)), (.move (.tmp 0))⟩, ⟨(some 12), (some (10, true)), (.move (.tmp 2))⟩, ⟨(some
  13), (some (10, true)), (.arith .leq (.tmp 11) (.tmp 12))⟩, ⟨(some 14), none, (.pick (.tmp 10) (.tmp 13) (.const (.v (.bool false))))⟩, ⟨(some 6), none, (.move (.tmp 14))⟩]) .ret))
abbrev f_s_within := finF [(.tmp 6)] false
def c_s_within : AFn := .code 3 15 b_s_within [(.tmp 6)] false
-- 46
def b_w_possible : ACode := (.seq (.region false [⟨(some 2), none, (.box 1 (.tmp 0))⟩, ⟨(some 3), none, (.box 1 (.tmp 1))⟩, ⟨(some 4), none, (.move (.const (.v .nilFunc)))⟩]) (.seq (.region false
  [⟨(some 5), none, (.mkFn 67 [] [(.tmp 2), (.tmp 3)])⟩, ⟨(some 4), none, (.move (.tmp 5))⟩]) .ret))
abbrev f_w_possible := finF [(.tmp 4)] false
def c_w_possible : AFn := .code 2 6 b_w_possible [(.tmp 4)] false
-- 47
def b_w_conflicts : ACode := (.seq (.region false [⟨(some 3), none, (.box 1 (.tmp 0))⟩, ⟨(some 4), none, (.box 3 (.tmp 1))⟩, ⟨(some 6), none, (.move (.const (.v (.bool false))))⟩]) (.seq (.region
  false [⟨(some 7), none, (.move (.tmp 2))⟩, ⟨(some 8), none, (.mkFn 71 [] [(.tmp 3), (.tmp 4)])⟩, ⟨(some 9), none, (.call false 70 [(.tmp 7), (.tmp 8)])⟩, ⟨(some 6), none, (.move (.tmp 9))⟩]) .ret))
abbrev f_w_conflicts := finF [(.tmp 6)] false
def c_w_conflicts : AFn := .code 3 10 b_w_conflicts [(.tmp 6)] false
-- 48
def b_r_CheckWeek_r0 : ACode := (.seq (.region false [⟨(some 58), none, (.build [(.v (.int .i64 0)), (.v (.int .i64 0))] [])⟩, ⟨none, none, (.store 2 (.tmp 2) (.tmp 58))⟩, ⟨(some 3), none, (.move
  (.const (.v (.int .i64 0))))⟩]) .ret)
def b_r_CheckWeek_l0 : ACode := (.seq (.seq (.region false [⟨(some 39), none, (.move (.tmp 6))⟩, ⟨(some 40), none, (.fieldAddr 2 (.tmp 1))⟩, ⟨(some 41), none, (.load false 1 (.tmp 40))⟩, ⟨(some 42),
  none, (.len false (.tmp 41))⟩, ⟨(some 43), none, (.arith .lss (.tmp 39) (.tmp 42))⟩]) (.cond (.tmp 43) .skip (.exit 2))) (.seq (.block 3 (.seq (.region true [⟨(some 46), none, (.load true 3 (.tmp
  1))⟩, ⟨(some 47), none, (.fieldAddr 2 (.tmp 1))⟩, ⟨(some 48), none, (.load false 1 (.tmp 47))⟩, ⟨(some 49), none, (.move (.tmp 6))⟩, ⟨(some 50), none, (.indexAddr none 7 (.tmp 48) (.tmp 49))⟩,
  ⟨(some 51), none, (.load true 7 (.tmp 50))⟩, ⟨(some 52), none, (.call false 74 [(.tmp 46), (.tmp 51)])⟩, ⟨(some 7), none, (.move (.tmp 52))⟩]) (.seq (.region false [⟨(some 53), none, (.move (.tmp
  7))⟩, ⟨(some 54), none, (.arith .neq (.tmp 53) (.const (.v (.int .i64 0))))⟩]) (.cond (.tmp 54) (.seq (.region false [⟨(some 55), none, (.move (.tmp 6))⟩, ⟨(some 56), none, (.build [(.v (.int .i64
  0)), (.v (.int .i64 0))] [(0, (1, (.const (.v (.int .i64 2))))), (1, (1, (.tmp 55)))])⟩, ⟨(some 57), none, (.move (.tmp 7))⟩, ⟨none, none, (.store 2 (.tmp 2) (.tmp 56))⟩, ⟨(some 3), none, (.move
  (.tmp 57))⟩]) .ret) .skip)))) (.region false [⟨(some 44), none, (.move (.tmp 6))⟩, ⟨(some 45), none, (.arith .add (.tmp 44) (.const (.v (.int .i64 1))))⟩, ⟨(some 6), none, (.move (.tmp 45))⟩])))
def b_r_CheckWeek_r1 : ACode := (.seq (.seq (.region false [⟨(some 6), none, (.move (.const (.v (.int .i64 0))))⟩]) (.block 2 (.loop b_r_CheckWeek_l0))) b_r_CheckWeek_r0)
def b_r_CheckWeek_l1 : ACode := (.seq (.seq (.region false [⟨(some 24), none, (.move (.tmp 4))⟩, ⟨(some 25), none, (.fieldAddr 1 (.tmp 1))⟩, ⟨(some 26), none, (.load false 1 (.tmp 25))⟩, ⟨(some 27),
  none, (.len false (.tmp 26))⟩, ⟨(some 28), none, (.arith .lss (.tmp 24) (.tmp 27))⟩]) (.cond (.tmp 28) .skip (.exit 0))) (.seq (.block 1 (.seq (.region false [⟨(some 31), none, (.load true 3 (.tmp
  1))⟩, ⟨(some 32), none, (.move (.tmp 4))⟩, ⟨(some 33), none, (.call false 73 [(.tmp 31), (.tmp 32)])⟩, ⟨(some 5), none, (.move (.tmp 33))⟩]) (.seq (.region false [⟨(some 34), none, (.move (.tmp
  5))⟩, ⟨(some 35), none, (.arith .neq (.tmp 34) (.const (.v (.int .i64 0))))⟩]) (.cond (.tmp 35) (.seq (.region false [⟨(some 36), none, (.move (.tmp 4))⟩, ⟨(some 37), none, (.build [(.v (.int .i64
  0)), (.v (.int .i64 0))] [(0, (1, (.const (.v (.int .i64 1))))), (1, (1, (.tmp 36)))])⟩, ⟨(some 38), none, (.move (.tmp 5))⟩, ⟨none, none, (.store 2 (.tmp 2) (.tmp 37))⟩, ⟨(some 3), none, (.move
  (.tmp 38))⟩]) .ret) .skip)))) (.region false [⟨(some 29), none, (.move (.tmp 4))⟩, ⟨(some 30), none, (.arith .add (.tmp 29) (.const (.v (.int .i64 1))))⟩, ⟨(some 4), none, (.move (.tmp 30))⟩])))
def b_r_CheckWeek : ACode := (.seq (.region false [⟨(some 1), none, (.box 3 (.tmp 0))⟩, ⟨(some 2), none, (.alloc [(.v (.int .i64 0)), (.v (.int .i64 0))])⟩, ⟨(some 3), none, (.move (.const (.v (.int
  .i64 0))))⟩]) (.seq (.seq (.region false [⟨(some 8), none, (.fieldAddr 0 (.tmp 1))⟩, ⟨(some 9), none, (.load false 1 (.tmp 8))⟩, ⟨(some 10), none, (.call false 31 [(.tmp 9), (.const (.v (.int .i64
  1))), (.const (.v (.int .i64 200)))])⟩, ⟨(some 11), none, (.un .not (.tmp 10))⟩]) (.cond (.tmp 11) (.seq (.region false [⟨(some 12), none, (.build [(.v (.int .i64 0)), (.v (.int .i64 0))] [])⟩,
  ⟨none, none, (.store 2 (.tmp 2) (.tmp 12))⟩, ⟨(some 3), none, (.move (.const (.v (.int .i64 2))))⟩]) .ret) .skip)) (.seq (.seq (.region false [⟨(some 13), none, (.fieldAddr 1 (.tmp 1))⟩, ⟨(some 14),
  none, (.load false 1 (.tmp 13))⟩, ⟨(some 15), none, (.len false (.tmp 14))⟩, ⟨(some 16), none, (.arith .gtr (.tmp 15) (.const (.v (.int .i64 4))))⟩, ⟨(some 17), none, (.move (.tmp 16))⟩, ⟨(some 18),
  (some (17, false)), (.fieldAddr 2 (.tmp 1))⟩, ⟨(some 19), (some (17, false)), (.load false 1 (.tmp 18))⟩, ⟨(some 20), (some (17, false)), (.len false (.tmp 19))⟩, ⟨(some 21), (some (17, false)),
  (.arith .gtr (.tmp 20) (.const (.v (.int .i64 12))))⟩, ⟨(some 22), none, (.pick (.tmp 17) (.const (.v (.bool true))) (.tmp 21))⟩]) (.cond (.tmp 22) (.seq (.region false [⟨(some 23), none, (.build
  [(.v (.int .i64 0)), (.v (.int .i64 0))] [])⟩, ⟨none, none, (.store 2 (.tmp 2) (.tmp 23))⟩, ⟨(some 3), none, (.move (.const (.v (.int .i64 8))))⟩]) .ret) .skip)) (.seq (.seq (.region false [⟨(some
  4), none, (.move (.const (.v (.int .i64 0))))⟩]) (.block 0 (.loop b_r_CheckWeek_l1))) b_r_CheckWeek_r1))))
abbrev k_r_CheckWeek_0 : List K := [.blk 2, .c b_r_CheckWeek_r0]
abbrev k_r_CheckWeek_1 : List K := [.blk 0, .c b_r_CheckWeek_r1]
abbrev f_r_CheckWeek := finF [(.cell true 2 2), (.tmp 3)] false
def c_r_CheckWeek : AFn := .code 1 59 b_r_CheckWeek [(.cell true 2 2), (.tmp 3)] false
-- 49
def b_r_passErr_r0 : ACode := (.seq (.region false [⟨(some 6), none, (.move (.const (.v (.int .i64 0))))⟩]) .ret)
def b_r_passErr_l0 : ACode := (.seq (.seq (.region false [⟨(some 97), none, (.move (.tmp 10))⟩, ⟨(some 98), none, (.move (.tmp 2))⟩, ⟨(some 99), none, (.arith .lss (.tmp 97) (.tmp 98))⟩]) (.cond (.tmp
  99) .skip (.exit 2))) (.seq (.block 3 (.seq (.region true [⟨(some 102), none, (.load true 3 (.tmp 3))⟩, ⟨(some 103), none, (.load true 3 (.tmp 7))⟩, ⟨(some 104), none, (.move (.tmp 1))⟩, ⟨(some
  105), none, (.move (.tmp 10))⟩, ⟨(some 106), none, (.indexAddr none 3 (.tmp 104) (.tmp 105))⟩, ⟨(some 107), none, (.load true 3 (.tmp 106))⟩, ⟨(some 108), none, (.call false 33 [(.tmp 102), (.tmp
  103), (.tmp 107)])⟩]) (.cond (.tmp 108) (.seq (.region false [⟨(some 6), none, (.move (.const (.v (.int .i64 13))))⟩]) .ret) .skip))) (.region false [⟨(some 100), none, (.move (.tmp 10))⟩, ⟨(some
  101), none, (.arith .add (.tmp 100) (.const (.v (.int .i64 1))))⟩, ⟨(some 10), none, (.move (.tmp 101))⟩])))
def b_r_passErr_r1 : ACode := (.seq (.seq (.region false [⟨(some 94), none, (.load true 3 (.tmp 3))⟩, ⟨(some 95), none, (.load true 3 (.tmp 7))⟩, ⟨(some 96), none, (.call false 51 [(.tmp 94), (.tmp
  95)])⟩]) (.cond (.tmp 96) (.seq (.region false [⟨(some 6), none, (.move (.const (.v (.int .i64 21))))⟩]) .ret) .skip)) (.seq (.seq (.region false [⟨(some 10), none, (.move (.const (.v (.int .i64
  0))))⟩]) (.block 2 (.loop b_r_passErr_l0))) b_r_passErr_r0))
def b_r_passErr_l1 : ACode := (.seq (.seq (.region false [⟨(some 62), none, (.move (.tmp 9))⟩, ⟨(some 63), none, (.fieldAddr 2 (.tmp 7))⟩, ⟨(some 64), none, (.load false 1 (.tmp 63))⟩, ⟨(some 65),
  none, (.len false (.tmp 64))⟩, ⟨(some 66), none, (.arith .lss (.tmp 62) (.tmp 65))⟩]) (.cond (.tmp 66) .skip (.exit 0))) (.seq (.block 1 (.seq (.seq (.region true [⟨(some 69), none, (.fieldAddr 5
  (.tmp 8))⟩, ⟨(some 70), none, (.load false 1 (.tmp 69))⟩, ⟨(some 71), none, (.fieldAddr 2 (.tmp 7))⟩, ⟨(some 72), none, (.load false 1 (.tmp 71))⟩, ⟨(some 73), none, (.move (.tmp 9))⟩, ⟨(some 74),
  none, (.indexAddr none 1 (.tmp 72) (.tmp 73))⟩, ⟨(some 75), none, (.load false 1 (.tmp 74))⟩, ⟨(some 76), none, (.call false 52 [(.tmp 70), (.tmp 75)])⟩, ⟨(some 77), none, (.un .not (.tmp 76))⟩])
  (.cond (.tmp 77) (.seq (.region false [⟨(some 6), none, (.move (.const (.v (.int .i64 6))))⟩]) .ret) .skip)) (.seq (.region true [⟨(some 78), none, (.move (.tmp 9))⟩, ⟨(some 79), none, (.arith .gtr
  (.tmp 78) (.const (.v (.int .i64 0))))⟩, ⟨(some 80), none, (.move (.tmp 79))⟩, ⟨(some 81), (some (80, true)), (.fieldAddr 2 (.tmp 7))⟩, ⟨(some 82), (some (80, true)), (.load false 1 (.tmp 81))⟩,
  ⟨(some 83), (some (80, true)), (.move (.tmp 9))⟩, ⟨(some 84), (some (80, true)), (.indexAddr none 1 (.tmp 82) (.tmp 83))⟩, ⟨(some 85), (some (80, true)), (.load false 1 (.tmp 84))⟩, ⟨(some 86),
  (some (80, true)), (.fieldAddr 2 (.tmp 7))⟩, ⟨(some 87), (some (80, true)), (.load false 1 (.tmp 86))⟩, ⟨(some 88), (some (80, true)), (.move (.tmp 9))⟩, ⟨(some 89), (some (80, true)), (.arith .sub
  (.tmp 88) (.const (.v (.int .i64 1))))⟩, ⟨(some 90), (some (80, true)), (.indexAddr none 1 (.tmp 87) (.tmp 89))⟩, ⟨(some 91), (some (80, true)), (.load false 1 (.tmp 90))⟩, ⟨(some 92), (some (80,
  true)), (.arith .leq (.tmp 85) (.tmp 91))⟩, ⟨(some 93), none, (.pick (.tmp 80) (.tmp 92) (.const (.v (.bool false))))⟩]) (.cond (.tmp 93) (.seq (.region false [⟨(some 6), none, (.move (.const (.v
  (.int .i64 9))))⟩]) .ret) .skip)))) (.region false [⟨(some 67), none, (.move (.tmp 9))⟩, ⟨(some 68), none, (.arith .add (.tmp 67) (.const (.v (.int .i64 1))))⟩, ⟨(some 9), none, (.move (.tmp
  68))⟩])))
def b_r_passErr : ACode := (.seq (.region false [⟨(some 3), none, (.box 3 (.tmp 0))⟩, ⟨(some 6), none, (.move (.const (.v (.int .i64 0))))⟩]) (.seq (.region false [⟨(some 11), none, (.move (.tmp 1))⟩,
  ⟨(some 12), none, (.move (.tmp 2))⟩, ⟨(some 13), none, (.indexAddr none 3 (.tmp 11) (.tmp 12))⟩, ⟨(some 14), none, (.load true 3 (.tmp 13))⟩, ⟨(some 7), none, (.alloc [(.v (.int .i64 0)), (.v (.int
  .i64 0)), (.slice .nilS 0 [])])⟩, ⟨none, none, (.store 3 (.tmp 7) (.tmp 14))⟩]) (.seq (.seq (.region false [⟨(some 15), none, (.fieldAddr 0 (.tmp 7))⟩, ⟨(some 16), none, (.load false 1 (.tmp 15))⟩,
  ⟨(some 17), none, (.fieldAddr 2 (.tmp 3))⟩, ⟨(some 18), none, (.load false 1 (.tmp 17))⟩, ⟨(some 19), none, (.len false (.tmp 18))⟩, ⟨(some 20), none, (.arith .sub (.tmp 19) (.const (.v (.int .i64
  1))))⟩, ⟨(some 21), none, (.call false 31 [(.tmp 16), (.const (.v (.int .i64 0))), (.tmp 20)])⟩, ⟨(some 22), none, (.un .not (.tmp 21))⟩]) (.cond (.tmp 22) (.seq (.region false [⟨(some 6), none,
  (.move (.const (.v (.int .i64 6))))⟩]) .ret) .skip)) (.seq (.seq (.region true [⟨(some 23), none, (.move (.tmp 2))⟩, ⟨(some 24), none, (.arith .gtr (.tmp 23) (.const (.v (.int .i64 0))))⟩, ⟨(some
  25), none, (.move (.tmp 24))⟩, ⟨(some 26), (some (25, true)), (.fieldAddr 0 (.tmp 7))⟩, ⟨(some 27), (some (25, true)), (.load false 1 (.tmp 26))⟩, ⟨(some 28), (some (25, true)), (.move (.tmp 1))⟩,
  ⟨(some 29), (some (25, true)), (.move (.tmp 2))⟩, ⟨(some 30), (some (25, true)), (.arith .sub (.tmp 29) (.const (.v (.int .i64 1))))⟩, ⟨(some 31), (some (25, true)), (.indexAddr none 3 (.tmp 28)
  (.tmp 30))⟩, ⟨(some 32), (some (25, true)), (.fieldAddr 0 (.tmp 31))⟩, ⟨(some 33), (some (25, true)), (.load false 1 (.tmp 32))⟩, ⟨(some 34), (some (25, true)), (.arith .leq (.tmp 27) (.tmp 33))⟩,
  ⟨(some 35), none, (.pick (.tmp 25) (.tmp 34) (.const (.v (.bool false))))⟩]) (.cond (.tmp 35) (.seq (.region false [⟨(some 6), none, (.move (.const (.v (.int .i64 9))))⟩]) .ret) .skip)) (.seq
  (.region false [⟨(some 36), none, (.fieldAddr 2 (.tmp 3))⟩, ⟨(some 37), none, (.load false 1 (.tmp 36))⟩, ⟨(some 38), none, (.fieldAddr 0 (.tmp 7))⟩, ⟨(some 39), none, (.load false 1 (.tmp 38))⟩,
  ⟨(some 40), none, (.indexAddr none 7 (.tmp 37) (.tmp 39))⟩, ⟨(some 41), none, (.load true 7 (.tmp 40))⟩, ⟨(some 8), none, (.alloc [(.v (.string ⟨#[]⟩)), (.v (.int .i64 0)), (.v (.int .i64 0)), (.v
  (.int .i64 0)), (.v (.int .i64 0)), (.slice .nilS 0 []), (.v (.int .i64 0))])⟩, ⟨none, none, (.store 7 (.tmp 8) (.tmp 41))⟩]) (.seq (.seq (.region false [⟨(some 42), none, (.fieldAddr 1 (.tmp 7))⟩,
  ⟨(some 43), none, (.load false 1 (.tmp 42))⟩, ⟨(some 44), none, (.fieldAddr 1 (.tmp 8))⟩, ⟨(some 45), none, (.fieldAddr 0 (.tmp 44))⟩, ⟨(some 46), none, (.load false 1 (.tmp 45))⟩, ⟨(some 47), none,
  (.fieldAddr 1 (.tmp 8))⟩, ⟨(some 48), none, (.fieldAddr 1 (.tmp 47))⟩, ⟨(some 49), none, (.load false 1 (.tmp 48))⟩, ⟨(some 50), none, (.fieldAddr 3 (.tmp 8))⟩, ⟨(some 51), none, (.load false 1
  (.tmp 50))⟩, ⟨(some 52), none, (.arith .sub (.tmp 49) (.tmp 51))⟩, ⟨(some 53), none, (.arith .add (.tmp 52) (.const (.v (.int .i64 1))))⟩, ⟨(some 54), none, (.call false 31 [(.tmp 43), (.tmp 46),
  (.tmp 53)])⟩, ⟨(some 55), none, (.un .not (.tmp 54))⟩]) (.cond (.tmp 55) (.seq (.region false [⟨(some 6), none, (.move (.const (.v (.int .i64 2))))⟩]) .ret) .skip)) (.seq (.seq (.region false
  [⟨(some 56), none, (.fieldAddr 2 (.tmp 7))⟩, ⟨(some 57), none, (.load false 1 (.tmp 56))⟩, ⟨(some 58), none, (.len false (.tmp 57))⟩, ⟨(some 59), none, (.fieldAddr 6 (.tmp 8))⟩, ⟨(some 60), none,
  (.load false 1 (.tmp 59))⟩, ⟨(some 61), none, (.arith .neq (.tmp 58) (.tmp 60))⟩]) (.cond (.tmp 61) (.seq (.region false [⟨(some 6), none, (.move (.const (.v (.int .i64 10))))⟩]) .ret) .skip)) (.seq
  (.seq (.region false [⟨(some 9), none, (.move (.const (.v (.int .i64 0))))⟩]) (.block 0 (.loop b_r_passErr_l1))) b_r_passErr_r1))))))))
abbrev k_r_passErr_0 : List K := [.blk 2, .c b_r_passErr_r0]
abbrev k_r_passErr_1 : List K := [.blk 0, .c b_r_passErr_r1]
abbrev f_r_passErr := finF [(.tmp 6)] false
def c_r_passErr : AFn := .code 3 109 b_r_passErr [(.tmp 6)] false
-- 50
def b_r_choices_r0 : ACode := (.seq (.region false [⟨(some 46), none, (.move (.tmp 5))⟩, ⟨(some 4), none, (.move (.tmp 46))⟩]) .ret)
def b_r_choices_r1 : ACode := (.region false [⟨(some 18), none, (.move (.tmp 6))⟩, ⟨(some 19), none, (.arith .add (.tmp 18) (.const (.v (.int .i64 1))))⟩, ⟨(some 6), none, (.move (.tmp 19))⟩])
def b_r_choices_l1 : ACode := (.seq (.seq (.region false [⟨(some 27), none, (.move (.tmp 8))⟩, ⟨(some 28), none, (.move (.tmp 7))⟩, ⟨(some 29), none, (.len false (.tmp 28))⟩, ⟨(some 30), none, (.arith
  .lss (.tmp 27) (.tmp 29))⟩]) (.cond (.tmp 30) .skip (.exit 2))) (.seq (.block 3 (.region true [⟨(some 33), none, (.move (.tmp 5))⟩, ⟨(some 34), none, (.move (.tmp 0))⟩, ⟨(some 35), none, (.move
  (.tmp 6))⟩, ⟨(some 36), none, (.indexAddr none 1 (.tmp 34) (.tmp 35))⟩, ⟨(some 37), none, (.load false 1 (.tmp 36))⟩, ⟨(some 38), none, (.buildSlice 1 [[(.v (.int .i64 0))]] [(0, (.tmp 37))])⟩,
  ⟨(some 39), none, (.move (.tmp 7))⟩, ⟨(some 40), none, (.move (.tmp 8))⟩, ⟨(some 41), none, (.indexAddr none 1 (.tmp 39) (.tmp 40))⟩, ⟨(some 42), none, (.load false 1 (.tmp 41))⟩, ⟨(some 43), none,
  (.append 1 (.tmp 38) (.tmp 42))⟩, ⟨(some 44), none, (.buildSlice 1 [[(.slice .nilS 0 [])]] [(0, (.tmp 43))])⟩, ⟨(some 45), none, (.append 1 (.tmp 33) (.tmp 44))⟩, ⟨(some 5), none, (.move (.tmp
  45))⟩])) (.region false [⟨(some 31), none, (.move (.tmp 8))⟩, ⟨(some 32), none, (.arith .add (.tmp 31) (.const (.v (.int .i64 1))))⟩, ⟨(some 8), none, (.move (.tmp 32))⟩])))
def b_r_choices_l0 : ACode := (.seq (.seq (.region false [⟨(some 12), none, (.move (.tmp 6))⟩, ⟨(some 13), none, (.move (.tmp 1))⟩, ⟨(some 14), none, (.arith .add (.tmp 12) (.tmp 13))⟩, ⟨(some 15),
  none, (.move (.tmp 0))⟩, ⟨(some 16), none, (.len false (.tmp 15))⟩, ⟨(some 17), none, (.arith .leq (.tmp 14) (.tmp 16))⟩]) (.cond (.tmp 17) .skip (.exit 0))) (.seq (.block 1 (.seq (.region false
  [⟨(some 20), none, (.move (.tmp 0))⟩, ⟨(some 21), none, (.move (.tmp 6))⟩, ⟨(some 22), none, (.arith .add (.tmp 21) (.const (.v (.int .i64 1))))⟩, ⟨(some 23), none, (.slice (.sl 1) (.tmp 20) (some
  (.tmp 22)) none none)⟩, ⟨(some 24), none, (.move (.tmp 1))⟩, ⟨(some 25), none, (.arith .sub (.tmp 24) (.const (.v (.int .i64 1))))⟩, ⟨(some 26), none, (.call false 50 [(.tmp 23), (.tmp 25)])⟩,
  ⟨(some 7), none, (.move (.tmp 26))⟩]) (.seq (.region false [⟨(some 8), none, (.move (.const (.v (.int .i64 0))))⟩]) (.block 2 (.loop b_r_choices_l1))))) b_r_choices_r1))
def b_r_choices : ACode := (.seq (.region false [⟨(some 4), none, (.move (.const (.slice .nilS 0 [])))⟩]) (.seq (.seq (.region false [⟨(some 9), none, (.move (.tmp 1))⟩, ⟨(some 10), none, (.arith .eql
  (.tmp 9) (.const (.v (.int .i64 0))))⟩]) (.cond (.tmp 10) (.seq (.region false [⟨(some 11), none, (.buildSlice 1 [[(.slice .nilS 0 [])]] [(0, (.const (.slice .nilS 0 [])))])⟩, ⟨(some 4), none,
  (.move (.tmp 11))⟩]) .ret) .skip)) (.seq (.region false [⟨(some 5), none, (.move (.const (.slice .nilS 0 [])))⟩]) (.seq (.seq (.region false [⟨(some 6), none, (.move (.const (.v (.int .i64 0))))⟩])
  (.block 0 (.loop b_r_choices_l0))) b_r_choices_r0))))
abbrev k_r_choices_1 : List K := [.blk 2, .blk 1, .c b_r_choices_r1, .lp b_r_choices_l0, .blk 0, .c b_r_choices_r0]
abbrev k_r_choices_0 : List K := [.blk 0, .c b_r_choices_r0]
abbrev f_r_choices := finF [(.tmp 4)] false
def c_r_choices : AFn := .code 2 47 b_r_choices [(.tmp 4)] false
-- 51
def b_r_shut_r0 : ACode := (.seq (.region false [⟨(some 4), none, (.move (.const (.v (.bool false))))⟩]) .ret)
def b_r_shut_r1 : ACode := (.region false [⟨(some 12), none, (.move (.tmp 5))⟩, ⟨(some 13), none, (.arith .add (.tmp 12) (.const (.v (.int .i64 1))))⟩, ⟨(some 5), none, (.move (.tmp 13))⟩])
def b_r_shut_l1 : ACode := (.seq (.seq (.region false [⟨(some 14), none, (.move (.tmp 6))⟩, ⟨(some 15), none, (.fieldAddr 2 (.tmp 2))⟩, ⟨(some 16), none, (.load false 1 (.tmp 15))⟩, ⟨(some 17), none,
  (.fieldAddr 0 (.tmp 3))⟩, ⟨(some 18), none, (.load false 1 (.tmp 17))⟩, ⟨(some 19), none, (.indexAddr none 7 (.tmp 16) (.tmp 18))⟩, ⟨(some 20), none, (.fieldAddr 3 (.tmp 19))⟩, ⟨(some 21), none,
  (.load false 1 (.tmp 20))⟩, ⟨(some 22), none, (.arith .lss (.tmp 14) (.tmp 21))⟩]) (.cond (.tmp 22) .skip (.exit 2))) (.seq (.block 3 (.seq (.region true [⟨(some 25), none, (.fieldAddr 1 (.tmp 2))⟩,
  ⟨(some 26), none, (.load false 1 (.tmp 25))⟩, ⟨(some 27), none, (.fieldAddr 2 (.tmp 3))⟩, ⟨(some 28), none, (.load false 1 (.tmp 27))⟩, ⟨(some 29), none, (.move (.tmp 5))⟩, ⟨(some 30), none,
  (.indexAddr none 1 (.tmp 28) (.tmp 29))⟩, ⟨(some 31), none, (.load false 1 (.tmp 30))⟩, ⟨(some 32), none, (.indexAddr none 3 (.tmp 26) (.tmp 31))⟩, ⟨(some 33), none, (.load true 3 (.tmp 32))⟩,
  ⟨(some 34), none, (.fieldAddr 1 (.tmp 3))⟩, ⟨(some 35), none, (.load false 1 (.tmp 34))⟩, ⟨(some 36), none, (.move (.tmp 6))⟩, ⟨(some 37), none, (.arith .add (.tmp 35) (.tmp 36))⟩, ⟨(some 38), none,
  (.call false 75 [(.tmp 33), (.tmp 37)])⟩]) (.cond (.tmp 38) (.seq (.region false [⟨(some 4), none, (.move (.const (.v (.bool true))))⟩]) .ret) .skip))) (.region false [⟨(some 23), none, (.move (.tmp
  6))⟩, ⟨(some 24), none, (.arith .add (.tmp 23) (.const (.v (.int .i64 1))))⟩, ⟨(some 6), none, (.move (.tmp 24))⟩])))
def b_r_shut_l0 : ACode := (.seq (.seq (.region false [⟨(some 7), none, (.move (.tmp 5))⟩, ⟨(some 8), none, (.fieldAddr 2 (.tmp 3))⟩, ⟨(some 9), none, (.load false 1 (.tmp 8))⟩, ⟨(some 10), none,
  (.len false (.tmp 9))⟩, ⟨(some 11), none, (.arith .lss (.tmp 7) (.tmp 10))⟩]) (.cond (.tmp 11) .skip (.exit 0))) (.seq (.block 1 (.seq (.region false [⟨(some 6), none, (.move (.const (.v (.int .i64
  0))))⟩]) (.block 2 (.loop b_r_shut_l1)))) b_r_shut_r1))
def b_r_shut : ACode := (.seq (.region false [⟨(some 2), none, (.box 3 (.tmp 0))⟩, ⟨(some 3), none, (.box 3 (.tmp 1))⟩, ⟨(some 4), none, (.move (.const (.v (.bool false))))⟩]) (.seq (.seq (.region
  false [⟨(some 5), none, (.move (.const (.v (.int .i64 0))))⟩]) (.block 0 (.loop b_r_shut_l0))) b_r_shut_r0))
abbrev k_r_shut_1 : List K := [.blk 2, .blk 1, .c b_r_shut_r1, .lp b_r_shut_l0, .blk 0, .c b_r_shut_r0]
abbrev k_r_shut_0 : List K := [.blk 0, .c b_r_shut_r0]
abbrev f_r_shut := finF [(.tmp 4)] false
def c_r_shut : AFn := .code 2 39 b_r_shut [(.tmp 4)] false
-- 52
def b_b_Has_r0 : ACode := (.seq (.region false [⟨(some 4), none, (.move (.const (.v (.bool false))))⟩]) .ret)
def b_b_Has_l0 : ACode := (.seq (.seq (.region false [⟨(some 6), none, (.move (.tmp 5))⟩, ⟨(some 7), none, (.move (.tmp 0))⟩, ⟨(some 8), none, (.len false (.tmp 7))⟩, ⟨(some 9), none, (.arith .lss
  (.tmp 6) (.tmp 8))⟩]) (.cond (.tmp 9) .skip (.exit 0))) (.seq (.block 1 (.seq (.region false [⟨(some 12), none, (.move (.tmp 0))⟩, ⟨(some 13), none, (.move (.tmp 5))⟩, ⟨(some 14), none, (.indexAddr
  none 1 (.tmp 12) (.tmp 13))⟩, ⟨(some 15), none, (.load false 1 (.tmp 14))⟩, ⟨(some 16), none, (.move (.tmp 1))⟩, ⟨(some 17), none, (.arith .eql (.tmp 15) (.tmp 16))⟩]) (.cond (.tmp 17) (.seq
  (.region false [⟨(some 4), none, (.move (.const (.v (.bool true))))⟩]) .ret) .skip))) (.region false [⟨(some 10), none, (.move (.tmp 5))⟩, ⟨(some 11), none, (.arith .add (.tmp 10) (.const (.v (.int
  .i64 1))))⟩, ⟨(some 5), none, (.move (.tmp 11))⟩])))
def b_b_Has : ACode := (.seq (.region false [⟨(some 4), none, (.move (.const (.v (.bool false))))⟩]) (.seq (.seq (.region false [⟨(some 5), none, (.move (.const (.v (.int .i64 0))))⟩]) (.block 0
  (.loop b_b_Has_l0))) b_b_Has_r0))
abbrev k_b_Has_0 : List K := [.blk 0, .c b_b_Has_r0]
abbrev f_b_Has := finF [(.tmp 4)] false
def c_b_Has : AFn := .code 2 18 b_b_Has [(.tmp 4)] false
-- 53
def b_b_Before_r0 : ACode := (.seq (.region false [⟨(some 36), none, (.move (.tmp 0))⟩, ⟨(some 37), none, (.len false (.tmp 36))⟩, ⟨(some 38), none, (.move (.tmp 1))⟩, ⟨(some 39), none, (.len false
  (.tmp 38))⟩, ⟨(some 40), none, (.arith .lss (.tmp 37) (.tmp 39))⟩, ⟨(some 4), none, (.move (.tmp 40))⟩]) .ret)
def b_b_Before_l0 : ACode := (.seq (.seq (.region false [⟨(some 6), none, (.move (.tmp 5))⟩, ⟨(some 7), none, (.move (.tmp 0))⟩, ⟨(some 8), none, (.len false (.tmp 7))⟩, ⟨(some 9), none, (.arith .lss
  (.tmp 6) (.tmp 8))⟩, ⟨(some 10), none, (.move (.tmp 9))⟩, ⟨(some 11), (some (10, true)), (.move (.tmp 5))⟩, ⟨(some 12), (some (10, true)), (.move (.tmp 1))⟩, ⟨(some 13), (some (10, true)), (.len
  false (.tmp 12))⟩, ⟨(some 14), (some (10, true)), (.arith .lss (.tmp 11) (.tmp 13))⟩, ⟨(some 15), none, (.pick (.tmp 10) (.tmp 14) (.const (.v (.bool false))))⟩]) (.cond (.tmp 15) .skip (.exit 0)))
  (.seq (.block 1 (.seq (.region true [⟨(some 18), none, (.move (.tmp 0))⟩, ⟨(some 19), none, (.move (.tmp 5))⟩, ⟨(some 20), none, (.indexAddr none 1 (.tmp 18) (.tmp 19))⟩, ⟨(some 21), none, (.load
  false 1 (.tmp 20))⟩, ⟨(some 22), none, (.move (.tmp 1))⟩, ⟨(some 23), none, (.move (.tmp 5))⟩, ⟨(some 24), none, (.indexAddr none 1 (.tmp 22) (.tmp 23))⟩, ⟨(some 25), none, (.load false 1 (.tmp
  24))⟩, ⟨(some 26), none, (.arith .neq (.tmp 21) (.tmp 25))⟩]) (.cond (.tmp 26) (.seq (.region true [⟨(some 27), none, (.move (.tmp 0))⟩, ⟨(some 28), none, (.move (.tmp 5))⟩, ⟨(some 29), none,
  (.indexAddr none 1 (.tmp 27) (.tmp 28))⟩, ⟨(some 30), none, (.load false 1 (.tmp 29))⟩, ⟨(some 31), none, (.move (.tmp 1))⟩, ⟨(some 32), none, (.move (.tmp 5))⟩, ⟨(some 33), none, (.indexAddr none 1
  (.tmp 31) (.tmp 32))⟩, ⟨(some 34), none, (.load false 1 (.tmp 33))⟩, ⟨(some 35), none, (.arith .lss (.tmp 30) (.tmp 34))⟩, ⟨(some 4), none, (.move (.tmp 35))⟩]) .ret) .skip))) (.region false [⟨(some
  16), none, (.move (.tmp 5))⟩, ⟨(some 17), none, (.arith .add (.tmp 16) (.const (.v (.int .i64 1))))⟩, ⟨(some 5), none, (.move (.tmp 17))⟩])))
def b_b_Before : ACode := (.seq (.region false [⟨(some 4), none, (.move (.const (.v (.bool false))))⟩]) (.seq (.seq (.region false [⟨(some 5), none, (.move (.const (.v (.int .i64 0))))⟩]) (.block 0
  (.loop b_b_Before_l0))) b_b_Before_r0))
abbrev k_b_Before_0 : List K := [.blk 0, .c b_b_Before_r0]
abbrev f_b_Before := finF [(.tmp 4)] false
def c_b_Before : AFn := .code 2 41 b_b_Before [(.tmp 4)] false
-- 54
def b_s_openSmall_1 : ACode := (.seq (.region false [⟨(some 1), none, (.box 7 (.tmp 0))⟩, ⟨(some 2), none, (.move (.const (.v (.bool false))))⟩]) (.seq (.region false [⟨(some 3), none, (.fieldAddr 1
  (.tmp 1))⟩, ⟨(some 4), none, (.fieldAddr 1 (.tmp 3))⟩, ⟨(some 5), none, (.load false 1 (.tmp 4))⟩, ⟨(some 6), none, (.fieldAddr 1 (.tmp 1))⟩, ⟨(some 7), none, (.fieldAddr 0 (.tmp 6))⟩, ⟨(some 8),
  none, (.load false 1 (.tmp 7))⟩, ⟨(some 9), none, (.arith .sub (.tmp 5) (.tmp 8))⟩, ⟨(some 10), none, (.arith .add (.tmp 9) (.const (.v (.int .i64 2))))⟩, ⟨(some 11), none, (.fieldAddr 3 (.tmp 1))⟩,
  ⟨(some 12), none, (.load false 1 (.tmp 11))⟩, ⟨(some 13), none, (.arith .sub (.tmp 10) (.tmp 12))⟩, ⟨(some 14), none, (.arith .gtr (.tmp 13) (.const (.v (.int .i64 8))))⟩, ⟨(some 2), none, (.move
  (.tmp 14))⟩]) .ret))
abbrev f_s_openSmall_1 := finF [(.tmp 2)] false
def c_s_openSmall_1 : AFn := .code 1 15 b_s_openSmall_1 [(.tmp 2)] false
-- 55
def b_z_ContainsFunc_ScheduleRequest : ACode := (.seq (.region false [⟨(some 4), none, (.move (.const (.v (.bool false))))⟩]) (.seq (.region false [⟨(some 5), none, (.move (.tmp 0))⟩, ⟨(some 6), none,
  (.move (.tmp 1))⟩, ⟨(some 7), none, (.call false 76 [(.tmp 5), (.tmp 6)])⟩, ⟨(some 8), none, (.arith .geq (.tmp 7) (.const (.v (.int .i64 0))))⟩, ⟨(some 4), none, (.move (.tmp 8))⟩]) .ret))
abbrev f_z_ContainsFunc_ScheduleRequest := finF [(.tmp 4)] false
def c_z_ContainsFunc_ScheduleRequest : AFn := .code 2 9 b_z_ContainsFunc_ScheduleRequest [(.tmp 4)] false
-- 56
def b_c_worth_r0 : ACode := (.seq (.region false [⟨(some 28), none, (.move (.tmp 5))⟩, ⟨(some 4), none, (.move (.tmp 28))⟩]) .ret)
def b_c_worth_l0 : ACode := (.seq (.region false [⟨(some 12), none, (.arith .lss (.tmp 11) (.tmp 10))⟩]) (.seq (.cond (.tmp 12) .skip (.exit 0)) (.seq (.block 1 (.seq (.region false [⟨(some 13), none,
  (.indexAddr none 1 (.tmp 9) (.tmp 11))⟩, ⟨(some 14), none, (.load false 1 (.tmp 13))⟩, ⟨(some 7), none, (.move (.tmp 14))⟩]) (.region false [⟨(some 15), none, (.move (.tmp 5))⟩, ⟨(some 16), none,
  (.fieldAddr 0 (.tmp 2))⟩, ⟨(some 17), none, (.load false 1 (.tmp 16))⟩, ⟨(some 18), none, (.nilCheck (.tmp 17))⟩, ⟨(some 19), none, (.fieldAddr 0 (.tmp 18))⟩, ⟨(some 20), none, (.fieldAddr 2 (.tmp
  19))⟩, ⟨(some 21), none, (.load false 1 (.tmp 20))⟩, ⟨(some 22), none, (.move (.tmp 7))⟩, ⟨(some 23), none, (.indexAddr none 7 (.tmp 21) (.tmp 22))⟩, ⟨(some 24), none, (.fieldAddr 4 (.tmp 23))⟩,
  ⟨(some 25), none, (.load false 1 (.tmp 24))⟩, ⟨(some 26), none, (.arith .add (.tmp 15) (.tmp 25))⟩, ⟨(some 5), none, (.move (.tmp 26))⟩]))) (.region false [⟨(some 27), none, (.arith .add (.tmp 11)
  (.const (.v (.int .i64 1))))⟩, ⟨(some 11), none, (.move (.tmp 27))⟩]))))
def b_c_worth : ACode := (.seq (.region false [⟨(some 2), none, (.box 2 (.tmp 0))⟩, ⟨(some 4), none, (.move (.const (.v (.int .i64 0))))⟩]) (.seq (.region false [⟨(some 5), none, (.move (.const (.v
  (.int .i64 0))))⟩]) (.seq (.seq (.region false [⟨(some 8), none, (.move (.tmp 1))⟩, ⟨(some 9), none, (.call false 77 [(.tmp 8)])⟩, ⟨(some 10), none, (.len false (.tmp 9))⟩, ⟨(some 11), none, (.move
  (.const (.v (.int .i64 0))))⟩]) (.block 0 (.loop b_c_worth_l0))) b_c_worth_r0)))
abbrev k_c_worth_0 : List K := [.blk 0, .c b_c_worth_r0]
abbrev f_c_worth := finF [(.tmp 4)] false
def c_c_worth : AFn := .code 2 29 b_c_worth [(.tmp 4)] false
-- 57
def b_c_isPermitted_r0 : ACode := (.seq (.region false [⟨(some 4), none, (.move (.const (.v (.bool true))))⟩]) .ret)
def b_c_isPermitted_l0 : ACode := (.seq (.region false [⟨(some 11), none, (.arith .lss (.tmp 10) (.tmp 9))⟩]) (.seq (.cond (.tmp 11) .skip (.exit 0)) (.seq (.block 1 (.seq (.region false [⟨(some 12),
  none, (.move (.tmp 10))⟩, ⟨(some 13), none, (.indexAddr none 2 (.tmp 8) (.tmp 10))⟩, ⟨(some 14), none, (.load true 2 (.tmp 13))⟩, ⟨(some 6), none, (.alloc [(.slice .nilS 0 []), (.v (.bool
  false))])⟩, ⟨(some 5), none, (.move (.tmp 12))⟩, ⟨none, none, (.store 2 (.tmp 6) (.tmp 14))⟩]) (.seq (.region false [⟨(some 15), none, (.fieldAddr 1 (.tmp 6))⟩, ⟨(some 16), none, (.load false 1
  (.tmp 15))⟩, ⟨(some 17), none, (.un .not (.tmp 16))⟩, ⟨(some 18), none, (.move (.tmp 17))⟩, ⟨(some 19), (some (18, true)), (.move (.tmp 1))⟩, ⟨(some 20), (some (18, true)), (.move (.tmp 5))⟩, ⟨(some
  21), (some (18, true)), (.arith .shr (.tmp 19) (.tmp 20))⟩, ⟨(some 22), (some (18, true)), (.arith .and (.tmp 21) (.const (.v (.int .i64 1))))⟩, ⟨(some 23), (some (18, true)), (.arith .eql (.tmp 22)
  (.const (.v (.int .i64 0))))⟩, ⟨(some 24), none, (.pick (.tmp 18) (.tmp 23) (.const (.v (.bool false))))⟩]) (.cond (.tmp 24) (.seq (.region false [⟨(some 4), none, (.move (.const (.v (.bool
  false))))⟩]) .ret) .skip)))) (.region false [⟨(some 25), none, (.arith .add (.tmp 10) (.const (.v (.int .i64 1))))⟩, ⟨(some 10), none, (.move (.tmp 25))⟩]))))
def b_c_isPermitted : ACode := (.seq (.region false [⟨(some 2), none, (.box 2 (.tmp 0))⟩, ⟨(some 4), none, (.move (.const (.v (.bool false))))⟩]) (.seq (.seq (.region false [⟨(some 7), none,
  (.fieldAddr 1 (.tmp 2))⟩, ⟨(some 8), none, (.load false 1 (.tmp 7))⟩, ⟨(some 9), none, (.len false (.tmp 8))⟩, ⟨(some 10), none, (.move (.const (.v (.int .i64 0))))⟩]) (.block 0 (.loop
  b_c_isPermitted_l0))) b_c_isPermitted_r0))
abbrev k_c_isPermitted_0 : List K := [.blk 0, .c b_c_isPermitted_r0]
abbrev f_c_isPermitted := finF [(.tmp 4)] false
def c_c_isPermitted : AFn := .code 2 26 b_c_isPermitted [(.tmp 4)] false
-- 58
def b_c_fits_r0 : ACode := (.seq (.region false [⟨(some 52), none, (.fieldAddr 0 (.tmp 3))⟩, ⟨(some 53), none, (.load false 1 (.tmp 52))⟩, ⟨(some 54), none, (.move (.tmp 7))⟩, ⟨(some 55), none, (.call
  false 79 [(.tmp 53), (.tmp 54)])⟩, ⟨(some 6), none, (.move (.tmp 55))⟩]) .ret)
def b_c_fits_r1 : ACode := (.region false [⟨(some 51), none, (.arith .add (.tmp 18) (.const (.v (.int .i64 1))))⟩, ⟨(some 18), none, (.move (.tmp 51))⟩])
def b_c_fits_r2 : ACode := (.region false [⟨(some 47), none, (.move (.tmp 7))⟩, ⟨(some 48), none, (.move (.tmp 12))⟩, ⟨(some 49), none, (.buildSlice 1 [[(.slice .nilS 0 [])]] [(0, (.tmp 48))])⟩,
  ⟨(some 50), none, (.append 1 (.tmp 47) (.tmp 49))⟩, ⟨(some 7), none, (.move (.tmp 50))⟩])
def b_c_fits_l1 : ACode := (.seq (.region false [⟨(some 38), none, (.arith .lss (.tmp 37) (.tmp 36))⟩]) (.seq (.cond (.tmp 38) .skip (.exit 2)) (.seq (.block 3 (.seq (.region false [⟨(some 39), none,
  (.indexAddr none 3 (.tmp 35) (.tmp 37))⟩, ⟨(some 40), none, (.load true 3 (.tmp 39))⟩, ⟨(some 14), none, (.alloc [(.v (.int .i64 0)), (.v (.int .i64 0)), (.slice .nilS 0 [])])⟩, ⟨none, none, (.store
  3 (.tmp 14) (.tmp 40))⟩]) (.region false [⟨(some 41), none, (.fieldAddr 0 (.tmp 3))⟩, ⟨(some 42), none, (.load false 1 (.tmp 41))⟩, ⟨(some 43), none, (.move (.tmp 12))⟩, ⟨(some 44), none, (.load
  true 3 (.tmp 14))⟩, ⟨(some 45), none, (.call false 78 [(.tmp 42), (.tmp 43), (.tmp 44)])⟩, ⟨(some 12), none, (.move (.tmp 45))⟩]))) (.region false [⟨(some 46), none, (.arith .add (.tmp 37) (.const
  (.v (.int .i64 1))))⟩, ⟨(some 37), none, (.move (.tmp 46))⟩]))))
def b_c_fits_l0 : ACode := (.seq (.region false [⟨(some 19), none, (.arith .lss (.tmp 18) (.tmp 17))⟩]) (.seq (.cond (.tmp 19) .skip (.exit 0)) (.seq (.block 1 (.seq (.region false [⟨(some 20), none,
  (.indexAddr none 1 (.tmp 16) (.tmp 18))⟩, ⟨(some 21), none, (.load false 1 (.tmp 20))⟩, ⟨(some 9), none, (.move (.tmp 21))⟩]) (.seq (.seq (.region false [⟨(some 23), none, (.move (.tmp 1))⟩, ⟨(some
  24), none, (.move (.tmp 9))⟩, ⟨(some 25), none, (.call false 22 [(.tmp 23), (.tmp 24)])⟩, ⟨(some 22), none, (.move (.tmp 25))⟩, ⟨(some 26), none, (.extract 0 (.tmp 22))⟩, ⟨(some 27), none, (.extract
  1 (.tmp 22))⟩, ⟨(some 10), none, (.alloc [(.v (.int .i64 0)), (.v (.int .i64 0)), (.slice .nilS 0 [])])⟩, ⟨none, none, (.store 3 (.tmp 10) (.tmp 26))⟩, ⟨(some 11), none, (.move (.tmp 27))⟩]) (.seq
  (.region false [⟨(some 28), none, (.move (.tmp 11))⟩]) (.cond (.tmp 28) (.exit 1) .skip))) (.seq (.region false [⟨(some 29), none, (.fieldAddr 1 (.tmp 3))⟩, ⟨(some 30), none, (.load false 1 (.tmp
  29))⟩, ⟨(some 31), none, (.move (.tmp 9))⟩, ⟨(some 32), none, (.indexAddr none 2 (.tmp 30) (.tmp 31))⟩, ⟨(some 33), none, (.fieldAddr 0 (.tmp 32))⟩, ⟨(some 34), none, (.load false 1 (.tmp 33))⟩,
  ⟨(some 12), none, (.move (.tmp 34))⟩]) (.seq (.seq (.region false [⟨(some 35), none, (.move (.tmp 1))⟩, ⟨(some 36), none, (.len false (.tmp 35))⟩, ⟨(some 37), none, (.move (.const (.v (.int .i64
  0))))⟩]) (.block 2 (.loop b_c_fits_l1))) b_c_fits_r2))))) b_c_fits_r1)))
def b_c_fits : ACode := (.seq (.region false [⟨(some 3), none, (.box 2 (.tmp 0))⟩, ⟨(some 6), none, (.move (.const (.v (.bool false))))⟩]) (.seq (.region false [⟨(some 7), none, (.move (.const (.slice
  .nilS 0 [])))⟩]) (.seq (.seq (.region false [⟨(some 15), none, (.move (.tmp 2))⟩, ⟨(some 16), none, (.call false 77 [(.tmp 15)])⟩, ⟨(some 17), none, (.len false (.tmp 16))⟩, ⟨(some 18), none, (.move
  (.const (.v (.int .i64 0))))⟩]) (.block 0 (.loop b_c_fits_l0))) b_c_fits_r0)))
abbrev k_c_fits_1 : List K := [.blk 2, .c b_c_fits_r2, .blk 1, .c b_c_fits_r1, .lp b_c_fits_l0, .blk 0, .c b_c_fits_r0]
abbrev k_c_fits_0 : List K := [.blk 0, .c b_c_fits_r0]
abbrev f_c_fits := finF [(.tmp 6)] false
def c_c_fits : AFn := .code 3 56 b_c_fits [(.tmp 6)] false
-- 59
def b_z_Contains_int : ACode := (.seq (.region false [⟨(some 4), none, (.move (.const (.v (.bool false))))⟩]) (.seq (.region false [⟨(some 5), none, (.move (.tmp 0))⟩, ⟨(some 6), none, (.move (.tmp
  1))⟩, ⟨(some 7), none, (.call false 80 [(.tmp 5), (.tmp 6)])⟩, ⟨(some 8), none, (.arith .geq (.tmp 7) (.const (.v (.int .i64 0))))⟩, ⟨(some 4), none, (.move (.tmp 8))⟩]) .ret))
abbrev f_z_Contains_int := finF [(.tmp 4)] false
def c_z_Contains_int : AFn := .code 2 9 b_z_Contains_int [(.tmp 4)] false
-- 60
def b_c_next_r0 : ACode := (.seq (.region false [⟨(some 84), none, (.build [(.v (.int .i64 0)), (.v (.int .i64 0)), (.slice .nilS 0 [])] [])⟩, ⟨none, none, (.store 3 (.tmp 8) (.tmp 84))⟩, ⟨(some 9),
  none, (.move (.const (.v (.bool false))))⟩]) .ret)
def b_c_next_r1 : ACode := (.region false [⟨(some 35), none, (.move (.tmp 12))⟩, ⟨(some 36), none, (.arith .add (.tmp 35) (.const (.v (.int .i64 1))))⟩, ⟨(some 12), none, (.move (.tmp 36))⟩])
def b_c_next_r2 : ACode := (.region false [⟨(some 83), none, (.arith .add (.tmp 44) (.const (.v (.int .i64 1))))⟩, ⟨(some 44), none, (.move (.tmp 83))⟩])
def b_c_next_l2 : ACode := (.seq (.region false [⟨(some 61), none, (.arith .lss (.tmp 60) (.tmp 59))⟩]) (.seq (.cond (.tmp 61) .skip (.exit 4)) (.seq (.block 5 (.seq (.region false [⟨(some 62), none,
  (.indexAddr none 1 (.tmp 58) (.tmp 60))⟩, ⟨(some 63), none, (.load false 1 (.tmp 62))⟩, ⟨(some 17), none, (.move (.tmp 63))⟩]) (.seq (.region true [⟨(some 64), none, (.move (.tmp 17))⟩, ⟨(some 65),
  none, (.move (.tmp 12))⟩, ⟨(some 66), none, (.arith .add (.tmp 65) (.const (.v (.int .i64 1))))⟩, ⟨(some 67), none, (.arith .shl (.const (.v (.int .i64 1))) (.tmp 66))⟩, ⟨(some 68), none, (.arith
  .sub (.tmp 67) (.const (.v (.int .i64 1))))⟩, ⟨(some 69), none, (.arith .and (.tmp 64) (.tmp 68))⟩, ⟨(some 70), none, (.move (.tmp 2))⟩, ⟨(some 71), none, (.move (.tmp 12))⟩, ⟨(some 72), none,
  (.arith .shl (.const (.v (.int .i64 1))) (.tmp 71))⟩, ⟨(some 73), none, (.arith .or (.tmp 70) (.tmp 72))⟩, ⟨(some 74), none, (.arith .eql (.tmp 69) (.tmp 73))⟩, ⟨(some 75), none, (.move (.tmp 74))⟩,
  ⟨(some 76), (some (75, true)), (.load true 2 (.tmp 4))⟩, ⟨(some 77), (some (75, true)), (.move (.tmp 15))⟩, ⟨(some 78), (some (75, true)), (.move (.tmp 17))⟩, ⟨(some 79), (some (75, true)), (.call
  false 58 [(.tmp 76), (.tmp 77), (.tmp 78)])⟩, ⟨(some 80), none, (.pick (.tmp 75) (.tmp 79) (.const (.v (.bool false))))⟩]) (.cond (.tmp 80) (.seq (.region false [⟨(some 81), none, (.load true 3
  (.tmp 14))⟩, ⟨none, none, (.store 3 (.tmp 8) (.tmp 81))⟩, ⟨(some 9), none, (.move (.const (.v (.bool true))))⟩]) .ret) .skip)))) (.region false [⟨(some 82), none, (.arith .add (.tmp 60) (.const (.v
  (.int .i64 1))))⟩, ⟨(some 60), none, (.move (.tmp 82))⟩]))))
def b_c_next_l1 : ACode := (.seq (.region false [⟨(some 45), none, (.arith .lss (.tmp 44) (.tmp 43))⟩]) (.seq (.cond (.tmp 45) .skip (.exit 2)) (.seq (.block 3 (.seq (.region false [⟨(some 46), none,
  (.indexAddr none 3 (.tmp 42) (.tmp 44))⟩, ⟨(some 47), none, (.load true 3 (.tmp 46))⟩, ⟨(some 14), none, (.alloc [(.v (.int .i64 0)), (.v (.int .i64 0)), (.slice .nilS 0 [])])⟩, ⟨none, none, (.store
  3 (.tmp 14) (.tmp 47))⟩]) (.seq (.seq (.region false [⟨(some 48), none, (.fieldAddr 0 (.tmp 4))⟩, ⟨(some 49), none, (.load false 1 (.tmp 48))⟩, ⟨(some 50), none, (.load true 3 (.tmp 14))⟩, ⟨(some
  51), none, (.move (.tmp 1))⟩, ⟨(some 52), none, (.call false 47 [(.tmp 49), (.tmp 50), (.tmp 51)])⟩]) (.cond (.tmp 52) (.exit 3) .skip)) (.seq (.region true [⟨(some 53), none, (.move (.tmp 1))⟩,
  ⟨(some 54), none, (.callo 81 [(.tmp 53)])⟩, ⟨(some 55), none, (.load true 3 (.tmp 14))⟩, ⟨(some 56), none, (.buildSlice 3 [[(.v (.int .i64 0)), (.v (.int .i64 0)), (.slice .nilS 0 [])]] [(0, (.tmp
  55))])⟩, ⟨(some 57), none, (.append 3 (.tmp 54) (.tmp 56))⟩, ⟨(some 15), none, (.move (.tmp 57))⟩]) (.seq (.region false [⟨(some 58), none, (.move (.tmp 3))⟩, ⟨(some 59), none, (.len false (.tmp
  58))⟩, ⟨(some 60), none, (.move (.const (.v (.int .i64 0))))⟩]) (.block 4 (.loop b_c_next_l2))))))) b_c_next_r2)))
def b_c_next_l0 : ACode := (.seq (.seq (.region false [⟨(some 30), none, (.move (.tmp 12))⟩, ⟨(some 31), none, (.fieldAddr 1 (.tmp 4))⟩, ⟨(some 32), none, (.load false 1 (.tmp 31))⟩, ⟨(some 33), none,
  (.len false (.tmp 32))⟩, ⟨(some 34), none, (.arith .lss (.tmp 30) (.tmp 33))⟩]) (.cond (.tmp 34) .skip (.exit 0))) (.seq (.block 1 (.seq (.region false [⟨(some 37), none, (.fieldAddr 1 (.tmp 4))⟩,
  ⟨(some 38), none, (.load false 1 (.tmp 37))⟩, ⟨(some 39), none, (.move (.tmp 12))⟩, ⟨(some 40), none, (.indexAddr none 2 (.tmp 38) (.tmp 39))⟩, ⟨(some 41), none, (.fieldAddr 0 (.tmp 40))⟩, ⟨(some
  42), none, (.load false 1 (.tmp 41))⟩, ⟨(some 43), none, (.len false (.tmp 42))⟩, ⟨(some 44), none, (.move (.const (.v (.int .i64 0))))⟩]) (.block 2 (.loop b_c_next_l1)))) b_c_next_r1))
def b_c_next : ACode := (.seq (.region false [⟨(some 4), none, (.box 2 (.tmp 0))⟩, ⟨(some 8), none, (.alloc [(.v (.int .i64 0)), (.v (.int .i64 0)), (.slice .nilS 0 [])])⟩, ⟨(some 9), none, (.move
  (.const (.v (.bool false))))⟩]) (.seq (.region false [⟨(some 10), none, (.move (.const (.v (.int .i64 0))))⟩]) (.seq (.seq (.region false [⟨(some 18), none, (.move (.tmp 1))⟩, ⟨(some 19), none,
  (.len false (.tmp 18))⟩, ⟨(some 11), none, (.move (.tmp 19))⟩]) (.seq (.region false [⟨(some 20), none, (.move (.tmp 11))⟩, ⟨(some 21), none, (.arith .gtr (.tmp 20) (.const (.v (.int .i64 0))))⟩])
  (.cond (.tmp 21) (.region false [⟨(some 22), none, (.move (.tmp 1))⟩, ⟨(some 23), none, (.move (.tmp 11))⟩, ⟨(some 24), none, (.arith .sub (.tmp 23) (.const (.v (.int .i64 1))))⟩, ⟨(some 25), none,
  (.indexAddr none 3 (.tmp 22) (.tmp 24))⟩, ⟨(some 26), none, (.fieldAddr 0 (.tmp 25))⟩, ⟨(some 27), none, (.load false 1 (.tmp 26))⟩, ⟨(some 28), none, (.arith .add (.tmp 27) (.const (.v (.int .i64
  1))))⟩, ⟨(some 10), none, (.move (.tmp 28))⟩]) .skip))) (.seq (.seq (.region false [⟨(some 29), none, (.move (.tmp 10))⟩, ⟨(some 12), none, (.move (.tmp 29))⟩]) (.block 0 (.loop b_c_next_l0)))
  b_c_next_r0))))
abbrev k_c_next_2 : List K := [.blk 4, .blk 3, .c b_c_next_r2, .lp b_c_next_l1, .blk 2, .blk 1, .c b_c_next_r1, .lp b_c_next_l0, .blk 0, .c b_c_next_r0]
abbrev k_c_next_1 : List K := [.blk 2, .blk 1, .c b_c_next_r1, .lp b_c_next_l0, .blk 0, .c b_c_next_r0]
abbrev k_c_next_0 : List K := [.blk 0, .c b_c_next_r0]
abbrev f_c_next := finF [(.cell true 3 8), (.tmp 9)] false
def c_c_next : AFn := .code 4 85 b_c_next [(.cell true 3 8), (.tmp 9)] false
-- 65
def b_s_CheckWeek_r0 : ACode := (.seq (.region false [⟨(some 65), none, (.build [(.v (.int .i64 0)), (.v (.int .i64 0))] [])⟩, ⟨none, none, (.store 2 (.tmp 2) (.tmp 65))⟩, ⟨(some 3), none, (.move
  (.const (.v (.int .i64 0))))⟩]) .ret)
def b_s_CheckWeek_l0 : ACode := (.seq (.region false [⟨(some 52), none, (.arith .lss (.tmp 51) (.tmp 50))⟩]) (.seq (.cond (.tmp 52) .skip (.exit 2)) (.seq (.block 3 (.seq (.region false [⟨(some 53),
  none, (.move (.tmp 51))⟩, ⟨(some 54), none, (.indexAddr none 7 (.tmp 49) (.tmp 51))⟩, ⟨(some 55), none, (.load true 7 (.tmp 54))⟩, ⟨(some 9), none, (.alloc [(.v (.string ⟨#[]⟩)), (.v (.int .i64 0)),
  (.v (.int .i64 0)), (.v (.int .i64 0)), (.v (.int .i64 0)), (.slice .nilS 0 []), (.v (.int .i64 0))])⟩, ⟨(some 8), none, (.move (.tmp 53))⟩, ⟨none, none, (.store 7 (.tmp 9) (.tmp 55))⟩]) (.seq
  (.region false [⟨(some 56), none, (.load true 3 (.tmp 1))⟩, ⟨(some 57), none, (.load true 7 (.tmp 9))⟩, ⟨(some 58), none, (.call false 86 [(.tmp 56), (.tmp 57)])⟩, ⟨(some 10), none, (.move (.tmp
  58))⟩]) (.seq (.region false [⟨(some 59), none, (.move (.tmp 10))⟩, ⟨(some 60), none, (.arith .neq (.tmp 59) (.const (.v (.int .i64 0))))⟩]) (.cond (.tmp 60) (.seq (.region false [⟨(some 61), none,
  (.move (.tmp 8))⟩, ⟨(some 62), none, (.build [(.v (.int .i64 0)), (.v (.int .i64 0))] [(0, (1, (.const (.v (.int .i64 2))))), (1, (1, (.tmp 61)))])⟩, ⟨(some 63), none, (.move (.tmp 10))⟩, ⟨none,
  none, (.store 2 (.tmp 2) (.tmp 62))⟩, ⟨(some 3), none, (.move (.tmp 63))⟩]) .ret) .skip))))) (.region false [⟨(some 64), none, (.arith .add (.tmp 51) (.const (.v (.int .i64 1))))⟩, ⟨(some 51), none,
  (.move (.tmp 64))⟩]))))
def b_s_CheckWeek_r1 : ACode := (.seq (.seq (.region false [⟨(some 48), none, (.fieldAddr 2 (.tmp 1))⟩, ⟨(some 49), none, (.load false 1 (.tmp 48))⟩, ⟨(some 50), none, (.len false (.tmp 49))⟩, ⟨(some
  51), none, (.move (.const (.v (.int .i64 0))))⟩]) (.block 2 (.loop b_s_CheckWeek_l0))) b_s_CheckWeek_r0)
def b_s_CheckWeek_l1 : ACode := (.seq (.region false [⟨(some 37), none, (.arith .lss (.tmp 36) (.tmp 35))⟩]) (.seq (.cond (.tmp 37) .skip (.exit 0)) (.seq (.block 1 (.seq (.region false [⟨(some 38),
  none, (.move (.tmp 36))⟩, ⟨(some 6), none, (.move (.tmp 38))⟩]) (.seq (.region false [⟨(some 39), none, (.load true 3 (.tmp 1))⟩, ⟨(some 40), none, (.move (.tmp 6))⟩, ⟨(some 41), none, (.call false
  85 [(.tmp 39), (.tmp 40)])⟩, ⟨(some 7), none, (.move (.tmp 41))⟩]) (.seq (.region false [⟨(some 42), none, (.move (.tmp 7))⟩, ⟨(some 43), none, (.arith .neq (.tmp 42) (.const (.v (.int .i64 0))))⟩])
  (.cond (.tmp 43) (.seq (.region false [⟨(some 44), none, (.move (.tmp 6))⟩, ⟨(some 45), none, (.build [(.v (.int .i64 0)), (.v (.int .i64 0))] [(0, (1, (.const (.v (.int .i64 1))))), (1, (1, (.tmp
  44)))])⟩, ⟨(some 46), none, (.move (.tmp 7))⟩, ⟨none, none, (.store 2 (.tmp 2) (.tmp 45))⟩, ⟨(some 3), none, (.move (.tmp 46))⟩]) .ret) .skip))))) (.region false [⟨(some 47), none, (.arith .add
  (.tmp 36) (.const (.v (.int .i64 1))))⟩, ⟨(some 36), none, (.move (.tmp 47))⟩]))))
def b_s_CheckWeek : ACode := (.seq (.region false [⟨(some 1), none, (.box 3 (.tmp 0))⟩, ⟨(some 2), none, (.alloc [(.v (.int .i64 0)), (.v (.int .i64 0))])⟩, ⟨(some 3), none, (.move (.const (.v (.int
  .i64 0))))⟩]) (.seq (.region false [⟨(some 11), none, (.fieldAddr 1 (.tmp 1))⟩, ⟨(some 12), none, (.load false 1 (.tmp 11))⟩, ⟨(some 13), none, (.len false (.tmp 12))⟩, ⟨(some 14), none, (.arith
  .leq (.tmp 13) (.const (.v (.int .i64 4))))⟩, ⟨(some 15), none, (.move (.tmp 14))⟩, ⟨(some 16), (some (15, true)), (.fieldAddr 2 (.tmp 1))⟩, ⟨(some 17), (some (15, true)), (.load false 1 (.tmp
  16))⟩, ⟨(some 18), (some (15, true)), (.len false (.tmp 17))⟩, ⟨(some 19), (some (15, true)), (.arith .leq (.tmp 18) (.const (.v (.int .i64 12))))⟩, ⟨(some 20), none, (.pick (.tmp 15) (.tmp 19)
  (.const (.v (.bool false))))⟩, ⟨(some 4), none, (.move (.tmp 20))⟩]) (.seq (.seq (.region false [⟨(some 21), none, (.fieldAddr 0 (.tmp 1))⟩, ⟨(some 22), none, (.load false 1 (.tmp 21))⟩, ⟨(some 23),
  none, (.call false 45 [(.tmp 22), (.const (.v (.int .i64 1))), (.const (.v (.int .i64 200)))])⟩, ⟨(some 24), none, (.call false 25 [(.tmp 23), (.const (.v (.int .i64 2)))])⟩, ⟨(some 25), none,
  (.move (.tmp 4))⟩, ⟨(some 26), none, (.call false 25 [(.tmp 25), (.const (.v (.int .i64 8)))])⟩, ⟨(some 27), none, (.buildSlice 1 [[(.v (.int .i64 0))], [(.v (.int .i64 0))]] [(0, (.tmp 24)), (1,
  (.tmp 26))])⟩, ⟨(some 28), none, (.call false 23 [(.tmp 27)])⟩, ⟨(some 5), none, (.move (.tmp 28))⟩]) (.seq (.region false [⟨(some 29), none, (.move (.tmp 5))⟩, ⟨(some 30), none, (.arith .neq (.tmp
  29) (.const (.v (.int .i64 0))))⟩]) (.cond (.tmp 30) (.seq (.region false [⟨(some 31), none, (.build [(.v (.int .i64 0)), (.v (.int .i64 0))] [])⟩, ⟨(some 32), none, (.move (.tmp 5))⟩, ⟨none, none,
  (.store 2 (.tmp 2) (.tmp 31))⟩, ⟨(some 3), none, (.move (.tmp 32))⟩]) .ret) .skip))) (.seq (.seq (.region false [⟨(some 33), none, (.fieldAddr 1 (.tmp 1))⟩, ⟨(some 34), none, (.load false 1 (.tmp
  33))⟩, ⟨(some 35), none, (.len false (.tmp 34))⟩, ⟨(some 36), none, (.move (.const (.v (.int .i64 0))))⟩]) (.block 0 (.loop b_s_CheckWeek_l1))) b_s_CheckWeek_r1))))
abbrev k_s_CheckWeek_0 : List K := [.blk 2, .c b_s_CheckWeek_r0]
abbrev k_s_CheckWeek_1 : List K := [.blk 0, .c b_s_CheckWeek_r1]
abbrev f_s_CheckWeek := finF [(.cell true 2 2), (.tmp 3)] false
def c_s_CheckWeek : AFn := .code 1 66 b_s_CheckWeek [(.cell true 2 2), (.tmp 3)] false
-- 66
def b_w_passErr_r0 : ACode := (.seq (.region true [⟨(some 109), none, (.move (.tmp 12))⟩, ⟨(some 110), none, (.un .not (.tmp 109))⟩, ⟨(some 111), none, (.call true 25 [(.tmp 110), (.const (.v (.int
  .i64 21)))])⟩, ⟨(some 112), none, (.move (.tmp 0))⟩, ⟨(some 113), none, (.load true 3 (.tmp 4))⟩, ⟨(some 114), none, (.move (.tmp 2))⟩, ⟨(some 115), none, (.call false 47 [(.tmp 112), (.tmp 113),
  (.tmp 114)])⟩, ⟨(some 116), none, (.un .not (.tmp 115))⟩, ⟨(some 117), none, (.call false 25 [(.tmp 116), (.const (.v (.int .i64 13)))])⟩, ⟨(some 118), none, (.buildSlice 1 [[(.v (.int .i64 0))],
  [(.v (.int .i64 0))]] [(0, (.tmp 111)), (1, (.tmp 117))])⟩, ⟨(some 119), none, (.call false 23 [(.tmp 118)])⟩, ⟨(some 6), none, (.move (.tmp 119))⟩]) .ret)
def b_w_passErr_l0 : ACode := (.seq (.region false [⟨(some 79), none, (.arith .lss (.tmp 78) (.tmp 77))⟩]) (.seq (.cond (.tmp 79) .skip (.exit 0)) (.seq (.block 1 (.seq (.region false [⟨(some 80),
  none, (.indexAddr none 1 (.tmp 76) (.tmp 78))⟩, ⟨(some 81), none, (.load false 1 (.tmp 80))⟩, ⟨(some 14), none, (.move (.tmp 81))⟩]) (.seq (.seq (.region false [⟨(some 82), none, (.fieldAddr 5 (.tmp
  10))⟩, ⟨(some 83), none, (.load false 1 (.tmp 82))⟩, ⟨(some 84), none, (.move (.tmp 14))⟩, ⟨(some 85), none, (.call false 59 [(.tmp 83), (.tmp 84)])⟩, ⟨(some 86), none, (.call false 25 [(.tmp 85),
  (.const (.v (.int .i64 6)))])⟩, ⟨(some 87), none, (.move (.tmp 14))⟩, ⟨(some 88), none, (.move (.tmp 7))⟩, ⟨(some 89), none, (.arith .gtr (.tmp 87) (.tmp 88))⟩, ⟨(some 90), none, (.call false 25
  [(.tmp 89), (.const (.v (.int .i64 9)))])⟩, ⟨(some 91), none, (.buildSlice 1 [[(.v (.int .i64 0))], [(.v (.int .i64 0))]] [(0, (.tmp 86)), (1, (.tmp 90))])⟩, ⟨(some 92), none, (.call false 23 [(.tmp
  91)])⟩, ⟨(some 15), none, (.move (.tmp 92))⟩]) (.seq (.region false [⟨(some 93), none, (.move (.tmp 15))⟩, ⟨(some 94), none, (.arith .neq (.tmp 93) (.const (.v (.int .i64 0))))⟩]) (.cond (.tmp 94)
  (.seq (.region false [⟨(some 95), none, (.move (.tmp 15))⟩, ⟨(some 6), none, (.move (.tmp 95))⟩]) .ret) .skip))) (.region false [⟨(some 96), none, (.move (.tmp 14))⟩, ⟨(some 97), none, (.move (.tmp
  12))⟩, ⟨(some 98), none, (.move (.tmp 97))⟩, ⟨(some 99), (some (98, false)), (.move (.tmp 0))⟩, ⟨(some 100), (some (98, false)), (.move (.tmp 14))⟩, ⟨(some 101), (some (98, false)), (.fieldAddr 1
  (.tmp 4))⟩, ⟨(some 102), (some (98, false)), (.load false 1 (.tmp 101))⟩, ⟨(some 103), (some (98, false)), (.fieldAddr 3 (.tmp 10))⟩, ⟨(some 104), (some (98, false)), (.load false 1 (.tmp 103))⟩,
  ⟨(some 105), (some (98, false)), (.call false 68 [(.tmp 99), (.tmp 100), (.tmp 102), (.tmp 104)])⟩, ⟨(some 106), (some (98, false)), (.un .not (.tmp 105))⟩, ⟨(some 107), none, (.pick (.tmp 98)
  (.const (.v (.bool true))) (.tmp 106))⟩, ⟨(some 7), none, (.move (.tmp 96))⟩, ⟨(some 12), none, (.move (.tmp 107))⟩])))) (.region false [⟨(some 108), none, (.arith .add (.tmp 78) (.const (.v (.int
  .i64 1))))⟩, ⟨(some 78), none, (.move (.tmp 108))⟩]))))
def b_w_passErr : ACode := (.seq (.region false [⟨(some 4), none, (.box 3 (.tmp 1))⟩, ⟨(some 6), none, (.move (.const (.v (.int .i64 0))))⟩]) (.seq (.region false [⟨(some 7), none, (.move (.const (.v
  (.int .i64 (-1)))))⟩]) (.seq (.seq (.region false [⟨(some 16), none, (.move (.tmp 2))⟩, ⟨(some 17), none, (.len false (.tmp 16))⟩, ⟨(some 8), none, (.move (.tmp 17))⟩]) (.seq (.region false [⟨(some
  18), none, (.move (.tmp 8))⟩, ⟨(some 19), none, (.arith .gtr (.tmp 18) (.const (.v (.int .i64 0))))⟩]) (.cond (.tmp 19) (.region false [⟨(some 20), none, (.move (.tmp 2))⟩, ⟨(some 21), none, (.move
  (.tmp 8))⟩, ⟨(some 22), none, (.arith .sub (.tmp 21) (.const (.v (.int .i64 1))))⟩, ⟨(some 23), none, (.indexAddr none 3 (.tmp 20) (.tmp 22))⟩, ⟨(some 24), none, (.fieldAddr 0 (.tmp 23))⟩, ⟨(some
  25), none, (.load false 1 (.tmp 24))⟩, ⟨(some 7), none, (.move (.tmp 25))⟩]) .skip))) (.seq (.seq (.region true [⟨(some 26), none, (.move (.tmp 0))⟩, ⟨(some 27), none, (.fieldAddr 0 (.tmp 4))⟩,
  ⟨(some 28), none, (.load false 1 (.tmp 27))⟩, ⟨(some 29), none, (.call true 24 [(.tmp 26), (.tmp 28)])⟩, ⟨(some 30), none, (.fieldAddr 0 (.tmp 4))⟩, ⟨(some 31), none, (.load false 1 (.tmp 30))⟩,
  ⟨(some 32), none, (.move (.tmp 7))⟩, ⟨(some 33), none, (.arith .gtr (.tmp 31) (.tmp 32))⟩, ⟨(some 34), none, (.call false 25 [(.tmp 33), (.const (.v (.int .i64 9)))])⟩, ⟨(some 35), none,
  (.buildSlice 1 [[(.v (.int .i64 0))], [(.v (.int .i64 0))]] [(0, (.tmp 29)), (1, (.tmp 34))])⟩, ⟨(some 36), none, (.call false 23 [(.tmp 35)])⟩, ⟨(some 9), none, (.move (.tmp 36))⟩]) (.seq (.region
  false [⟨(some 37), none, (.move (.tmp 9))⟩, ⟨(some 38), none, (.arith .neq (.tmp 37) (.const (.v (.int .i64 0))))⟩]) (.cond (.tmp 38) (.seq (.region false [⟨(some 39), none, (.move (.tmp 9))⟩,
  ⟨(some 6), none, (.move (.tmp 39))⟩]) .ret) .skip))) (.seq (.region true [⟨(some 40), none, (.move (.tmp 0))⟩, ⟨(some 41), none, (.nilCheck (.tmp 40))⟩, ⟨(some 42), none, (.fieldAddr 0 (.tmp 41))⟩,
  ⟨(some 43), none, (.fieldAddr 2 (.tmp 42))⟩, ⟨(some 44), none, (.load false 1 (.tmp 43))⟩, ⟨(some 45), none, (.fieldAddr 0 (.tmp 4))⟩, ⟨(some 46), none, (.load false 1 (.tmp 45))⟩, ⟨(some 47), none,
  (.indexAddr none 7 (.tmp 44) (.tmp 46))⟩, ⟨(some 48), none, (.load true 7 (.tmp 47))⟩, ⟨(some 10), none, (.alloc [(.v (.string ⟨#[]⟩)), (.v (.int .i64 0)), (.v (.int .i64 0)), (.v (.int .i64 0)),
  (.v (.int .i64 0)), (.slice .nilS 0 []), (.v (.int .i64 0))])⟩, ⟨none, none, (.store 7 (.tmp 10) (.tmp 48))⟩]) (.seq (.region true [⟨(some 49), none, (.fieldAddr 1 (.tmp 4))⟩, ⟨(some 50), none,
  (.load false 1 (.tmp 49))⟩, ⟨(some 51), none, (.fieldAddr 1 (.tmp 10))⟩, ⟨(some 52), none, (.fieldAddr 0 (.tmp 51))⟩, ⟨(some 53), none, (.load false 1 (.tmp 52))⟩, ⟨(some 54), none, (.fieldAddr 1
  (.tmp 10))⟩, ⟨(some 55), none, (.fieldAddr 1 (.tmp 54))⟩, ⟨(some 56), none, (.load false 1 (.tmp 55))⟩, ⟨(some 57), none, (.arith .add (.tmp 56) (.const (.v (.int .i64 1))))⟩, ⟨(some 58), none,
  (.fieldAddr 3 (.tmp 10))⟩, ⟨(some 59), none, (.load false 1 (.tmp 58))⟩, ⟨(some 60), none, (.arith .sub (.tmp 57) (.tmp 59))⟩, ⟨(some 61), none, (.call true 45 [(.tmp 50), (.tmp 53), (.tmp 60)])⟩,
  ⟨(some 62), none, (.call true 25 [(.tmp 61), (.const (.v (.int .i64 2)))])⟩, ⟨(some 63), none, (.fieldAddr 2 (.tmp 4))⟩, ⟨(some 64), none, (.load false 1 (.tmp 63))⟩, ⟨(some 65), none, (.len false
  (.tmp 64))⟩, ⟨(some 66), none, (.fieldAddr 6 (.tmp 10))⟩, ⟨(some 67), none, (.load false 1 (.tmp 66))⟩, ⟨(some 68), none, (.arith .eql (.tmp 65) (.tmp 67))⟩, ⟨(some 69), none, (.call false 25 [(.tmp
  68), (.const (.v (.int .i64 10)))])⟩, ⟨(some 70), none, (.buildSlice 1 [[(.v (.int .i64 0))], [(.v (.int .i64 0))]] [(0, (.tmp 62)), (1, (.tmp 69))])⟩, ⟨(some 71), none, (.call false 23 [(.tmp
  70)])⟩, ⟨(some 11), none, (.move (.tmp 71))⟩]) (.seq (.seq (.region false [⟨(some 72), none, (.move (.tmp 11))⟩, ⟨(some 73), none, (.arith .neq (.tmp 72) (.const (.v (.int .i64 0))))⟩]) (.cond (.tmp
  73) (.seq (.region false [⟨(some 74), none, (.move (.tmp 11))⟩, ⟨(some 6), none, (.move (.tmp 74))⟩]) .ret) .skip)) (.seq (.region false [⟨(some 7), none, (.move (.const (.v (.int .i64 (-1)))))⟩])
  (.seq (.region false [⟨(some 12), none, (.move (.const (.v (.bool false))))⟩]) (.seq (.seq (.region false [⟨(some 75), none, (.fieldAddr 2 (.tmp 4))⟩, ⟨(some 76), none, (.load false 1 (.tmp 75))⟩,
  ⟨(some 77), none, (.len false (.tmp 76))⟩, ⟨(some 78), none, (.move (.const (.v (.int .i64 0))))⟩]) (.block 0 (.loop b_w_passErr_l0))) b_w_passErr_r0))))))))))
abbrev k_w_passErr_0 : List K := [.blk 0, .c b_w_passErr_r0]
abbrev f_w_passErr := finF [(.tmp 6)] false
def c_w_passErr : AFn := .code 3 120 b_w_passErr [(.tmp 6)] false
-- 67
def b_w_possible_1_r0 : ACode := (.seq (.seq (.region false [⟨(some 62), none, (.load false 1 (.tmp 5))⟩]) (.region false [⟨(some 5), none, (.alloc [(.v (.int .i64 0))])⟩, ⟨none, none, (.store 1 (.tmp
  5) (.tmp 62))⟩])) (.region false [⟨(some 30), none, (.load false 1 (.tmp 5))⟩, ⟨(some 31), none, (.arith .add (.tmp 30) (.const (.v (.int .i64 1))))⟩, ⟨none, none, (.store 1 (.tmp 5) (.tmp 31))⟩]))
def b_w_possible_1_y1 : ACode := (.block 5 (.seq (.region false [⟨(some 55), none, (.load false 1 (.tmp 3))⟩, ⟨(some 56), none, (.load false 1 (.tmp 2))⟩, ⟨(some 57), none, (.load false 1 (.tmp 5))⟩,
  ⟨(some 58), none, (.move (.tmp 9))⟩, ⟨(some 59), none, (.build [(.v (.int .i64 0)), (.v (.int .i64 0)), (.slice .nilS 0 [])] [(0, (1, (.tmp 56))), (1, (1, (.tmp 57))), (2, (1, (.tmp 58)))])⟩, ⟨(some
  60), none, (.callv false (.tmp 55) [(.tmp 59)])⟩, ⟨(some 61), none, (.un .not (.tmp 60))⟩]) (.cond (.tmp 61) .ret .skip)))
def b_w_possible_1_a1 : ACode := (.region false [⟨(some 9), none, (.move (.tmp 54))⟩])
def b_w_possible_1_r1 : ACode := (.seq (.region false [⟨(some 50), none, (.move (.tmp 6))⟩, ⟨(some 51), none, (.fieldAddr 6 (.tmp 4))⟩, ⟨(some 52), none, (.load false 1 (.tmp 51))⟩, ⟨(some 53), none,
  (.call false 69 [(.tmp 50), (.tmp 52)])⟩]) (.block 4 (.rangeFunc (.tmp 53) [54] b_w_possible_1_a1 b_w_possible_1_y1)))
def b_w_possible_1_l2 : ACode := (.seq (.region false [⟨(some 36), none, (.arith .lss (.tmp 35) (.tmp 34))⟩]) (.seq (.cond (.tmp 36) .skip (.exit 2)) (.seq (.block 3 (.seq (.region false [⟨(some 37),
  none, (.indexAddr none 1 (.tmp 33) (.tmp 35))⟩, ⟨(some 38), none, (.load false 1 (.tmp 37))⟩, ⟨(some 8), none, (.move (.tmp 38))⟩]) (.seq (.region false [⟨(some 39), none, (.load false 1 (.tmp 1))⟩,
  ⟨(some 40), none, (.move (.tmp 8))⟩, ⟨(some 41), none, (.load false 1 (.tmp 5))⟩, ⟨(some 42), none, (.fieldAddr 3 (.tmp 4))⟩, ⟨(some 43), none, (.load false 1 (.tmp 42))⟩, ⟨(some 44), none, (.call
  false 68 [(.tmp 39), (.tmp 40), (.tmp 41), (.tmp 43)])⟩]) (.cond (.tmp 44) (.region false [⟨(some 45), none, (.move (.tmp 6))⟩, ⟨(some 46), none, (.move (.tmp 8))⟩, ⟨(some 47), none, (.buildSlice 1
  [[(.v (.int .i64 0))]] [(0, (.tmp 46))])⟩, ⟨(some 48), none, (.append 1 (.tmp 45) (.tmp 47))⟩, ⟨(some 6), none, (.move (.tmp 48))⟩]) .skip)))) (.region false [⟨(some 49), none, (.arith .add (.tmp
  35) (.const (.v (.int .i64 1))))⟩, ⟨(some 35), none, (.move (.tmp 49))⟩]))))
def b_w_possible_1_l0 : ACode := (.seq (.seq (.region false [⟨(some 21), none, (.load false 1 (.tmp 5))⟩, ⟨(some 22), none, (.fieldAddr 3 (.tmp 4))⟩, ⟨(some 23), none, (.load false 1 (.tmp 22))⟩,
  ⟨(some 24), none, (.arith .add (.tmp 21) (.tmp 23))⟩, ⟨(some 25), none, (.arith .sub (.tmp 24) (.const (.v (.int .i64 1))))⟩, ⟨(some 26), none, (.fieldAddr 1 (.tmp 4))⟩, ⟨(some 27), none,
  (.fieldAddr 1 (.tmp 26))⟩, ⟨(some 28), none, (.load false 1 (.tmp 27))⟩, ⟨(some 29), none, (.arith .leq (.tmp 25) (.tmp 28))⟩]) (.cond (.tmp 29) .skip (.exit 0))) (.seq (.block 1 (.seq (.region
  false [⟨(some 6), none, (.move (.const (.slice .nilS 0 [])))⟩]) (.seq (.seq (.region false [⟨(some 32), none, (.fieldAddr 5 (.tmp 4))⟩, ⟨(some 33), none, (.load false 1 (.tmp 32))⟩, ⟨(some 34),
  none, (.len false (.tmp 33))⟩, ⟨(some 35), none, (.move (.const (.v (.int .i64 0))))⟩]) (.block 2 (.loop b_w_possible_1_l2))) b_w_possible_1_r1))) b_w_possible_1_r0))
def b_w_possible_1 : ACode := (.seq (.region false [⟨(some 3), none, (.box 1 (.tmp 0))⟩]) (.seq (.region true [⟨(some 10), none, (.load false 1 (.tmp 1))⟩, ⟨(some 11), none, (.nilCheck (.tmp 10))⟩,
  ⟨(some 12), none, (.fieldAddr 0 (.tmp 11))⟩, ⟨(some 13), none, (.fieldAddr 2 (.tmp 12))⟩, ⟨(some 14), none, (.load false 1 (.tmp 13))⟩, ⟨(some 15), none, (.load false 1 (.tmp 2))⟩, ⟨(some 16), none,
  (.indexAddr none 7 (.tmp 14) (.tmp 15))⟩, ⟨(some 17), none, (.load true 7 (.tmp 16))⟩, ⟨(some 4), none, (.alloc [(.v (.string ⟨#[]⟩)), (.v (.int .i64 0)), (.v (.int .i64 0)), (.v (.int .i64 0)), (.v
  (.int .i64 0)), (.slice .nilS 0 []), (.v (.int .i64 0))])⟩, ⟨none, none, (.store 7 (.tmp 4) (.tmp 17))⟩]) (.seq (.region false [⟨(some 18), none, (.fieldAddr 1 (.tmp 4))⟩, ⟨(some 19), none,
  (.fieldAddr 0 (.tmp 18))⟩, ⟨(some 20), none, (.load false 1 (.tmp 19))⟩, ⟨(some 5), none, (.alloc [(.v (.int .i64 0))])⟩, ⟨none, none, (.store 1 (.tmp 5) (.tmp 20))⟩]) (.block 0 (.loop
  b_w_possible_1_l0)))))
abbrev k_w_possible_1_1 : List K := [.blk 4, .blk 1, .c b_w_possible_1_r0, .lp b_w_possible_1_l0, .blk 0]
abbrev k_w_possible_1_2 : List K := [.blk 2, .c b_w_possible_1_r1, .blk 1, .c b_w_possible_1_r0, .lp b_w_possible_1_l0, .blk 0]
abbrev k_w_possible_1_0 : List K := [.blk 0]
abbrev f_w_possible_1 := finF [] false
def c_w_possible_1 : AFn := .code 3 63 b_w_possible_1 [] false
-- 68
def b_w_isOpen : ACode := (.seq (.region false [⟨(some 8), none, (.move (.const (.v (.bool false))))⟩]) (.seq (.region false [⟨(some 9), none, (.move (.tmp 0))⟩, ⟨(some 10), none, (.move (.tmp 1))⟩,
  ⟨(some 11), none, (.nilCheck (.tmp 9))⟩, ⟨(some 12), none, (.fieldAddr 3 (.tmp 11))⟩, ⟨(some 13), none, (.indexAddr (some 4) 200 (.tmp 12) (.tmp 10))⟩, ⟨(some 14), none, (.move (.tmp 2))⟩, ⟨(some
  15), none, (.move (.tmp 2))⟩, ⟨(some 16), none, (.move (.tmp 3))⟩, ⟨(some 17), none, (.arith .add (.tmp 15) (.tmp 16))⟩, ⟨(some 18), none, (.slice (.arr 200 1) (.tmp 13) (some (.tmp 14)) (some (.tmp
  17)) none)⟩, ⟨(some 19), none, (.call false 87 [(.tmp 18), (.const (.v (.bool true)))])⟩, ⟨(some 20), none, (.un .not (.tmp 19))⟩, ⟨(some 8), none, (.move (.tmp 20))⟩]) .ret))
abbrev f_w_isOpen := finF [(.tmp 8)] false
def c_w_isOpen : AFn := .code 4 21 b_w_isOpen [(.tmp 8)] false
-- 69
def b_s_groups : ACode := (.seq (.region false [⟨(some 2), none, (.box 1 (.tmp 0))⟩, ⟨(some 3), none, (.box 1 (.tmp 1))⟩, ⟨(some 4), none, (.move (.const (.v .nilFunc)))⟩]) (.seq (.region false
  [⟨(some 5), none, (.mkFn 88 [] [(.tmp 3), (.tmp 2)])⟩, ⟨(some 4), none, (.move (.tmp 5))⟩]) .ret))
abbrev f_s_groups := finF [(.tmp 4)] false
def c_s_groups : AFn := .code 2 6 b_s_groups [(.tmp 4)] false
-- 70
def b_z_ContainsFunc_SchedulePass : ACode := (.seq (.region false [⟨(some 4), none, (.move (.const (.v (.bool false))))⟩]) (.seq (.region false [⟨(some 5), none, (.move (.tmp 0))⟩, ⟨(some 6), none,
  (.move (.tmp 1))⟩, ⟨(some 7), none, (.call false 43 [(.tmp 5), (.tmp 6)])⟩, ⟨(some 8), none, (.arith .geq (.tmp 7) (.const (.v (.int .i64 0))))⟩, ⟨(some 4), none, (.move (.tmp 8))⟩]) .ret))
abbrev f_z_ContainsFunc_SchedulePass := finF [(.tmp 4)] false
def c_z_ContainsFunc_SchedulePass : AFn := .code 2 9 b_z_ContainsFunc_SchedulePass [(.tmp 4)] false
-- 71
def b_w_conflicts_1 : ACode := (.seq (.region false [⟨(some 3), none, (.box 3 (.tmp 0))⟩, ⟨(some 4), none, (.move (.const (.v (.bool false))))⟩]) (.seq (.region false [⟨(some 5), none, (.load false 1
  (.tmp 1))⟩, ⟨(some 6), none, (.load true 3 (.tmp 3))⟩, ⟨(some 7), none, (.load true 3 (.tmp 2))⟩, ⟨(some 8), none, (.call false 72 [(.tmp 5), (.tmp 6), (.tmp 7)])⟩, ⟨(some 4), none, (.move (.tmp
  8))⟩]) .ret))
abbrev f_w_conflicts_1 := finF [(.tmp 4)] false
def c_w_conflicts_1 : AFn := .code 3 9 b_w_conflicts_1 [(.tmp 4)] false
-- 72
def b_w_conflict : ACode := (.seq (.region false [⟨(some 3), none, (.box 1 (.tmp 0))⟩, ⟨(some 4), none, (.box 3 (.tmp 1))⟩, ⟨(some 5), none, (.box 3 (.tmp 2))⟩, ⟨(some 6), none, (.move (.const (.v
  (.bool false))))⟩]) (.seq (.seq (.region false [⟨(some 8), none, (.fieldAddr 0 (.tmp 4))⟩, ⟨(some 9), none, (.load false 1 (.tmp 8))⟩, ⟨(some 10), none, (.fieldAddr 0 (.tmp 5))⟩, ⟨(some 11), none,
  (.load false 1 (.tmp 10))⟩, ⟨(some 12), none, (.arith .eql (.tmp 9) (.tmp 11))⟩]) (.cond (.tmp 12) (.seq (.region false [⟨(some 6), none, (.move (.const (.v (.bool true))))⟩]) .ret) .skip)) (.seq
  (.seq (.region false [⟨(some 13), none, (.fieldAddr 1 (.tmp 5))⟩, ⟨(some 14), none, (.load false 1 (.tmp 13))⟩, ⟨(some 15), none, (.fieldAddr 1 (.tmp 4))⟩, ⟨(some 16), none, (.load false 1 (.tmp
  15))⟩, ⟨(some 17), none, (.arith .lss (.tmp 14) (.tmp 16))⟩]) (.cond (.tmp 17) (.region false [⟨(some 18), none, (.load true 3 (.tmp 5))⟩, ⟨(some 19), none, (.load true 3 (.tmp 4))⟩, ⟨none, none,
  (.store 3 (.tmp 4) (.tmp 18))⟩, ⟨none, none, (.store 3 (.tmp 5) (.tmp 19))⟩]) .skip)) (.seq (.region true [⟨(some 20), none, (.load false 1 (.tmp 3))⟩, ⟨(some 21), none, (.nilCheck (.tmp 20))⟩,
  ⟨(some 22), none, (.fieldAddr 0 (.tmp 21))⟩, ⟨(some 23), none, (.fieldAddr 2 (.tmp 22))⟩, ⟨(some 24), none, (.load false 1 (.tmp 23))⟩, ⟨(some 25), none, (.fieldAddr 0 (.tmp 4))⟩, ⟨(some 26), none,
  (.load false 1 (.tmp 25))⟩, ⟨(some 27), none, (.indexAddr none 7 (.tmp 24) (.tmp 26))⟩, ⟨(some 28), none, (.fieldAddr 0 (.tmp 27))⟩, ⟨(some 29), none, (.load false 1 (.tmp 28))⟩, ⟨(some 30), none,
  (.load false 1 (.tmp 3))⟩, ⟨(some 31), none, (.nilCheck (.tmp 30))⟩, ⟨(some 32), none, (.fieldAddr 0 (.tmp 31))⟩, ⟨(some 33), none, (.fieldAddr 2 (.tmp 32))⟩, ⟨(some 34), none, (.load false 1 (.tmp
  33))⟩, ⟨(some 35), none, (.fieldAddr 0 (.tmp 5))⟩, ⟨(some 36), none, (.load false 1 (.tmp 35))⟩, ⟨(some 37), none, (.indexAddr none 7 (.tmp 34) (.tmp 36))⟩, ⟨(some 38), none, (.fieldAddr 0 (.tmp
  37))⟩, ⟨(some 39), none, (.load false 1 (.tmp 38))⟩, ⟨(some 40), none, (.arith .eql (.tmp 29) (.tmp 39))⟩, ⟨(some 7), none, (.alloc [(.v (.bool false))])⟩, ⟨none, none, (.store 1 (.tmp 7) (.tmp
  40))⟩]) (.seq (.region false [⟨(some 41), none, (.fieldAddr 2 (.tmp 4))⟩, ⟨(some 42), none, (.load false 1 (.tmp 41))⟩, ⟨(some 43), none, (.mkFn 92 [] [(.tmp 3), (.tmp 7), (.tmp 5), (.tmp 4)])⟩,
  ⟨(some 44), none, (.call false 91 [(.tmp 42), (.tmp 43)])⟩, ⟨(some 6), none, (.move (.tmp 44))⟩]) .ret)))))
abbrev f_w_conflict := finF [(.tmp 6)] false
def c_w_conflict : AFn := .code 3 45 b_w_conflict [(.tmp 6)] false
-- 73
def b_r_antennaErr_r0 : ACode := (.seq (.region false [⟨(some 4), none, (.move (.const (.v (.int .i64 0))))⟩]) .ret)
def b_r_antennaErr_l0 : ACode := (.seq (.seq (.region false [⟨(some 40), none, (.move (.tmp 7))⟩, ⟨(some 41), none, (.fieldAddr 2 (.tmp 5))⟩, ⟨(some 42), none, (.load false 1 (.tmp 41))⟩, ⟨(some 43),
  none, (.len false (.tmp 42))⟩, ⟨(some 44), none, (.arith .lss (.tmp 40) (.tmp 43))⟩]) (.cond (.tmp 44) .skip (.exit 2))) (.seq (.block 3 (.seq (.region true [⟨(some 47), none, (.load true 3 (.tmp
  2))⟩, ⟨(some 48), none, (.fieldAddr 2 (.tmp 5))⟩, ⟨(some 49), none, (.load false 1 (.tmp 48))⟩, ⟨(some 50), none, (.move (.tmp 7))⟩, ⟨(some 51), none, (.indexAddr none 2 (.tmp 49) (.tmp 50))⟩,
  ⟨(some 52), none, (.load true 2 (.tmp 51))⟩, ⟨(some 53), none, (.call false 95 [(.tmp 47), (.tmp 52)])⟩, ⟨(some 8), none, (.move (.tmp 53))⟩]) (.seq (.region false [⟨(some 54), none, (.move (.tmp
  8))⟩, ⟨(some 55), none, (.arith .neq (.tmp 54) (.const (.v (.int .i64 0))))⟩]) (.cond (.tmp 55) (.seq (.region false [⟨(some 56), none, (.move (.tmp 8))⟩, ⟨(some 4), none, (.move (.tmp 56))⟩]) .ret)
  .skip)))) (.region false [⟨(some 45), none, (.move (.tmp 7))⟩, ⟨(some 46), none, (.arith .add (.tmp 45) (.const (.v (.int .i64 1))))⟩, ⟨(some 7), none, (.move (.tmp 46))⟩])))
def b_r_antennaErr_r1 : ACode := (.seq (.seq (.region false [⟨(some 32), none, (.fieldAddr 1 (.tmp 5))⟩, ⟨(some 33), none, (.load false 1 (.tmp 32))⟩, ⟨(some 34), none, (.call false 31 [(.tmp 33),
  (.const (.v (.int .i64 0))), (.const (.v (.int .i64 50)))])⟩, ⟨(some 35), none, (.un .not (.tmp 34))⟩]) (.cond (.tmp 35) (.seq (.region false [⟨(some 4), none, (.move (.const (.v (.int .i64 2))))⟩])
  .ret) .skip)) (.seq (.seq (.region false [⟨(some 36), none, (.fieldAddr 2 (.tmp 5))⟩, ⟨(some 37), none, (.load false 1 (.tmp 36))⟩, ⟨(some 38), none, (.len false (.tmp 37))⟩, ⟨(some 39), none,
  (.arith .gtr (.tmp 38) (.const (.v (.int .i64 6))))⟩]) (.cond (.tmp 39) (.seq (.region false [⟨(some 4), none, (.move (.const (.v (.int .i64 8))))⟩]) .ret) .skip)) (.seq (.seq (.region false [⟨(some
  7), none, (.move (.const (.v (.int .i64 0))))⟩]) (.block 2 (.loop b_r_antennaErr_l0))) b_r_antennaErr_r0)))
def b_r_antennaErr_l1 : ACode := (.seq (.seq (.region false [⟨(some 18), none, (.move (.tmp 6))⟩, ⟨(some 19), none, (.move (.tmp 1))⟩, ⟨(some 20), none, (.arith .lss (.tmp 18) (.tmp 19))⟩]) (.cond
  (.tmp 20) .skip (.exit 0))) (.seq (.block 1 (.seq (.region true [⟨(some 23), none, (.fieldAddr 1 (.tmp 2))⟩, ⟨(some 24), none, (.load false 1 (.tmp 23))⟩, ⟨(some 25), none, (.move (.tmp 6))⟩, ⟨(some
  26), none, (.indexAddr none 3 (.tmp 24) (.tmp 25))⟩, ⟨(some 27), none, (.fieldAddr 0 (.tmp 26))⟩, ⟨(some 28), none, (.load false 1 (.tmp 27))⟩, ⟨(some 29), none, (.fieldAddr 0 (.tmp 5))⟩, ⟨(some
  30), none, (.load false 1 (.tmp 29))⟩, ⟨(some 31), none, (.arith .eql (.tmp 28) (.tmp 30))⟩]) (.cond (.tmp 31) (.seq (.region false [⟨(some 4), none, (.move (.const (.v (.int .i64 5))))⟩]) .ret)
  .skip))) (.region false [⟨(some 21), none, (.move (.tmp 6))⟩, ⟨(some 22), none, (.arith .add (.tmp 21) (.const (.v (.int .i64 1))))⟩, ⟨(some 6), none, (.move (.tmp 22))⟩])))
def b_r_antennaErr : ACode := (.seq (.region false [⟨(some 2), none, (.box 3 (.tmp 0))⟩, ⟨(some 4), none, (.move (.const (.v (.int .i64 0))))⟩]) (.seq (.region false [⟨(some 9), none, (.fieldAddr 1
  (.tmp 2))⟩, ⟨(some 10), none, (.load false 1 (.tmp 9))⟩, ⟨(some 11), none, (.move (.tmp 1))⟩, ⟨(some 12), none, (.indexAddr none 3 (.tmp 10) (.tmp 11))⟩, ⟨(some 13), none, (.load true 3 (.tmp 12))⟩,
  ⟨(some 5), none, (.alloc [(.v (.string ⟨#[]⟩)), (.v (.int .i64 0)), (.slice .nilS 0 [])])⟩, ⟨none, none, (.store 3 (.tmp 5) (.tmp 13))⟩]) (.seq (.seq (.region false [⟨(some 14), none, (.fieldAddr 0
  (.tmp 5))⟩, ⟨(some 15), none, (.load false 1 (.tmp 14))⟩, ⟨(some 16), none, (.call false 94 [(.tmp 15)])⟩, ⟨(some 17), none, (.un .not (.tmp 16))⟩]) (.cond (.tmp 17) (.seq (.region false [⟨(some 4),
  none, (.move (.const (.v (.int .i64 4))))⟩]) .ret) .skip)) (.seq (.seq (.region false [⟨(some 6), none, (.move (.const (.v (.int .i64 0))))⟩]) (.block 0 (.loop b_r_antennaErr_l1)))
  b_r_antennaErr_r1))))
abbrev k_r_antennaErr_0 : List K := [.blk 2, .c b_r_antennaErr_r0]
abbrev k_r_antennaErr_1 : List K := [.blk 0, .c b_r_antennaErr_r1]
abbrev f_r_antennaErr := finF [(.tmp 4)] false
def c_r_antennaErr : AFn := .code 2 57 b_r_antennaErr [(.tmp 4)] false
-- 74
def b_r_requestErr_r0 : ACode := (.seq (.seq (.region false [⟨(some 74), none, (.fieldAddr 6 (.tmp 3))⟩, ⟨(some 75), none, (.load false 1 (.tmp 74))⟩, ⟨(some 76), none, (.fieldAddr 5 (.tmp 3))⟩,
  ⟨(some 77), none, (.load false 1 (.tmp 76))⟩, ⟨(some 78), none, (.len false (.tmp 77))⟩, ⟨(some 79), none, (.call false 31 [(.tmp 75), (.const (.v (.int .i64 1))), (.tmp 78)])⟩, ⟨(some 80), none,
  (.un .not (.tmp 79))⟩]) (.cond (.tmp 80) (.seq (.region false [⟨(some 4), none, (.move (.const (.v (.int .i64 2))))⟩]) .ret) .skip)) (.seq (.region false [⟨(some 4), none, (.move (.const (.v (.int
  .i64 0))))⟩]) .ret))
def b_r_requestErr_l0 : ACode := (.seq (.seq (.region false [⟨(some 40), none, (.move (.tmp 6))⟩, ⟨(some 41), none, (.fieldAddr 5 (.tmp 3))⟩, ⟨(some 42), none, (.load false 1 (.tmp 41))⟩, ⟨(some 43),
  none, (.len false (.tmp 42))⟩, ⟨(some 44), none, (.arith .lss (.tmp 40) (.tmp 43))⟩]) (.cond (.tmp 44) .skip (.exit 0))) (.seq (.block 1 (.seq (.seq (.region true [⟨(some 47), none, (.fieldAddr 5
  (.tmp 3))⟩, ⟨(some 48), none, (.load false 1 (.tmp 47))⟩, ⟨(some 49), none, (.move (.tmp 6))⟩, ⟨(some 50), none, (.indexAddr none 1 (.tmp 48) (.tmp 49))⟩, ⟨(some 51), none, (.load false 1 (.tmp
  50))⟩, ⟨(some 52), none, (.fieldAddr 1 (.tmp 2))⟩, ⟨(some 53), none, (.load false 1 (.tmp 52))⟩, ⟨(some 54), none, (.len false (.tmp 53))⟩, ⟨(some 55), none, (.arith .sub (.tmp 54) (.const (.v (.int
  .i64 1))))⟩, ⟨(some 56), none, (.call false 31 [(.tmp 51), (.const (.v (.int .i64 0))), (.tmp 55)])⟩, ⟨(some 57), none, (.un .not (.tmp 56))⟩]) (.cond (.tmp 57) (.seq (.region false [⟨(some 4),
  none, (.move (.const (.v (.int .i64 6))))⟩]) .ret) .skip)) (.seq (.region true [⟨(some 58), none, (.move (.tmp 6))⟩, ⟨(some 59), none, (.arith .gtr (.tmp 58) (.const (.v (.int .i64 0))))⟩, ⟨(some
  60), none, (.move (.tmp 59))⟩, ⟨(some 61), (some (60, true)), (.fieldAddr 5 (.tmp 3))⟩, ⟨(some 62), (some (60, true)), (.load false 1 (.tmp 61))⟩, ⟨(some 63), (some (60, true)), (.move (.tmp 6))⟩,
  ⟨(some 64), (some (60, true)), (.indexAddr none 1 (.tmp 62) (.tmp 63))⟩, ⟨(some 65), (some (60, true)), (.load false 1 (.tmp 64))⟩, ⟨(some 66), (some (60, true)), (.fieldAddr 5 (.tmp 3))⟩, ⟨(some
  67), (some (60, true)), (.load false 1 (.tmp 66))⟩, ⟨(some 68), (some (60, true)), (.move (.tmp 6))⟩, ⟨(some 69), (some (60, true)), (.arith .sub (.tmp 68) (.const (.v (.int .i64 1))))⟩, ⟨(some 70),
  (some (60, true)), (.indexAddr none 1 (.tmp 67) (.tmp 69))⟩, ⟨(some 71), (some (60, true)), (.load false 1 (.tmp 70))⟩, ⟨(some 72), (some (60, true)), (.arith .leq (.tmp 65) (.tmp 71))⟩, ⟨(some 73),
  none, (.pick (.tmp 60) (.tmp 72) (.const (.v (.bool false))))⟩]) (.cond (.tmp 73) (.seq (.region false [⟨(some 4), none, (.move (.const (.v (.int .i64 9))))⟩]) .ret) .skip)))) (.region false [⟨(some
  45), none, (.move (.tmp 6))⟩, ⟨(some 46), none, (.arith .add (.tmp 45) (.const (.v (.int .i64 1))))⟩, ⟨(some 6), none, (.move (.tmp 46))⟩])))
def b_r_requestErr : ACode := (.seq (.region false [⟨(some 2), none, (.box 3 (.tmp 0))⟩, ⟨(some 3), none, (.box 7 (.tmp 1))⟩, ⟨(some 4), none, (.move (.const (.v (.int .i64 0))))⟩]) (.seq (.seq
  (.region false [⟨(some 7), none, (.fieldAddr 0 (.tmp 3))⟩, ⟨(some 8), none, (.load false 1 (.tmp 7))⟩, ⟨(some 9), none, (.call false 94 [(.tmp 8)])⟩, ⟨(some 10), none, (.un .not (.tmp 9))⟩]) (.cond
  (.tmp 10) (.seq (.region false [⟨(some 4), none, (.move (.const (.v (.int .i64 4))))⟩]) .ret) .skip)) (.seq (.seq (.region false [⟨(some 11), none, (.load true 3 (.tmp 2))⟩, ⟨(some 12), none,
  (.fieldAddr 1 (.tmp 3))⟩, ⟨(some 13), none, (.load true 2 (.tmp 12))⟩, ⟨(some 14), none, (.call false 95 [(.tmp 11), (.tmp 13)])⟩, ⟨(some 5), none, (.move (.tmp 14))⟩]) (.seq (.region false [⟨(some
  15), none, (.move (.tmp 5))⟩, ⟨(some 16), none, (.arith .neq (.tmp 15) (.const (.v (.int .i64 0))))⟩]) (.cond (.tmp 16) (.seq (.region false [⟨(some 17), none, (.move (.tmp 5))⟩, ⟨(some 4), none,
  (.move (.tmp 17))⟩]) .ret) .skip))) (.seq (.seq (.region false [⟨(some 18), none, (.fieldAddr 3 (.tmp 3))⟩, ⟨(some 19), none, (.load false 1 (.tmp 18))⟩, ⟨(some 20), none, (.fieldAddr 1 (.tmp 3))⟩,
  ⟨(some 21), none, (.fieldAddr 1 (.tmp 20))⟩, ⟨(some 22), none, (.load false 1 (.tmp 21))⟩, ⟨(some 23), none, (.fieldAddr 1 (.tmp 3))⟩, ⟨(some 24), none, (.fieldAddr 0 (.tmp 23))⟩, ⟨(some 25), none,
  (.load false 1 (.tmp 24))⟩, ⟨(some 26), none, (.arith .sub (.tmp 22) (.tmp 25))⟩, ⟨(some 27), none, (.arith .add (.tmp 26) (.const (.v (.int .i64 1))))⟩, ⟨(some 28), none, (.call false 31 [(.tmp
  19), (.const (.v (.int .i64 1))), (.tmp 27)])⟩, ⟨(some 29), none, (.un .not (.tmp 28))⟩, ⟨(some 30), none, (.move (.tmp 29))⟩, ⟨(some 31), (some (30, false)), (.fieldAddr 4 (.tmp 3))⟩, ⟨(some 32),
  (some (30, false)), (.load false 1 (.tmp 31))⟩, ⟨(some 33), (some (30, false)), (.call false 31 [(.tmp 32), (.const (.v (.int .i64 0))), (.const (.v (.int .i64 100000)))])⟩, ⟨(some 34), (some (30,
  false)), (.un .not (.tmp 33))⟩, ⟨(some 35), none, (.pick (.tmp 30) (.const (.v (.bool true))) (.tmp 34))⟩]) (.cond (.tmp 35) (.seq (.region false [⟨(some 4), none, (.move (.const (.v (.int .i64
  2))))⟩]) .ret) .skip)) (.seq (.seq (.region false [⟨(some 36), none, (.fieldAddr 5 (.tmp 3))⟩, ⟨(some 37), none, (.load false 1 (.tmp 36))⟩, ⟨(some 38), none, (.len false (.tmp 37))⟩, ⟨(some 39),
  none, (.arith .eql (.tmp 38) (.const (.v (.int .i64 0))))⟩]) (.cond (.tmp 39) (.seq (.region false [⟨(some 4), none, (.move (.const (.v (.int .i64 10))))⟩]) .ret) .skip)) (.seq (.seq (.region false
  [⟨(some 6), none, (.move (.const (.v (.int .i64 0))))⟩]) (.block 0 (.loop b_r_requestErr_l0))) b_r_requestErr_r0))))))
abbrev k_r_requestErr_0 : List K := [.blk 0, .c b_r_requestErr_r0]
abbrev f_r_requestErr := finF [(.tmp 4)] false
def c_r_requestErr : AFn := .code 2 81 b_r_requestErr [(.tmp 4)] false
-- 75
def b_r_closed_r0 : ACode := (.seq (.region false [⟨(some 4), none, (.move (.const (.v (.bool false))))⟩]) .ret)
def b_r_closed_l0 : ACode := (.seq (.seq (.region false [⟨(some 6), none, (.move (.tmp 5))⟩, ⟨(some 7), none, (.fieldAddr 2 (.tmp 2))⟩, ⟨(some 8), none, (.load false 1 (.tmp 7))⟩, ⟨(some 9), none,
  (.len false (.tmp 8))⟩, ⟨(some 10), none, (.arith .lss (.tmp 6) (.tmp 9))⟩]) (.cond (.tmp 10) .skip (.exit 0))) (.seq (.block 1 (.seq (.region true [⟨(some 13), none, (.move (.tmp 1))⟩, ⟨(some 14),
  none, (.fieldAddr 2 (.tmp 2))⟩, ⟨(some 15), none, (.load false 1 (.tmp 14))⟩, ⟨(some 16), none, (.move (.tmp 5))⟩, ⟨(some 17), none, (.indexAddr none 2 (.tmp 15) (.tmp 16))⟩, ⟨(some 18), none,
  (.fieldAddr 0 (.tmp 17))⟩, ⟨(some 19), none, (.load false 1 (.tmp 18))⟩, ⟨(some 20), none, (.fieldAddr 2 (.tmp 2))⟩, ⟨(some 21), none, (.load false 1 (.tmp 20))⟩, ⟨(some 22), none, (.move (.tmp
  5))⟩, ⟨(some 23), none, (.indexAddr none 2 (.tmp 21) (.tmp 22))⟩, ⟨(some 24), none, (.fieldAddr 1 (.tmp 23))⟩, ⟨(some 25), none, (.load false 1 (.tmp 24))⟩, ⟨(some 26), none, (.call false 31 [(.tmp
  13), (.tmp 19), (.tmp 25)])⟩]) (.cond (.tmp 26) (.seq (.region false [⟨(some 4), none, (.move (.const (.v (.bool true))))⟩]) .ret) .skip))) (.region false [⟨(some 11), none, (.move (.tmp 5))⟩,
  ⟨(some 12), none, (.arith .add (.tmp 11) (.const (.v (.int .i64 1))))⟩, ⟨(some 5), none, (.move (.tmp 12))⟩])))
def b_r_closed : ACode := (.seq (.region false [⟨(some 2), none, (.box 3 (.tmp 0))⟩, ⟨(some 4), none, (.move (.const (.v (.bool false))))⟩]) (.seq (.seq (.region false [⟨(some 5), none, (.move (.const
  (.v (.int .i64 0))))⟩]) (.block 0 (.loop b_r_closed_l0))) b_r_closed_r0))
abbrev k_r_closed_0 : List K := [.blk 0, .c b_r_closed_r0]
abbrev f_r_closed := finF [(.tmp 4)] false
def c_r_closed : AFn := .code 2 27 b_r_closed [(.tmp 4)] false
-- 76
def b_z_IndexFunc_ScheduleRequest_r0 : ACode := (.seq (.region false [⟨(some 4), none, (.move (.const (.v (.int .i64 (-1)))))⟩]) .ret)
def b_z_IndexFunc_ScheduleRequest_l0 : ACode := (.seq (.region false [⟨(some 9), none, (.arith .lss (.tmp 8) (.tmp 7))⟩]) (.seq (.cond (.tmp 9) .skip (.exit 0)) (.seq (.block 1 (.seq (.region false
  [⟨(some 10), none, (.move (.tmp 8))⟩, ⟨(some 5), none, (.move (.tmp 10))⟩]) (.seq (.region false [⟨(some 11), none, (.move (.tmp 1))⟩, ⟨(some 12), none, (.move (.tmp 0))⟩, ⟨(some 13), none, (.move
  (.tmp 5))⟩, ⟨(some 14), none, (.indexAddr none 7 (.tmp 12) (.tmp 13))⟩, ⟨(some 15), none, (.load true 7 (.tmp 14))⟩, ⟨(some 16), none, (.callv false (.tmp 11) [(.tmp 15)])⟩]) (.cond (.tmp 16) (.seq
  (.region false [⟨(some 17), none, (.move (.tmp 5))⟩, ⟨(some 4), none, (.move (.tmp 17))⟩]) .ret) .skip)))) (.region false [⟨(some 18), none, (.arith .add (.tmp 8) (.const (.v (.int .i64 1))))⟩,
  ⟨(some 8), none, (.move (.tmp 18))⟩]))))
def b_z_IndexFunc_ScheduleRequest : ACode := (.seq (.region false [⟨(some 4), none, (.move (.const (.v (.int .i64 0))))⟩]) (.seq (.seq (.region false [⟨(some 6), none, (.move (.tmp 0))⟩, ⟨(some 7),
  none, (.len false (.tmp 6))⟩, ⟨(some 8), none, (.move (.const (.v (.int .i64 0))))⟩]) (.block 0 (.loop b_z_IndexFunc_ScheduleRequest_l0))) b_z_IndexFunc_ScheduleRequest_r0))
abbrev k_z_IndexFunc_ScheduleRequest_0 : List K := [.blk 0, .c b_z_IndexFunc_ScheduleRequest_r0]
abbrev f_z_IndexFunc_ScheduleRequest := finF [(.tmp 4)] false
def c_z_IndexFunc_ScheduleRequest : AFn := .code 2 19 b_z_IndexFunc_ScheduleRequest [(.tmp 4)] false
-- 77
def b_s_members_r0 : ACode := (.seq (.region false [⟨(some 20), none, (.move (.tmp 3))⟩, ⟨(some 2), none, (.move (.tmp 20))⟩]) .ret)
def b_s_members_l0 : ACode := (.seq (.seq (.region false [⟨(some 5), none, (.move (.tmp 0))⟩, ⟨(some 6), none, (.move (.tmp 4))⟩, ⟨(some 7), none, (.arith .shr (.tmp 5) (.tmp 6))⟩, ⟨(some 8), none,
  (.arith .gtr (.tmp 7) (.const (.v (.int .i64 0))))⟩]) (.cond (.tmp 8) .skip (.exit 0))) (.seq (.block 1 (.seq (.region false [⟨(some 11), none, (.move (.tmp 0))⟩, ⟨(some 12), none, (.move (.tmp
  4))⟩, ⟨(some 13), none, (.arith .shr (.tmp 11) (.tmp 12))⟩, ⟨(some 14), none, (.arith .and (.tmp 13) (.const (.v (.int .i64 1))))⟩, ⟨(some 15), none, (.arith .eql (.tmp 14) (.const (.v (.int .i64
  1))))⟩]) (.cond (.tmp 15) (.region false [⟨(some 16), none, (.move (.tmp 3))⟩, ⟨(some 17), none, (.move (.tmp 4))⟩, ⟨(some 18), none, (.buildSlice 1 [[(.v (.int .i64 0))]] [(0, (.tmp 17))])⟩, ⟨(some
  19), none, (.append 1 (.tmp 16) (.tmp 18))⟩, ⟨(some 3), none, (.move (.tmp 19))⟩]) .skip))) (.region false [⟨(some 9), none, (.move (.tmp 4))⟩, ⟨(some 10), none, (.arith .add (.tmp 9) (.const (.v
  (.int .i64 1))))⟩, ⟨(some 4), none, (.move (.tmp 10))⟩])))
def b_s_members : ACode := (.seq (.region false [⟨(some 2), none, (.move (.const (.slice .nilS 0 [])))⟩]) (.seq (.region false [⟨(some 3), none, (.move (.const (.slice .nilS 0 [])))⟩]) (.seq (.seq
  (.region false [⟨(some 4), none, (.move (.const (.v (.int .i64 0))))⟩]) (.block 0 (.loop b_s_members_l0))) b_s_members_r0)))
abbrev k_s_members_0 : List K := [.blk 0, .c b_s_members_r0]
abbrev f_s_members := finF [(.tmp 2)] false
def c_s_members : AFn := .code 1 21 b_s_members [(.tmp 2)] false
-- 78
def b_w_without_r0 : ACode := (.seq (.region false [⟨(some 26), none, (.move (.tmp 7))⟩, ⟨(some 6), none, (.move (.tmp 26))⟩]) .ret)
def b_w_without_l0 : ACode := (.seq (.region false [⟨(some 13), none, (.arith .lss (.tmp 12) (.tmp 11))⟩]) (.seq (.cond (.tmp 13) .skip (.exit 0)) (.seq (.block 1 (.seq (.region false [⟨(some 14),
  none, (.indexAddr none 3 (.tmp 10) (.tmp 12))⟩, ⟨(some 15), none, (.load true 3 (.tmp 14))⟩, ⟨(some 9), none, (.alloc [(.v (.int .i64 0)), (.v (.int .i64 0)), (.slice .nilS 0 [])])⟩, ⟨none, none,
  (.store 3 (.tmp 9) (.tmp 15))⟩]) (.seq (.region false [⟨(some 16), none, (.move (.tmp 0))⟩, ⟨(some 17), none, (.load true 3 (.tmp 9))⟩, ⟨(some 18), none, (.load true 3 (.tmp 5))⟩, ⟨(some 19), none,
  (.call false 72 [(.tmp 16), (.tmp 17), (.tmp 18)])⟩, ⟨(some 20), none, (.un .not (.tmp 19))⟩]) (.cond (.tmp 20) (.region false [⟨(some 21), none, (.move (.tmp 7))⟩, ⟨(some 22), none, (.load true 3
  (.tmp 9))⟩, ⟨(some 23), none, (.buildSlice 3 [[(.v (.int .i64 0)), (.v (.int .i64 0)), (.slice .nilS 0 [])]] [(0, (.tmp 22))])⟩, ⟨(some 24), none, (.append 3 (.tmp 21) (.tmp 23))⟩, ⟨(some 7), none,
  (.move (.tmp 24))⟩]) .skip)))) (.region false [⟨(some 25), none, (.arith .add (.tmp 12) (.const (.v (.int .i64 1))))⟩, ⟨(some 12), none, (.move (.tmp 25))⟩]))))
def b_w_without : ACode := (.seq (.region false [⟨(some 5), none, (.box 3 (.tmp 2))⟩, ⟨(some 6), none, (.move (.const (.slice .nilS 0 [])))⟩]) (.seq (.region false [⟨(some 7), none, (.move (.const
  (.slice .nilS 0 [])))⟩]) (.seq (.seq (.region false [⟨(some 10), none, (.move (.tmp 1))⟩, ⟨(some 11), none, (.len false (.tmp 10))⟩, ⟨(some 12), none, (.move (.const (.v (.int .i64 0))))⟩]) (.block
  0 (.loop b_w_without_l0))) b_w_without_r0)))
abbrev k_w_without_0 : List K := [.blk 0, .c b_w_without_r0]
abbrev f_w_without := finF [(.tmp 6)] false
def c_w_without : AFn := .code 3 27 b_w_without [(.tmp 6)] false
-- 79
def b_w_fit_r0 : ACode := (.seq (.region false [⟨(some 4), none, (.move (.const (.v (.bool false))))⟩]) .ret)
def b_w_fit_r1 : ACode := (.region false [⟨(some 63), none, (.arith .add (.tmp 38) (.const (.v (.int .i64 1))))⟩, ⟨(some 38), none, (.move (.tmp 63))⟩])
def b_w_fit_r2 : ACode := (.seq (.region false [⟨(some 60), none, (.move (.tmp 0))⟩, ⟨(some 61), none, (.move (.tmp 10))⟩, ⟨(some 62), none, (.call false 79 [(.tmp 60), (.tmp 61)])⟩]) (.cond (.tmp 62)
  (.seq (.region false [⟨(some 4), none, (.move (.const (.v (.bool true))))⟩]) .ret) .skip))
def b_w_fit_l1 : ACode := (.seq (.region false [⟨(some 45), none, (.arith .lss (.tmp 44) (.tmp 43))⟩]) (.seq (.cond (.tmp 45) .skip (.exit 4)) (.seq (.block 5 (.seq (.region false [⟨(some 46), none,
  (.move (.tmp 44))⟩, ⟨(some 47), none, (.indexAddr none 1 (.tmp 42) (.tmp 44))⟩, ⟨(some 48), none, (.load false 1 (.tmp 47))⟩, ⟨(some 11), none, (.move (.tmp 46))⟩, ⟨(some 12), none, (.move (.tmp
  48))⟩]) (.seq (.region false [⟨(some 49), none, (.move (.tmp 11))⟩, ⟨(some 50), none, (.move (.tmp 5))⟩, ⟨(some 51), none, (.arith .neq (.tmp 49) (.tmp 50))⟩]) (.cond (.tmp 51) (.region false
  [⟨(some 52), none, (.move (.tmp 10))⟩, ⟨(some 53), none, (.move (.tmp 0))⟩, ⟨(some 54), none, (.move (.tmp 12))⟩, ⟨(some 55), none, (.load true 3 (.tmp 9))⟩, ⟨(some 56), none, (.call false 78 [(.tmp
  53), (.tmp 54), (.tmp 55)])⟩, ⟨(some 57), none, (.buildSlice 1 [[(.slice .nilS 0 [])]] [(0, (.tmp 56))])⟩, ⟨(some 58), none, (.append 1 (.tmp 52) (.tmp 57))⟩, ⟨(some 10), none, (.move (.tmp 58))⟩])
  .skip)))) (.region false [⟨(some 59), none, (.arith .add (.tmp 44) (.const (.v (.int .i64 1))))⟩, ⟨(some 44), none, (.move (.tmp 59))⟩]))))
def b_w_fit_l0 : ACode := (.seq (.region false [⟨(some 39), none, (.arith .lss (.tmp 38) (.tmp 37))⟩]) (.seq (.cond (.tmp 39) .skip (.exit 2)) (.seq (.block 3 (.seq (.region false [⟨(some 40), none,
  (.indexAddr none 3 (.tmp 36) (.tmp 38))⟩, ⟨(some 41), none, (.load true 3 (.tmp 40))⟩, ⟨(some 9), none, (.alloc [(.v (.int .i64 0)), (.v (.int .i64 0)), (.slice .nilS 0 [])])⟩, ⟨none, none, (.store
  3 (.tmp 9) (.tmp 41))⟩]) (.seq (.region false [⟨(some 10), none, (.move (.const (.slice .nilS 0 [])))⟩]) (.seq (.seq (.region false [⟨(some 42), none, (.move (.tmp 1))⟩, ⟨(some 43), none, (.len
  false (.tmp 42))⟩, ⟨(some 44), none, (.move (.const (.v (.int .i64 0))))⟩]) (.block 4 (.loop b_w_fit_l1))) b_w_fit_r2)))) b_w_fit_r1)))
def b_w_fit_r3 : ACode := (.seq (.seq (.region false [⟨(some 33), none, (.move (.tmp 1))⟩, ⟨(some 34), none, (.move (.tmp 5))⟩, ⟨(some 35), none, (.indexAddr none 1 (.tmp 33) (.tmp 34))⟩, ⟨(some 36),
  none, (.load false 1 (.tmp 35))⟩, ⟨(some 37), none, (.len false (.tmp 36))⟩, ⟨(some 38), none, (.move (.const (.v (.int .i64 0))))⟩]) (.block 2 (.loop b_w_fit_l0))) b_w_fit_r0)
def b_w_fit_l2 : ACode := (.seq (.region false [⟨(some 19), none, (.arith .lss (.tmp 18) (.tmp 17))⟩]) (.seq (.cond (.tmp 19) .skip (.exit 0)) (.seq (.block 1 (.seq (.region false [⟨(some 20), none,
  (.move (.tmp 18))⟩, ⟨(some 21), none, (.indexAddr none 1 (.tmp 16) (.tmp 18))⟩, ⟨(some 22), none, (.load false 1 (.tmp 21))⟩, ⟨(some 6), none, (.move (.tmp 20))⟩, ⟨(some 7), none, (.move (.tmp
  22))⟩]) (.seq (.region false [⟨(some 23), none, (.move (.tmp 7))⟩, ⟨(some 24), none, (.len false (.tmp 23))⟩, ⟨(some 25), none, (.move (.tmp 1))⟩, ⟨(some 26), none, (.move (.tmp 5))⟩, ⟨(some 27),
  none, (.indexAddr none 1 (.tmp 25) (.tmp 26))⟩, ⟨(some 28), none, (.load false 1 (.tmp 27))⟩, ⟨(some 29), none, (.len false (.tmp 28))⟩, ⟨(some 30), none, (.arith .lss (.tmp 24) (.tmp 29))⟩]) (.cond
  (.tmp 30) (.region false [⟨(some 31), none, (.move (.tmp 6))⟩, ⟨(some 5), none, (.move (.tmp 31))⟩]) .skip)))) (.region false [⟨(some 32), none, (.arith .add (.tmp 18) (.const (.v (.int .i64 1))))⟩,
  ⟨(some 18), none, (.move (.tmp 32))⟩]))))
def b_w_fit : ACode := (.seq (.region false [⟨(some 4), none, (.move (.const (.v (.bool false))))⟩]) (.seq (.seq (.region false [⟨(some 13), none, (.move (.tmp 1))⟩, ⟨(some 14), none, (.len false
  (.tmp 13))⟩, ⟨(some 15), none, (.arith .eql (.tmp 14) (.const (.v (.int .i64 0))))⟩]) (.cond (.tmp 15) (.seq (.region false [⟨(some 4), none, (.move (.const (.v (.bool true))))⟩]) .ret) .skip))
  (.seq (.region false [⟨(some 5), none, (.move (.const (.v (.int .i64 0))))⟩]) (.seq (.seq (.region false [⟨(some 16), none, (.move (.tmp 1))⟩, ⟨(some 17), none, (.len false (.tmp 16))⟩, ⟨(some 18),
  none, (.move (.const (.v (.int .i64 0))))⟩]) (.block 0 (.loop b_w_fit_l2))) b_w_fit_r3))))
abbrev k_w_fit_1 : List K := [.blk 4, .c b_w_fit_r2, .blk 3, .c b_w_fit_r1, .lp b_w_fit_l0, .blk 2, .c b_w_fit_r0]
abbrev k_w_fit_0 : List K := [.blk 2, .c b_w_fit_r0]
abbrev k_w_fit_2 : List K := [.blk 0, .c b_w_fit_r3]
abbrev f_w_fit := finF [(.tmp 4)] false
def c_w_fit : AFn := .code 2 64 b_w_fit [(.tmp 4)] false
-- 80
def b_z_Index_int_r0 : ACode := (.seq (.region false [⟨(some 4), none, (.move (.const (.v (.int .i64 (-1)))))⟩]) .ret)
def b_z_Index_int_l0 : ACode := (.seq (.region false [⟨(some 9), none, (.arith .lss (.tmp 8) (.tmp 7))⟩]) (.seq (.cond (.tmp 9) .skip (.exit 0)) (.seq (.block 1 (.seq (.region false [⟨(some 10), none,
  (.move (.tmp 8))⟩, ⟨(some 5), none, (.move (.tmp 10))⟩]) (.seq (.region false [⟨(some 11), none, (.move (.tmp 1))⟩, ⟨(some 12), none, (.move (.tmp 0))⟩, ⟨(some 13), none, (.move (.tmp 5))⟩, ⟨(some
  14), none, (.indexAddr none 1 (.tmp 12) (.tmp 13))⟩, ⟨(some 15), none, (.load false 1 (.tmp 14))⟩, ⟨(some 16), none, (.arith .eql (.tmp 11) (.tmp 15))⟩]) (.cond (.tmp 16) (.seq (.region false
  [⟨(some 17), none, (.move (.tmp 5))⟩, ⟨(some 4), none, (.move (.tmp 17))⟩]) .ret) .skip)))) (.region false [⟨(some 18), none, (.arith .add (.tmp 8) (.const (.v (.int .i64 1))))⟩, ⟨(some 8), none,
  (.move (.tmp 18))⟩]))))
def b_z_Index_int : ACode := (.seq (.region false [⟨(some 4), none, (.move (.const (.v (.int .i64 0))))⟩]) (.seq (.seq (.region false [⟨(some 6), none, (.move (.tmp 0))⟩, ⟨(some 7), none, (.len false
  (.tmp 6))⟩, ⟨(some 8), none, (.move (.const (.v (.int .i64 0))))⟩]) (.block 0 (.loop b_z_Index_int_l0))) b_z_Index_int_r0))
abbrev k_z_Index_int_0 : List K := [.blk 0, .c b_z_Index_int_r0]
abbrev f_z_Index_int := finF [(.tmp 4)] false
def c_z_Index_int : AFn := .code 2 19 b_z_Index_int [(.tmp 4)] false
-- 81
def b_z_Clone_SchedulePass : ACode := (.seq (.region false [⟨(some 2), none, (.move (.const (.slice .nilS 0 [])))⟩]) (.seq (.seq (.region false [⟨(some 3), none, (.move (.tmp 0))⟩, ⟨(some 4), none,
  (.eqv false .slice (.tmp 3) (.const (.slice .nilS 0 [])))⟩]) (.cond (.tmp 4) (.seq (.region false [⟨(some 2), none, (.move (.const (.slice .nilS 0 [])))⟩]) .ret) .skip)) (.seq (.region false [⟨(some
  5), none, (.buildSlice 3 [] [])⟩, ⟨(some 6), none, (.move (.tmp 0))⟩, ⟨(some 7), none, (.append 3 (.tmp 5) (.tmp 6))⟩, ⟨(some 2), none, (.move (.tmp 7))⟩]) .ret)))
abbrev f_z_Clone_SchedulePass := finF [(.tmp 2)] true
def c_z_Clone_SchedulePass : AFn := .code 1 8 b_z_Clone_SchedulePass [(.tmp 2)] true
-- 85
def b_s_antennaErr_r0 : ACode := (.seq (.region false [⟨(some 53), none, (.move (.tmp 7))⟩, ⟨(some 4), none, (.move (.tmp 53))⟩]) .ret)
def b_s_antennaErr_l0 : ACode := (.seq (.region false [⟨(some 43), none, (.arith .lss (.tmp 42) (.tmp 41))⟩]) (.seq (.cond (.tmp 43) .skip (.exit 0)) (.seq (.block 1 (.seq (.region false [⟨(some 44),
  none, (.indexAddr none 2 (.tmp 40) (.tmp 42))⟩, ⟨(some 45), none, (.load true 2 (.tmp 44))⟩, ⟨(some 9), none, (.alloc [(.v (.int .i64 0)), (.v (.int .i64 0))])⟩, ⟨none, none, (.store 2 (.tmp 9)
  (.tmp 45))⟩]) (.region false [⟨(some 46), none, (.move (.tmp 7))⟩, ⟨(some 47), none, (.load true 3 (.tmp 2))⟩, ⟨(some 48), none, (.load true 2 (.tmp 9))⟩, ⟨(some 49), none, (.call false 105 [(.tmp
  47), (.tmp 48)])⟩, ⟨(some 50), none, (.buildSlice 1 [[(.v (.int .i64 0))], [(.v (.int .i64 0))]] [(0, (.tmp 46)), (1, (.tmp 49))])⟩, ⟨(some 51), none, (.call false 23 [(.tmp 50)])⟩, ⟨(some 7), none,
  (.move (.tmp 51))⟩]))) (.region false [⟨(some 52), none, (.arith .add (.tmp 42) (.const (.v (.int .i64 1))))⟩, ⟨(some 42), none, (.move (.tmp 52))⟩]))))
def b_s_antennaErr : ACode := (.seq (.region false [⟨(some 2), none, (.box 3 (.tmp 0))⟩, ⟨(some 4), none, (.move (.const (.v (.int .i64 0))))⟩]) (.seq (.region false [⟨(some 10), none, (.fieldAddr 1
  (.tmp 2))⟩, ⟨(some 11), none, (.load false 1 (.tmp 10))⟩, ⟨(some 12), none, (.move (.tmp 1))⟩, ⟨(some 13), none, (.indexAddr none 3 (.tmp 11) (.tmp 12))⟩, ⟨(some 14), none, (.load true 3 (.tmp
  13))⟩, ⟨(some 5), none, (.alloc [(.v (.string ⟨#[]⟩)), (.v (.int .i64 0)), (.slice .nilS 0 [])])⟩, ⟨none, none, (.store 3 (.tmp 5) (.tmp 14))⟩]) (.seq (.region false [⟨(some 15), none, (.fieldAddr 1
  (.tmp 2))⟩, ⟨(some 16), none, (.load false 1 (.tmp 15))⟩, ⟨(some 17), none, (.move (.tmp 1))⟩, ⟨(some 18), none, (.slice (.sl 3) (.tmp 16) none (some (.tmp 17)) none)⟩, ⟨(some 19), none, (.mkFn 103
  [] [(.tmp 5)])⟩, ⟨(some 20), none, (.call false 102 [(.tmp 18), (.tmp 19)])⟩, ⟨(some 6), none, (.move (.tmp 20))⟩]) (.seq (.region true [⟨(some 21), none, (.fieldAddr 0 (.tmp 5))⟩, ⟨(some 22), none,
  (.load false 1 (.tmp 21))⟩, ⟨(some 23), none, (.call true 104 [(.tmp 22)])⟩, ⟨(some 24), none, (.call true 25 [(.tmp 23), (.const (.v (.int .i64 4)))])⟩, ⟨(some 25), none, (.move (.tmp 6))⟩, ⟨(some
  26), none, (.un .not (.tmp 25))⟩, ⟨(some 27), none, (.call true 25 [(.tmp 26), (.const (.v (.int .i64 5)))])⟩, ⟨(some 28), none, (.fieldAddr 1 (.tmp 5))⟩, ⟨(some 29), none, (.load false 1 (.tmp
  28))⟩, ⟨(some 30), none, (.call true 45 [(.tmp 29), (.const (.v (.int .i64 0))), (.const (.v (.int .i64 50)))])⟩, ⟨(some 31), none, (.call true 25 [(.tmp 30), (.const (.v (.int .i64 2)))])⟩, ⟨(some
  32), none, (.fieldAddr 2 (.tmp 5))⟩, ⟨(some 33), none, (.load false 1 (.tmp 32))⟩, ⟨(some 34), none, (.len false (.tmp 33))⟩, ⟨(some 35), none, (.arith .leq (.tmp 34) (.const (.v (.int .i64 6))))⟩,
  ⟨(some 36), none, (.call false 25 [(.tmp 35), (.const (.v (.int .i64 8)))])⟩, ⟨(some 37), none, (.buildSlice 1 [[(.v (.int .i64 0))], [(.v (.int .i64 0))], [(.v (.int .i64 0))], [(.v (.int .i64
  0))]] [(0, (.tmp 24)), (1, (.tmp 27)), (2, (.tmp 31)), (3, (.tmp 36))])⟩, ⟨(some 38), none, (.call false 23 [(.tmp 37)])⟩, ⟨(some 7), none, (.move (.tmp 38))⟩]) (.seq (.seq (.region false [⟨(some
  39), none, (.fieldAddr 2 (.tmp 5))⟩, ⟨(some 40), none, (.load false 1 (.tmp 39))⟩, ⟨(some 41), none, (.len false (.tmp 40))⟩, ⟨(some 42), none, (.move (.const (.v (.int .i64 0))))⟩]) (.block 0
  (.loop b_s_antennaErr_l0))) b_s_antennaErr_r0)))))
abbrev k_s_antennaErr_0 : List K := [.blk 0, .c b_s_antennaErr_r0]
abbrev f_s_antennaErr := finF [(.tmp 4)] false
def c_s_antennaErr : AFn := .code 2 54 b_s_antennaErr [(.tmp 4)] false
-- 86
def b_s_requestErr_r0 : ACode := (.seq (.region false [⟨(some 71), none, (.move (.tmp 5))⟩, ⟨(some 72), none, (.fieldAddr 6 (.tmp 3))⟩, ⟨(some 73), none, (.load false 1 (.tmp 72))⟩, ⟨(some 74), none,
  (.fieldAddr 5 (.tmp 3))⟩, ⟨(some 75), none, (.load false 1 (.tmp 74))⟩, ⟨(some 76), none, (.len false (.tmp 75))⟩, ⟨(some 77), none, (.call false 45 [(.tmp 73), (.const (.v (.int .i64 1))), (.tmp
  76)])⟩, ⟨(some 78), none, (.call false 25 [(.tmp 77), (.const (.v (.int .i64 2)))])⟩, ⟨(some 79), none, (.buildSlice 1 [[(.v (.int .i64 0))], [(.v (.int .i64 0))]] [(0, (.tmp 71)), (1, (.tmp
  78))])⟩, ⟨(some 80), none, (.call false 23 [(.tmp 79)])⟩, ⟨(some 4), none, (.move (.tmp 80))⟩]) .ret)
def b_s_requestErr_l0 : ACode := (.seq (.region false [⟨(some 52), none, (.arith .lss (.tmp 51) (.tmp 50))⟩]) (.seq (.cond (.tmp 52) .skip (.exit 0)) (.seq (.block 1 (.seq (.region false [⟨(some 53),
  none, (.indexAddr none 1 (.tmp 49) (.tmp 51))⟩, ⟨(some 54), none, (.load false 1 (.tmp 53))⟩, ⟨(some 9), none, (.move (.tmp 54))⟩]) (.seq (.region false [⟨(some 55), none, (.move (.tmp 5))⟩, ⟨(some
  56), none, (.move (.tmp 9))⟩, ⟨(some 57), none, (.fieldAddr 1 (.tmp 2))⟩, ⟨(some 58), none, (.load false 1 (.tmp 57))⟩, ⟨(some 59), none, (.len false (.tmp 58))⟩, ⟨(some 60), none, (.arith .sub
  (.tmp 59) (.const (.v (.int .i64 1))))⟩, ⟨(some 61), none, (.call false 45 [(.tmp 56), (.const (.v (.int .i64 0))), (.tmp 60)])⟩, ⟨(some 62), none, (.call false 25 [(.tmp 61), (.const (.v (.int .i64
  6)))])⟩, ⟨(some 63), none, (.move (.tmp 9))⟩, ⟨(some 64), none, (.move (.tmp 7))⟩, ⟨(some 65), none, (.arith .gtr (.tmp 63) (.tmp 64))⟩, ⟨(some 66), none, (.call false 25 [(.tmp 65), (.const (.v
  (.int .i64 9)))])⟩, ⟨(some 67), none, (.buildSlice 1 [[(.v (.int .i64 0))], [(.v (.int .i64 0))], [(.v (.int .i64 0))]] [(0, (.tmp 55)), (1, (.tmp 62)), (2, (.tmp 66))])⟩, ⟨(some 68), none, (.call
  false 23 [(.tmp 67)])⟩, ⟨(some 5), none, (.move (.tmp 68))⟩]) (.region false [⟨(some 69), none, (.move (.tmp 9))⟩, ⟨(some 7), none, (.move (.tmp 69))⟩])))) (.region false [⟨(some 70), none, (.arith
  .add (.tmp 51) (.const (.v (.int .i64 1))))⟩, ⟨(some 51), none, (.move (.tmp 70))⟩]))))
def b_s_requestErr : ACode := (.seq (.region false [⟨(some 2), none, (.box 3 (.tmp 0))⟩, ⟨(some 3), none, (.box 7 (.tmp 1))⟩, ⟨(some 4), none, (.move (.const (.v (.int .i64 0))))⟩]) (.seq (.region
  true [⟨(some 10), none, (.fieldAddr 0 (.tmp 3))⟩, ⟨(some 11), none, (.load false 1 (.tmp 10))⟩, ⟨(some 12), none, (.call true 104 [(.tmp 11)])⟩, ⟨(some 13), none, (.call true 25 [(.tmp 12), (.const
  (.v (.int .i64 4)))])⟩, ⟨(some 14), none, (.load true 3 (.tmp 2))⟩, ⟨(some 15), none, (.fieldAddr 1 (.tmp 3))⟩, ⟨(some 16), none, (.load true 2 (.tmp 15))⟩, ⟨(some 17), none, (.call false 105 [(.tmp
  14), (.tmp 16)])⟩, ⟨(some 18), none, (.buildSlice 1 [[(.v (.int .i64 0))], [(.v (.int .i64 0))]] [(0, (.tmp 13)), (1, (.tmp 17))])⟩, ⟨(some 19), none, (.call false 23 [(.tmp 18)])⟩, ⟨(some 5), none,
  (.move (.tmp 19))⟩]) (.seq (.seq (.region false [⟨(some 20), none, (.move (.tmp 5))⟩, ⟨(some 21), none, (.arith .neq (.tmp 20) (.const (.v (.int .i64 0))))⟩]) (.cond (.tmp 21) (.seq (.region false
  [⟨(some 22), none, (.move (.tmp 5))⟩, ⟨(some 4), none, (.move (.tmp 22))⟩]) .ret) .skip)) (.seq (.region false [⟨(some 23), none, (.fieldAddr 3 (.tmp 3))⟩, ⟨(some 24), none, (.load false 1 (.tmp
  23))⟩, ⟨(some 25), none, (.fieldAddr 1 (.tmp 3))⟩, ⟨(some 26), none, (.fieldAddr 1 (.tmp 25))⟩, ⟨(some 27), none, (.load false 1 (.tmp 26))⟩, ⟨(some 28), none, (.fieldAddr 1 (.tmp 3))⟩, ⟨(some 29),
  none, (.fieldAddr 0 (.tmp 28))⟩, ⟨(some 30), none, (.load false 1 (.tmp 29))⟩, ⟨(some 31), none, (.arith .sub (.tmp 27) (.tmp 30))⟩, ⟨(some 32), none, (.arith .add (.tmp 31) (.const (.v (.int .i64
  1))))⟩, ⟨(some 33), none, (.call false 45 [(.tmp 24), (.const (.v (.int .i64 1))), (.tmp 32)])⟩, ⟨(some 34), none, (.move (.tmp 33))⟩, ⟨(some 35), (some (34, true)), (.fieldAddr 4 (.tmp 3))⟩, ⟨(some
  36), (some (34, true)), (.load false 1 (.tmp 35))⟩, ⟨(some 37), (some (34, true)), (.call false 45 [(.tmp 36), (.const (.v (.int .i64 0))), (.const (.v (.int .i64 100000)))])⟩, ⟨(some 38), none,
  (.pick (.tmp 34) (.tmp 37) (.const (.v (.bool false))))⟩, ⟨(some 6), none, (.move (.tmp 38))⟩]) (.seq (.region true [⟨(some 39), none, (.move (.tmp 6))⟩, ⟨(some 40), none, (.call true 25 [(.tmp 39),
  (.const (.v (.int .i64 2)))])⟩, ⟨(some 41), none, (.fieldAddr 5 (.tmp 3))⟩, ⟨(some 42), none, (.load false 1 (.tmp 41))⟩, ⟨(some 43), none, (.len false (.tmp 42))⟩, ⟨(some 44), none, (.arith .gtr
  (.tmp 43) (.const (.v (.int .i64 0))))⟩, ⟨(some 45), none, (.call false 25 [(.tmp 44), (.const (.v (.int .i64 10)))])⟩, ⟨(some 46), none, (.buildSlice 1 [[(.v (.int .i64 0))], [(.v (.int .i64 0))]]
  [(0, (.tmp 40)), (1, (.tmp 45))])⟩, ⟨(some 47), none, (.call false 23 [(.tmp 46)])⟩, ⟨(some 5), none, (.move (.tmp 47))⟩]) (.seq (.region false [⟨(some 7), none, (.move (.const (.v (.int .i64
  (-1)))))⟩]) (.seq (.seq (.region false [⟨(some 48), none, (.fieldAddr 5 (.tmp 3))⟩, ⟨(some 49), none, (.load false 1 (.tmp 48))⟩, ⟨(some 50), none, (.len false (.tmp 49))⟩, ⟨(some 51), none, (.move
  (.const (.v (.int .i64 0))))⟩]) (.block 0 (.loop b_s_requestErr_l0))) b_s_requestErr_r0)))))))
abbrev k_s_requestErr_0 : List K := [.blk 0, .c b_s_requestErr_r0]
abbrev f_s_requestErr := finF [(.tmp 4)] false
def c_s_requestErr : AFn := .code 2 81 b_s_requestErr [(.tmp 4)] false
-- 87
def b_z_Contains_bool : ACode := (.seq (.region false [⟨(some 4), none, (.move (.const (.v (.bool false))))⟩]) (.seq (.region false [⟨(some 5), none, (.move (.tmp 0))⟩, ⟨(some 6), none, (.move (.tmp
  1))⟩, ⟨(some 7), none, (.call false 106 [(.tmp 5), (.tmp 6)])⟩, ⟨(some 8), none, (.arith .geq (.tmp 7) (.const (.v (.int .i64 0))))⟩, ⟨(some 4), none, (.move (.tmp 8))⟩]) .ret))
abbrev f_z_Contains_bool := finF [(.tmp 4)] false
def c_z_Contains_bool : AFn := .code 2 9 b_z_Contains_bool [(.tmp 4)] false
-- 88
def b_s_groups_1 : ACode := (.seq (.region false [⟨(some 3), none, (.box 1 (.tmp 0))⟩]) (.seq (.region false [⟨(some 4), none, (.alloc [(.v .nilFunc)])⟩]) (.seq (.region false [⟨(some 5), none, (.mkFn
  89 [] [(.tmp 1), (.tmp 3), (.tmp 4)])⟩, ⟨none, none, (.store 1 (.tmp 4) (.tmp 5))⟩]) (.region false [⟨(some 6), none, (.load false 1 (.tmp 4))⟩, ⟨(some 7), none, (.load false 1 (.tmp 2))⟩, ⟨(some
  8), none, (.callv false (.tmp 6) [(.const (.slice .nilS 0 [])), (.tmp 7)])⟩]))))
abbrev f_s_groups_1 := finF [] false
def c_s_groups_1 : AFn := .code 3 9 b_s_groups_1 [] false
-- 89
def b_s_groups_1_1_r0 : ACode := (.seq (.region false [⟨(some 7), none, (.move (.const (.v (.bool true))))⟩]) .ret)
def b_s_groups_1_1_l0 : ACode := (.seq (.region false [⟨(some 21), none, (.arith .lss (.tmp 20) (.tmp 19))⟩]) (.seq (.cond (.tmp 21) .skip (.exit 0)) (.seq (.block 1 (.seq (.region false [⟨(some 22),
  none, (.move (.tmp 20))⟩, ⟨(some 23), none, (.indexAddr none 1 (.tmp 18) (.tmp 20))⟩, ⟨(some 24), none, (.load false 1 (.tmp 23))⟩, ⟨(some 8), none, (.move (.tmp 22))⟩, ⟨(some 9), none, (.move (.tmp
  24))⟩]) (.seq (.region true [⟨(some 25), none, (.load false 1 (.tmp 4))⟩, ⟨(some 26), none, (.move (.tmp 0))⟩, ⟨(some 27), none, (.move (.tmp 0))⟩, ⟨(some 28), none, (.len false (.tmp 27))⟩, ⟨(some
  29), none, (.move (.tmp 0))⟩, ⟨(some 30), none, (.len false (.tmp 29))⟩, ⟨(some 31), none, (.slice (.sl 1) (.tmp 26) none (some (.tmp 28)) (some (.tmp 30)))⟩, ⟨(some 32), none, (.move (.tmp 9))⟩,
  ⟨(some 33), none, (.buildSlice 1 [[(.v (.int .i64 0))]] [(0, (.tmp 32))])⟩, ⟨(some 34), none, (.append 1 (.tmp 31) (.tmp 33))⟩, ⟨(some 35), none, (.move (.tmp 1))⟩, ⟨(some 36), none, (.move (.tmp
  8))⟩, ⟨(some 37), none, (.arith .add (.tmp 36) (.const (.v (.int .i64 1))))⟩, ⟨(some 38), none, (.slice (.sl 1) (.tmp 35) (some (.tmp 37)) none none)⟩, ⟨(some 39), none, (.callv false (.tmp 25)
  [(.tmp 34), (.tmp 38)])⟩, ⟨(some 40), none, (.un .not (.tmp 39))⟩]) (.cond (.tmp 40) (.seq (.region false [⟨(some 7), none, (.move (.const (.v (.bool false))))⟩]) .ret) .skip)))) (.region false
  [⟨(some 41), none, (.arith .add (.tmp 20) (.const (.v (.int .i64 1))))⟩, ⟨(some 20), none, (.move (.tmp 41))⟩]))))
def b_s_groups_1_1 : ACode := (.seq (.region false [⟨(some 7), none, (.move (.const (.v (.bool false))))⟩]) (.seq (.seq (.region false [⟨(some 10), none, (.move (.tmp 0))⟩, ⟨(some 11), none, (.len
  false (.tmp 10))⟩, ⟨(some 12), none, (.load false 1 (.tmp 2))⟩, ⟨(some 13), none, (.arith .eql (.tmp 11) (.tmp 12))⟩]) (.cond (.tmp 13) (.seq (.region true [⟨(some 14), none, (.load false 1 (.tmp
  3))⟩, ⟨(some 15), none, (.move (.tmp 0))⟩, ⟨(some 16), none, (.call true 90 [(.tmp 15)])⟩, ⟨(some 17), none, (.callv false (.tmp 14) [(.tmp 16)])⟩, ⟨(some 7), none, (.move (.tmp 17))⟩]) .ret)
  .skip)) (.seq (.seq (.region false [⟨(some 18), none, (.move (.tmp 1))⟩, ⟨(some 19), none, (.len false (.tmp 18))⟩, ⟨(some 20), none, (.move (.const (.v (.int .i64 0))))⟩]) (.block 0 (.loop
  b_s_groups_1_1_l0))) b_s_groups_1_1_r0)))
abbrev k_s_groups_1_1_0 : List K := [.blk 0, .c b_s_groups_1_1_r0]
abbrev f_s_groups_1_1 := finF [(.tmp 7)] false
def c_s_groups_1_1 : AFn := .code 5 42 b_s_groups_1_1 [(.tmp 7)] false
-- 90
def b_z_Clone_int : ACode := (.seq (.region false [⟨(some 2), none, (.move (.const (.slice .nilS 0 [])))⟩]) (.seq (.seq (.region false [⟨(some 3), none, (.move (.tmp 0))⟩, ⟨(some 4), none, (.eqv false
  .slice (.tmp 3) (.const (.slice .nilS 0 [])))⟩]) (.cond (.tmp 4) (.seq (.region false [⟨(some 2), none, (.move (.const (.slice .nilS 0 [])))⟩]) .ret) .skip)) (.seq (.region false [⟨(some 5), none,
  (.buildSlice 1 [] [])⟩, ⟨(some 6), none, (.move (.tmp 0))⟩, ⟨(some 7), none, (.append 1 (.tmp 5) (.tmp 6))⟩, ⟨(some 2), none, (.move (.tmp 7))⟩]) .ret)))
abbrev f_z_Clone_int := finF [(.tmp 2)] true
def c_z_Clone_int : AFn := .code 1 8 b_z_Clone_int [(.tmp 2)] true
-- 91
def b_z_ContainsFunc_int : ACode := (.seq (.region false [⟨(some 4), none, (.move (.const (.v (.bool false))))⟩]) (.seq (.region false [⟨(some 5), none, (.move (.tmp 0))⟩, ⟨(some 6), none, (.move
  (.tmp 1))⟩, ⟨(some 7), none, (.call false 107 [(.tmp 5), (.tmp 6)])⟩, ⟨(some 8), none, (.arith .geq (.tmp 7) (.const (.v (.int .i64 0))))⟩, ⟨(some 4), none, (.move (.tmp 8))⟩]) .ret))
abbrev f_z_ContainsFunc_int := finF [(.tmp 4)] false
def c_z_ContainsFunc_int : AFn := .code 2 9 b_z_ContainsFunc_int [(.tmp 4)] false
-- 92
def b_w_conflict_1 : ACode := (.seq (.region false [⟨(some 6), none, (.move (.const (.v (.bool false))))⟩]) (.seq (.region false [⟨(some 8), none, (.load false 1 (.tmp 1))⟩, ⟨(some 9), none,
  (.nilCheck (.tmp 8))⟩, ⟨(some 10), none, (.fieldAddr 0 (.tmp 9))⟩, ⟨(some 11), none, (.fieldAddr 1 (.tmp 10))⟩, ⟨(some 12), none, (.load false 1 (.tmp 11))⟩, ⟨(some 13), none, (.move (.tmp 0))⟩,
  ⟨(some 14), none, (.indexAddr none 3 (.tmp 12) (.tmp 13))⟩, ⟨(some 15), none, (.fieldAddr 1 (.tmp 14))⟩, ⟨(some 16), none, (.load false 1 (.tmp 15))⟩, ⟨(some 7), none, (.move (.tmp 16))⟩]) (.seq
  (.seq (.region false [⟨(some 17), none, (.load false 1 (.tmp 2))⟩]) (.cond (.tmp 17) (.region false [⟨(some 7), none, (.move (.const (.v (.int .i64 0))))⟩]) .skip)) (.seq (.region true [⟨(some 18),
  none, (.fieldAddr 2 (.tmp 3))⟩, ⟨(some 19), none, (.load false 1 (.tmp 18))⟩, ⟨(some 20), none, (.move (.tmp 0))⟩, ⟨(some 21), none, (.call false 59 [(.tmp 19), (.tmp 20)])⟩, ⟨(some 22), none,
  (.move (.tmp 21))⟩, ⟨(some 23), (some (22, true)), (.fieldAddr 1 (.tmp 3))⟩, ⟨(some 24), (some (22, true)), (.load false 1 (.tmp 23))⟩, ⟨(some 25), (some (22, true)), (.load false 1 (.tmp 1))⟩,
  ⟨(some 26), (some (22, true)), (.load true 3 (.tmp 4))⟩, ⟨(some 27), (some (22, true)), (.call true 93 [(.tmp 25), (.tmp 26)])⟩, ⟨(some 28), (some (22, true)), (.arith .sub (.tmp 24) (.tmp 27))⟩,
  ⟨(some 29), (some (22, true)), (.move (.tmp 7))⟩, ⟨(some 30), (some (22, true)), (.arith .lss (.tmp 28) (.tmp 29))⟩, ⟨(some 31), none, (.pick (.tmp 22) (.tmp 30) (.const (.v (.bool false))))⟩,
  ⟨(some 6), none, (.move (.tmp 31))⟩]) .ret))))
abbrev f_w_conflict_1 := finF [(.tmp 6)] false
def c_w_conflict_1 : AFn := .code 5 32 b_w_conflict_1 [(.tmp 6)] false
-- 93
def b_w_end : ACode := (.seq (.region false [⟨(some 3), none, (.box 3 (.tmp 1))⟩, ⟨(some 4), none, (.move (.const (.v (.int .i64 0))))⟩]) (.seq (.region true [⟨(some 5), none, (.fieldAddr 1 (.tmp
  3))⟩, ⟨(some 6), none, (.load false 1 (.tmp 5))⟩, ⟨(some 7), none, (.move (.tmp 0))⟩, ⟨(some 8), none, (.nilCheck (.tmp 7))⟩, ⟨(some 9), none, (.fieldAddr 0 (.tmp 8))⟩, ⟨(some 10), none, (.fieldAddr
  2 (.tmp 9))⟩, ⟨(some 11), none, (.load false 1 (.tmp 10))⟩, ⟨(some 12), none, (.fieldAddr 0 (.tmp 3))⟩, ⟨(some 13), none, (.load false 1 (.tmp 12))⟩, ⟨(some 14), none, (.indexAddr none 7 (.tmp 11)
  (.tmp 13))⟩, ⟨(some 15), none, (.fieldAddr 3 (.tmp 14))⟩, ⟨(some 16), none, (.load false 1 (.tmp 15))⟩, ⟨(some 17), none, (.arith .add (.tmp 6) (.tmp 16))⟩, ⟨(some 4), none, (.move (.tmp 17))⟩])
  .ret))
abbrev f_w_end := finF [(.tmp 4)] false
def c_w_end : AFn := .code 2 18 b_w_end [(.tmp 4)] false
-- 94
def b_b_IsName_r0 : ACode := (.seq (.region false [⟨(some 2), none, (.move (.const (.v (.bool true))))⟩]) .ret)
def b_b_IsName_l0 : ACode := (.seq (.seq (.region false [⟨(some 14), none, (.move (.tmp 3))⟩, ⟨(some 15), none, (.move (.tmp 0))⟩, ⟨(some 16), none, (.len true (.tmp 15))⟩, ⟨(some 17), none, (.arith
  .lss (.tmp 14) (.tmp 16))⟩]) (.cond (.tmp 17) .skip (.exit 0))) (.seq (.block 1 (.seq (.region false [⟨(some 20), none, (.move (.tmp 0))⟩, ⟨(some 21), none, (.move (.tmp 3))⟩, ⟨(some 22), none,
  (.indexStr (.tmp 20) (.tmp 21))⟩, ⟨(some 4), none, (.move (.tmp 22))⟩]) (.seq (.region false [⟨(some 23), none, (.move (.tmp 4))⟩, ⟨(some 24), none, (.arith .geq (.tmp 23) (.const (.v (.int .u8
  97))))⟩, ⟨(some 25), none, (.move (.tmp 24))⟩, ⟨(some 26), (some (25, true)), (.move (.tmp 4))⟩, ⟨(some 27), (some (25, true)), (.arith .leq (.tmp 26) (.const (.v (.int .u8 122))))⟩, ⟨(some 28),
  none, (.pick (.tmp 25) (.tmp 27) (.const (.v (.bool false))))⟩, ⟨(some 29), none, (.move (.tmp 28))⟩, ⟨(some 30), (some (29, false)), (.move (.tmp 4))⟩, ⟨(some 31), (some (29, false)), (.arith .geq
  (.tmp 30) (.const (.v (.int .u8 65))))⟩, ⟨(some 32), (some (29, false)), (.move (.tmp 31))⟩, ⟨(some 33), (some (32, true)), (.move (.tmp 4))⟩, ⟨(some 34), (some (32, true)), (.arith .leq (.tmp 33)
  (.const (.v (.int .u8 90))))⟩, ⟨(some 35), (some (29, false)), (.pick (.tmp 32) (.tmp 34) (.const (.v (.bool false))))⟩, ⟨(some 36), none, (.pick (.tmp 29) (.const (.v (.bool true))) (.tmp 35))⟩,
  ⟨(some 5), none, (.move (.tmp 36))⟩]) (.seq (.region false [⟨(some 37), none, (.move (.tmp 5))⟩, ⟨(some 38), none, (.un .not (.tmp 37))⟩, ⟨(some 39), none, (.move (.tmp 38))⟩, ⟨(some 40), (some (39,
  true)), (.move (.tmp 3))⟩, ⟨(some 41), (some (39, true)), (.arith .eql (.tmp 40) (.const (.v (.int .i64 0))))⟩, ⟨(some 42), (some (39, true)), (.move (.tmp 41))⟩, ⟨(some 43), (some (42, false)),
  (.move (.tmp 4))⟩, ⟨(some 44), (some (42, false)), (.arith .neq (.tmp 43) (.const (.v (.int .u8 45))))⟩, ⟨(some 45), (some (42, false)), (.move (.tmp 44))⟩, ⟨(some 46), (some (45, true)), (.move
  (.tmp 4))⟩, ⟨(some 47), (some (45, true)), (.arith .lss (.tmp 46) (.const (.v (.int .u8 48))))⟩, ⟨(some 48), (some (45, true)), (.move (.tmp 47))⟩, ⟨(some 49), (some (48, false)), (.move (.tmp 4))⟩,
  ⟨(some 50), (some (48, false)), (.arith .gtr (.tmp 49) (.const (.v (.int .u8 57))))⟩, ⟨(some 51), (some (45, true)), (.pick (.tmp 48) (.const (.v (.bool true))) (.tmp 50))⟩, ⟨(some 52), (some (42,
  false)), (.pick (.tmp 45) (.tmp 51) (.const (.v (.bool false))))⟩, ⟨(some 53), (some (39, true)), (.pick (.tmp 42) (.const (.v (.bool true))) (.tmp 52))⟩, ⟨(some 54), none, (.pick (.tmp 39) (.tmp
  53) (.const (.v (.bool false))))⟩]) (.cond (.tmp 54) (.seq (.region false [⟨(some 2), none, (.move (.const (.v (.bool false))))⟩]) .ret) .skip))))) (.region false [⟨(some 18), none, (.move (.tmp
  3))⟩, ⟨(some 19), none, (.arith .add (.tmp 18) (.const (.v (.int .i64 1))))⟩, ⟨(some 3), none, (.move (.tmp 19))⟩])))
def b_b_IsName : ACode := (.seq (.region false [⟨(some 2), none, (.move (.const (.v (.bool false))))⟩]) (.seq (.seq (.region false [⟨(some 6), none, (.move (.tmp 0))⟩, ⟨(some 7), none, (.len true
  (.tmp 6))⟩, ⟨(some 8), none, (.arith .lss (.tmp 7) (.const (.v (.int .i64 1))))⟩, ⟨(some 9), none, (.move (.tmp 8))⟩, ⟨(some 10), (some (9, false)), (.move (.tmp 0))⟩, ⟨(some 11), (some (9, false)),
  (.len true (.tmp 10))⟩, ⟨(some 12), (some (9, false)), (.arith .gtr (.tmp 11) (.const (.v (.int .i64 12))))⟩, ⟨(some 13), none, (.pick (.tmp 9) (.const (.v (.bool true))) (.tmp 12))⟩]) (.cond (.tmp
  13) (.seq (.region false [⟨(some 2), none, (.move (.const (.v (.bool false))))⟩]) .ret) .skip)) (.seq (.seq (.region false [⟨(some 3), none, (.move (.const (.v (.int .i64 0))))⟩]) (.block 0 (.loop
  b_b_IsName_l0))) b_b_IsName_r0)))
abbrev k_b_IsName_0 : List K := [.blk 0, .c b_b_IsName_r0]
abbrev f_b_IsName := finF [(.tmp 2)] false
def c_b_IsName : AFn := .code 1 55 b_b_IsName [(.tmp 2)] false
-- 95
def b_r_slotsErr : ACode := (.seq (.region false [⟨(some 2), none, (.box 3 (.tmp 0))⟩, ⟨(some 3), none, (.box 2 (.tmp 1))⟩, ⟨(some 4), none, (.move (.const (.v (.int .i64 0))))⟩]) (.seq (.seq (.region
  false [⟨(some 5), none, (.fieldAddr 0 (.tmp 3))⟩, ⟨(some 6), none, (.load false 1 (.tmp 5))⟩, ⟨(some 7), none, (.fieldAddr 0 (.tmp 2))⟩, ⟨(some 8), none, (.load false 1 (.tmp 7))⟩, ⟨(some 9), none,
  (.arith .sub (.tmp 8) (.const (.v (.int .i64 1))))⟩, ⟨(some 10), none, (.call false 31 [(.tmp 6), (.const (.v (.int .i64 0))), (.tmp 9)])⟩, ⟨(some 11), none, (.un .not (.tmp 10))⟩, ⟨(some 12), none,
  (.move (.tmp 11))⟩, ⟨(some 13), (some (12, false)), (.fieldAddr 1 (.tmp 3))⟩, ⟨(some 14), (some (12, false)), (.load false 1 (.tmp 13))⟩, ⟨(some 15), (some (12, false)), (.fieldAddr 0 (.tmp 2))⟩,
  ⟨(some 16), (some (12, false)), (.load false 1 (.tmp 15))⟩, ⟨(some 17), (some (12, false)), (.arith .sub (.tmp 16) (.const (.v (.int .i64 1))))⟩, ⟨(some 18), (some (12, false)), (.call false 31
  [(.tmp 14), (.const (.v (.int .i64 0))), (.tmp 17)])⟩, ⟨(some 19), (some (12, false)), (.un .not (.tmp 18))⟩, ⟨(some 20), none, (.pick (.tmp 12) (.const (.v (.bool true))) (.tmp 19))⟩]) (.cond (.tmp
  20) (.seq (.region false [⟨(some 4), none, (.move (.const (.v (.int .i64 2))))⟩]) .ret) .skip)) (.seq (.seq (.region false [⟨(some 21), none, (.fieldAddr 0 (.tmp 3))⟩, ⟨(some 22), none, (.load false
  1 (.tmp 21))⟩, ⟨(some 23), none, (.fieldAddr 1 (.tmp 3))⟩, ⟨(some 24), none, (.load false 1 (.tmp 23))⟩, ⟨(some 25), none, (.arith .gtr (.tmp 22) (.tmp 24))⟩]) (.cond (.tmp 25) (.seq (.region false
  [⟨(some 4), none, (.move (.const (.v (.int .i64 9))))⟩]) .ret) .skip)) (.seq (.region false [⟨(some 4), none, (.move (.const (.v (.int .i64 0))))⟩]) .ret))))
abbrev f_r_slotsErr := finF [(.tmp 4)] false
def c_r_slotsErr : AFn := .code 2 26 b_r_slotsErr [(.tmp 4)] false
-- 102
def b_z_ContainsFunc_ScheduleAntenna : ACode := (.seq (.region false [⟨(some 4), none, (.move (.const (.v (.bool false))))⟩]) (.seq (.region false [⟨(some 5), none, (.move (.tmp 0))⟩, ⟨(some 6), none,
  (.move (.tmp 1))⟩, ⟨(some 7), none, (.call false 113 [(.tmp 5), (.tmp 6)])⟩, ⟨(some 8), none, (.arith .geq (.tmp 7) (.const (.v (.int .i64 0))))⟩, ⟨(some 4), none, (.move (.tmp 8))⟩]) .ret))
abbrev f_z_ContainsFunc_ScheduleAntenna := finF [(.tmp 4)] false
def c_z_ContainsFunc_ScheduleAntenna : AFn := .code 2 9 b_z_ContainsFunc_ScheduleAntenna [(.tmp 4)] false
-- 103
def b_s_antennaErr_1 : ACode := (.seq (.region false [⟨(some 2), none, (.box 3 (.tmp 0))⟩, ⟨(some 3), none, (.move (.const (.v (.bool false))))⟩]) (.seq (.region false [⟨(some 4), none, (.fieldAddr 0
  (.tmp 2))⟩, ⟨(some 5), none, (.load false 1 (.tmp 4))⟩, ⟨(some 6), none, (.fieldAddr 0 (.tmp 1))⟩, ⟨(some 7), none, (.load false 1 (.tmp 6))⟩, ⟨(some 8), none, (.arith .eql (.tmp 5) (.tmp 7))⟩,
  ⟨(some 3), none, (.move (.tmp 8))⟩]) .ret))
abbrev f_s_antennaErr_1 := finF [(.tmp 3)] false
def c_s_antennaErr_1 : AFn := .code 2 9 b_s_antennaErr_1 [(.tmp 3)] false
-- 104
def b_s_isName_r0 : ACode := (.seq (.region false [⟨(some 47), none, (.move (.tmp 0))⟩, ⟨(some 48), none, (.arith .neq (.tmp 47) (.const (.v (.string ⟨#[]⟩))))⟩, ⟨(some 49), none, (.move (.tmp 48))⟩,
  ⟨(some 50), (some (49, true)), (.move (.tmp 0))⟩, ⟨(some 51), (some (49, true)), (.len true (.tmp 50))⟩, ⟨(some 52), (some (49, true)), (.arith .leq (.tmp 51) (.const (.v (.int .i64 12))))⟩, ⟨(some
  53), none, (.pick (.tmp 49) (.tmp 52) (.const (.v (.bool false))))⟩, ⟨(some 2), none, (.move (.tmp 53))⟩]) .ret)
def b_s_isName_l0 : ACode := (.seq (.region false [⟨(some 10), none, (.arith .lss (.tmp 9) (.tmp 8))⟩]) (.seq (.cond (.tmp 10) .skip (.exit 0)) (.seq (.block 1 (.seq (.region false [⟨(some 11), none,
  (.move (.tmp 9))⟩, ⟨(some 12), none, (.indexAddr none 1 (.tmp 7) (.tmp 9))⟩, ⟨(some 13), none, (.load false 1 (.tmp 12))⟩, ⟨(some 3), none, (.move (.tmp 11))⟩, ⟨(some 4), none, (.move (.tmp 13))⟩])
  (.seq (.region false [⟨(some 14), none, (.move (.tmp 4))⟩, ⟨(some 15), none, (.arith .geq (.tmp 14) (.const (.v (.int .u8 97))))⟩, ⟨(some 16), none, (.move (.tmp 15))⟩, ⟨(some 17), (some (16,
  true)), (.move (.tmp 4))⟩, ⟨(some 18), (some (16, true)), (.arith .leq (.tmp 17) (.const (.v (.int .u8 122))))⟩, ⟨(some 19), none, (.pick (.tmp 16) (.tmp 18) (.const (.v (.bool false))))⟩, ⟨(some
  20), none, (.move (.tmp 19))⟩, ⟨(some 21), (some (20, false)), (.move (.tmp 4))⟩, ⟨(some 22), (some (20, false)), (.arith .geq (.tmp 21) (.const (.v (.int .u8 65))))⟩, ⟨(some 23), (some (20,
  false)), (.move (.tmp 22))⟩, ⟨(some 24), (some (23, true)), (.move (.tmp 4))⟩, ⟨(some 25), (some (23, true)), (.arith .leq (.tmp 24) (.const (.v (.int .u8 90))))⟩, ⟨(some 26), (some (20, false)),
  (.pick (.tmp 23) (.tmp 25) (.const (.v (.bool false))))⟩, ⟨(some 27), none, (.pick (.tmp 20) (.const (.v (.bool true))) (.tmp 26))⟩, ⟨(some 5), none, (.move (.tmp 27))⟩]) (.seq (.region false
  [⟨(some 28), none, (.move (.tmp 5))⟩, ⟨(some 29), none, (.un .not (.tmp 28))⟩, ⟨(some 30), none, (.move (.tmp 29))⟩, ⟨(some 31), (some (30, true)), (.move (.tmp 3))⟩, ⟨(some 32), (some (30, true)),
  (.arith .eql (.tmp 31) (.const (.v (.int .i64 0))))⟩, ⟨(some 33), (some (30, true)), (.move (.tmp 32))⟩, ⟨(some 34), (some (33, false)), (.move (.tmp 4))⟩, ⟨(some 35), (some (33, false)), (.arith
  .neq (.tmp 34) (.const (.v (.int .u8 45))))⟩, ⟨(some 36), (some (33, false)), (.move (.tmp 35))⟩, ⟨(some 37), (some (36, true)), (.move (.tmp 4))⟩, ⟨(some 38), (some (36, true)), (.arith .lss (.tmp
  37) (.const (.v (.int .u8 48))))⟩, ⟨(some 39), (some (36, true)), (.move (.tmp 38))⟩, ⟨(some 40), (some (39, false)), (.move (.tmp 4))⟩, ⟨(some 41), (some (39, false)), (.arith .gtr (.tmp 40)
  (.const (.v (.int .u8 57))))⟩, ⟨(some 42), (some (36, true)), (.pick (.tmp 39) (.const (.v (.bool true))) (.tmp 41))⟩, ⟨(some 43), (some (33, false)), (.pick (.tmp 36) (.tmp 42) (.const (.v (.bool
  false))))⟩, ⟨(some 44), (some (30, true)), (.pick (.tmp 33) (.const (.v (.bool true))) (.tmp 43))⟩, ⟨(some 45), none, (.pick (.tmp 30) (.tmp 44) (.const (.v (.bool false))))⟩]) (.cond (.tmp 45)
  (.seq (.region false [⟨(some 2), none, (.move (.const (.v (.bool false))))⟩]) .ret) .skip))))) (.region false [⟨(some 46), none, (.arith .add (.tmp 9) (.const (.v (.int .i64 1))))⟩, ⟨(some 9), none,
  (.move (.tmp 46))⟩]))))
def b_s_isName : ACode := (.seq (.region false [⟨(some 2), none, (.move (.const (.v (.bool false))))⟩]) (.seq (.seq (.region false [⟨(some 6), none, (.move (.tmp 0))⟩, ⟨(some 7), none, (.conv .bytes
  (.tmp 6))⟩, ⟨(some 8), none, (.len false (.tmp 7))⟩, ⟨(some 9), none, (.move (.const (.v (.int .i64 0))))⟩]) (.block 0 (.loop b_s_isName_l0))) b_s_isName_r0))
abbrev k_s_isName_0 : List K := [.blk 0, .c b_s_isName_r0]
abbrev f_s_isName := finF [(.tmp 2)] false
def c_s_isName : AFn := .code 1 54 b_s_isName [(.tmp 2)] false
-- 105
def b_s_slotsErr : ACode := (.seq (.region false [⟨(some 2), none, (.box 3 (.tmp 0))⟩, ⟨(some 3), none, (.box 2 (.tmp 1))⟩, ⟨(some 4), none, (.move (.const (.v (.int .i64 0))))⟩]) (.seq (.region false
  [⟨(some 6), none, (.mkFn 114 [] [(.tmp 2)])⟩, ⟨(some 5), none, (.move (.tmp 6))⟩]) (.seq (.region true [⟨(some 7), none, (.move (.tmp 5))⟩, ⟨(some 8), none, (.fieldAddr 0 (.tmp 3))⟩, ⟨(some 9),
  none, (.load false 1 (.tmp 8))⟩, ⟨(some 10), none, (.callv true (.tmp 7) [(.tmp 9)])⟩, ⟨(some 11), none, (.move (.tmp 10))⟩, ⟨(some 12), (some (11, true)), (.move (.tmp 5))⟩, ⟨(some 13), (some (11,
  true)), (.fieldAddr 1 (.tmp 3))⟩, ⟨(some 14), (some (11, true)), (.load false 1 (.tmp 13))⟩, ⟨(some 15), (some (11, true)), (.callv true (.tmp 12) [(.tmp 14)])⟩, ⟨(some 16), none, (.pick (.tmp 11)
  (.tmp 15) (.const (.v (.bool false))))⟩, ⟨(some 17), none, (.call true 25 [(.tmp 16), (.const (.v (.int .i64 2)))])⟩, ⟨(some 18), none, (.fieldAddr 0 (.tmp 3))⟩, ⟨(some 19), none, (.load false 1
  (.tmp 18))⟩, ⟨(some 20), none, (.fieldAddr 1 (.tmp 3))⟩, ⟨(some 21), none, (.load false 1 (.tmp 20))⟩, ⟨(some 22), none, (.arith .leq (.tmp 19) (.tmp 21))⟩, ⟨(some 23), none, (.call false 25 [(.tmp
  22), (.const (.v (.int .i64 9)))])⟩, ⟨(some 24), none, (.buildSlice 1 [[(.v (.int .i64 0))], [(.v (.int .i64 0))]] [(0, (.tmp 17)), (1, (.tmp 23))])⟩, ⟨(some 25), none, (.call false 23 [(.tmp
  24)])⟩, ⟨(some 4), none, (.move (.tmp 25))⟩]) .ret)))
abbrev f_s_slotsErr := finF [(.tmp 4)] false
def c_s_slotsErr : AFn := .code 2 26 b_s_slotsErr [(.tmp 4)] false
-- 106
def b_z_Index_bool_r0 : ACode := (.seq (.region false [⟨(some 4), none, (.move (.const (.v (.int .i64 (-1)))))⟩]) .ret)
def b_z_Index_bool_l0 : ACode := (.seq (.region false [⟨(some 9), none, (.arith .lss (.tmp 8) (.tmp 7))⟩]) (.seq (.cond (.tmp 9) .skip (.exit 0)) (.seq (.block 1 (.seq (.region false [⟨(some 10),
  none, (.move (.tmp 8))⟩, ⟨(some 5), none, (.move (.tmp 10))⟩]) (.seq (.region false [⟨(some 11), none, (.move (.tmp 1))⟩, ⟨(some 12), none, (.move (.tmp 0))⟩, ⟨(some 13), none, (.move (.tmp 5))⟩,
  ⟨(some 14), none, (.indexAddr none 1 (.tmp 12) (.tmp 13))⟩, ⟨(some 15), none, (.load false 1 (.tmp 14))⟩, ⟨(some 16), none, (.eqv false .bool (.tmp 11) (.tmp 15))⟩]) (.cond (.tmp 16) (.seq (.region
  false [⟨(some 17), none, (.move (.tmp 5))⟩, ⟨(some 4), none, (.move (.tmp 17))⟩]) .ret) .skip)))) (.region false [⟨(some 18), none, (.arith .add (.tmp 8) (.const (.v (.int .i64 1))))⟩, ⟨(some 8),
  none, (.move (.tmp 18))⟩]))))
def b_z_Index_bool : ACode := (.seq (.region false [⟨(some 4), none, (.move (.const (.v (.int .i64 0))))⟩]) (.seq (.seq (.region false [⟨(some 6), none, (.move (.tmp 0))⟩, ⟨(some 7), none, (.len false
  (.tmp 6))⟩, ⟨(some 8), none, (.move (.const (.v (.int .i64 0))))⟩]) (.block 0 (.loop b_z_Index_bool_l0))) b_z_Index_bool_r0))
abbrev k_z_Index_bool_0 : List K := [.blk 0, .c b_z_Index_bool_r0]
abbrev f_z_Index_bool := finF [(.tmp 4)] false
def c_z_Index_bool : AFn := .code 2 19 b_z_Index_bool [(.tmp 4)] false
-- 107
def b_z_IndexFunc_int_r0 : ACode := (.seq (.region false [⟨(some 4), none, (.move (.const (.v (.int .i64 (-1)))))⟩]) .ret)
def b_z_IndexFunc_int_l0 : ACode := (.seq (.region false [⟨(some 9), none, (.arith .lss (.tmp 8) (.tmp 7))⟩]) (.seq (.cond (.tmp 9) .skip (.exit 0)) (.seq (.block 1 (.seq (.region false [⟨(some 10),
  none, (.move (.tmp 8))⟩, ⟨(some 5), none, (.move (.tmp 10))⟩]) (.seq (.region false [⟨(some 11), none, (.move (.tmp 1))⟩, ⟨(some 12), none, (.move (.tmp 0))⟩, ⟨(some 13), none, (.move (.tmp 5))⟩,
  ⟨(some 14), none, (.indexAddr none 1 (.tmp 12) (.tmp 13))⟩, ⟨(some 15), none, (.load false 1 (.tmp 14))⟩, ⟨(some 16), none, (.callv false (.tmp 11) [(.tmp 15)])⟩]) (.cond (.tmp 16) (.seq (.region
  false [⟨(some 17), none, (.move (.tmp 5))⟩, ⟨(some 4), none, (.move (.tmp 17))⟩]) .ret) .skip)))) (.region false [⟨(some 18), none, (.arith .add (.tmp 8) (.const (.v (.int .i64 1))))⟩, ⟨(some 8),
  none, (.move (.tmp 18))⟩]))))
def b_z_IndexFunc_int : ACode := (.seq (.region false [⟨(some 4), none, (.move (.const (.v (.int .i64 0))))⟩]) (.seq (.seq (.region false [⟨(some 6), none, (.move (.tmp 0))⟩, ⟨(some 7), none, (.len
  false (.tmp 6))⟩, ⟨(some 8), none, (.move (.const (.v (.int .i64 0))))⟩]) (.block 0 (.loop b_z_IndexFunc_int_l0))) b_z_IndexFunc_int_r0))
abbrev k_z_IndexFunc_int_0 : List K := [.blk 0, .c b_z_IndexFunc_int_r0]
abbrev f_z_IndexFunc_int := finF [(.tmp 4)] false
def c_z_IndexFunc_int : AFn := .code 2 19 b_z_IndexFunc_int [(.tmp 4)] false
-- 113
def b_z_IndexFunc_ScheduleAntenna_r0 : ACode := (.seq (.region false [⟨(some 4), none, (.move (.const (.v (.int .i64 (-1)))))⟩]) .ret)
def b_z_IndexFunc_ScheduleAntenna_l0 : ACode := (.seq (.region false [⟨(some 9), none, (.arith .lss (.tmp 8) (.tmp 7))⟩]) (.seq (.cond (.tmp 9) .skip (.exit 0)) (.seq (.block 1 (.seq (.region false
  [⟨(some 10), none, (.move (.tmp 8))⟩, ⟨(some 5), none, (.move (.tmp 10))⟩]) (.seq (.region false [⟨(some 11), none, (.move (.tmp 1))⟩, ⟨(some 12), none, (.move (.tmp 0))⟩, ⟨(some 13), none, (.move
  (.tmp 5))⟩, ⟨(some 14), none, (.indexAddr none 3 (.tmp 12) (.tmp 13))⟩, ⟨(some 15), none, (.load true 3 (.tmp 14))⟩, ⟨(some 16), none, (.callv false (.tmp 11) [(.tmp 15)])⟩]) (.cond (.tmp 16) (.seq
  (.region false [⟨(some 17), none, (.move (.tmp 5))⟩, ⟨(some 4), none, (.move (.tmp 17))⟩]) .ret) .skip)))) (.region false [⟨(some 18), none, (.arith .add (.tmp 8) (.const (.v (.int .i64 1))))⟩,
  ⟨(some 8), none, (.move (.tmp 18))⟩]))))
def b_z_IndexFunc_ScheduleAntenna : ACode := (.seq (.region false [⟨(some 4), none, (.move (.const (.v (.int .i64 0))))⟩]) (.seq (.seq (.region false [⟨(some 6), none, (.move (.tmp 0))⟩, ⟨(some 7),
  none, (.len false (.tmp 6))⟩, ⟨(some 8), none, (.move (.const (.v (.int .i64 0))))⟩]) (.block 0 (.loop b_z_IndexFunc_ScheduleAntenna_l0))) b_z_IndexFunc_ScheduleAntenna_r0))
abbrev k_z_IndexFunc_ScheduleAntenna_0 : List K := [.blk 0, .c b_z_IndexFunc_ScheduleAntenna_r0]
abbrev f_z_IndexFunc_ScheduleAntenna := finF [(.tmp 4)] false
def c_z_IndexFunc_ScheduleAntenna : AFn := .code 2 19 b_z_IndexFunc_ScheduleAntenna [(.tmp 4)] false
-- 114
def b_s_slotsErr_1 : ACode := (.seq (.region false [⟨(some 3), none, (.move (.const (.v (.bool false))))⟩]) (.seq (.region false [⟨(some 4), none, (.move (.tmp 0))⟩, ⟨(some 5), none, (.fieldAddr 0
  (.tmp 1))⟩, ⟨(some 6), none, (.load false 1 (.tmp 5))⟩, ⟨(some 7), none, (.arith .sub (.tmp 6) (.const (.v (.int .i64 1))))⟩, ⟨(some 8), none, (.call false 45 [(.tmp 4), (.const (.v (.int .i64 0))),
  (.tmp 7)])⟩, ⟨(some 3), none, (.move (.tmp 8))⟩]) .ret))
abbrev f_s_slotsErr_1 := finF [(.tmp 3)] false
def c_s_slotsErr_1 : AFn := .code 2 9 b_s_slotsErr_1 [(.tmp 3)] false

def tab : List (Option AFn) := [none, none, none, some c_l_SchedulePlacements, some c_l_awake, some c_l_Few, some c_l_short, some c_s_Placements, some c_r_CopyWeek, some c_r_Copy, some c_r_PlanErr,
  some c_r_RequestsErr, some c_r_PassOf, some c_r_Placements, some c_r_Same, some c_s_CheckPlan, some c_s_Best, some c_l_Week, some c_s_ShareOf, some c_s_FormatPlan, some c_b_Whole, some c_s_openPlan,
  some c_s_passOf, some c_s_first, some c_w_requestErr, some c_s_unless, some c_w_placements, some c_b_CopyRanges, some c_b_CopyInts, some c_r_WeekErr, some c_r_CheckPlan, some c_b_Within, some
  c_r_Possible, some c_r_Conflict, some c_r_compare, some c_s_openSmall, some c_w_free, some c_c_best, some c_s_share, some pItoa, some pJoin, some c_s_open, some c_w_check, some
  c_z_IndexFunc_SchedulePass, some c_s_passOf_1, some c_s_within, some c_w_possible, some c_w_conflicts, some c_r_CheckWeek, some c_r_passErr, some c_r_choices, some c_r_shut, some c_b_Has, some
  c_b_Before, some c_s_openSmall_1, some c_z_ContainsFunc_ScheduleRequest, some c_c_worth, some c_c_isPermitted, some c_c_fits, some c_z_Contains_int, some c_c_next, none, none, none, none, some
  c_s_CheckWeek, some c_w_passErr, some c_w_possible_1, some c_w_isOpen, some c_s_groups, some c_z_ContainsFunc_SchedulePass, some c_w_conflicts_1, some c_w_conflict, some c_r_antennaErr, some
  c_r_requestErr, some c_r_closed, some c_z_IndexFunc_ScheduleRequest, some c_s_members, some c_w_without, some c_w_fit, some c_z_Index_int, some c_z_Clone_SchedulePass, none, none, none, some
  c_s_antennaErr, some c_s_requestErr, some c_z_Contains_bool, some c_s_groups_1, some c_s_groups_1_1, some c_z_Clone_int, some c_z_ContainsFunc_int, some c_w_conflict_1, some c_w_end, some
  c_b_IsName, some c_r_slotsErr, none, none, none, none, none, none, some c_z_ContainsFunc_ScheduleAntenna, some c_s_antennaErr_1, some c_s_isName, some c_s_slotsErr, some c_z_Index_bool, some
  c_z_IndexFunc_int, none, none, none, none, none, some c_z_IndexFunc_ScheduleAntenna, some c_s_slotsErr_1]
def AP : FuncId → Option AFn := fun f => (tab[f]?).join

end Go.Ax.Sx.Sc
