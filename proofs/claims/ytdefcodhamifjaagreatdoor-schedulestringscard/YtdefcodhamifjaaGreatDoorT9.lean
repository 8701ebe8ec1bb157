/- The codes of the functions, as compFn gives them. -/
import Derived.Test.YtdefcodhamifjaaGreatDoorT8
namespace Go.Ax.Sx.Sc
open Go.Ax
abbrev o1 (d : Nat) (x : AOp) : AOper := ⟨some d, none, x⟩
abbrev t1 (n : Nat) : AOpd := .tmp n
abbrev m1 (d x : Nat) : AOper := ⟨some d, none, .move (.tmp x)⟩
abbrev lF (d n x : Nat) : AOper := ⟨some d, none, .load false n (.tmp x)⟩
abbrev lT (d n x : Nat) : AOper := ⟨some d, none, .load true n (.tmp x)⟩
abbrev fA (d n x : Nat) : AOper := ⟨some d, none, .fieldAddr n (.tmp x)⟩
abbrev gT (d g : Nat) (x : AOp) : AOper := ⟨some d, some (g, true), x⟩
abbrev gF (d g : Nat) (x : AOp) : AOper := ⟨some d, some (g, false), x⟩
abbrev i1 (n : Int) : AOpd := .const (.v (.int .i64 n))
abbrev rF (l : List AOper) : ACode := .region false l
abbrev rT (l : List AOper) : ACode := .region true l

-- 3
def b_l_ScheduleStrings : ACode := (.seq (rF [o1 3 (.box 3 (t1 0)), o1 6 (.move (.const (.v (.bool false))))]) (.seq (.seq (rF [o1 14 (.call false 4 []), o1 15 (.un .not (t1 14))]) (.cond (t1 15)
  (.seq (rF [o1 6 (.move (.const (.v (.bool false))))]) .ret) .skip)) (.seq (.seq (rF [lT 16 3 3, o1 17 (.call false 5 [t1 16]), o1 18 (.un .not (t1 17)), m1 19 18, gF 20 19 (.move (t1 1)), gF 21 19
  (.call false 6 [t1 20]), gF 22 19 (.un .not (t1 21)), o1 23 (.pick (t1 19) (.const (.v (.bool true))) (t1 22)), m1 24 23, gF 25 24 (.move (t1 2)), gF 26 24 (.len true (t1 25)), gF 27 24 (.arith .gtr
  (t1 26) (i1 200)), gF 28 24 (.move (t1 27)), gT 29 28 (.move (t1 2)), gT 30 28 (.len true (t1 29)), gT 31 28 (.arith .leq (t1 30) (i1 60000)), gF 32 24 (.pick (t1 28) (t1 31) (.const (.v (.bool
  false)))), o1 33 (.pick (t1 24) (.const (.v (.bool true))) (t1 32)), m1 34 33, gF 35 34 (.move (t1 2)), gF 36 34 (.len true (t1 35)), gF 37 34 (.arith .gtr (t1 36) (i1 60010)), o1 38 (.pick (t1 34)
  (.const (.v (.bool true))) (t1 37))]) (.cond (t1 38) (.seq (rF [o1 6 (.move (.const (.v (.bool true))))]) .ret) .skip)) (.seq (rF [m1 39 1, o1 40 (.call false 8 [t1 39]), o1 41 (.call false 7 [t1
  40]), m1 7 41]) (.seq (rF [m1 43 2, o1 44 (.call false 9 [t1 43]), m1 42 44, o1 45 (.extract 0 (t1 42)), o1 46 (.extract 1 (t1 42)), m1 8 45, m1 9 46]) (.seq (rF [m1 48 2, o1 49 (.call false 10 [t1
  48]), m1 47 49, o1 50 (.extract 0 (t1 47)), o1 51 (.extract 1 (t1 47)), m1 10 50, m1 11 51]) (.seq (.seq (rF [m1 52 7, m1 53 1, o1 54 (.call false 11 [t1 53]), o1 55 (.arith .neq (t1 52) (t1 54)),
  m1 56 55, gF 57 56 (.move (t1 9)), gF 58 56 (.move (t1 11)), gF 59 56 (.arith .neq (t1 57) (t1 58)), o1 60 (.pick (t1 56) (.const (.v (.bool true))) (t1 59)), m1 61 60, gF 62 61 (.move (t1 8)), gF
  63 61 (.move (t1 10)), gF 64 61 (.call false 12 [t1 62, t1 63]), gF 65 61 (.un .not (t1 64)), o1 66 (.pick (t1 61) (.const (.v (.bool true))) (t1 65))]) (.cond (t1 66) (.seq (rF [o1 6 (.move (.const
  (.v (.bool false))))]) .ret) .skip)) (.seq (.seq (rF [lT 67 3 3, m1 68 1, o1 69 (.call false 13 [t1 67, t1 68]), o1 70 (.arith .neq (t1 69) (i1 0))]) (.cond (t1 70) (.seq (rF [o1 6 (.move (.const
  (.v (.bool true))))]) .ret) .skip)) (.seq (rF [m1 72 7, o1 73 (.call false 9 [t1 72]), m1 71 73, o1 74 (.extract 0 (t1 71)), o1 75 (.extract 1 (t1 71)), m1 12 74, m1 13 75]) (.seq (rF [m1 76 13, o1
  77 (.arith .eql (t1 76) (i1 0)), m1 78 77, gT 79 78 (.move (t1 12)), gT 80 78 (.move (t1 1)), gT 81 78 (.call false 12 [t1 79, t1 80]), o1 82 (.pick (t1 78) (t1 81) (.const (.v (.bool false)))), m1
  6 82]) .ret))))))))))
abbrev f_l_ScheduleStrings := finF [(.tmp 6)] false
def c_l_ScheduleStrings : AFn := .code 3 83 b_l_ScheduleStrings [(.tmp 6)] false
-- 4
def b_l_awake : ACode := (.seq (rF [o1 0 (.move (.const (.v (.bool false))))]) (.seq (rF [o1 7 (.call false 15 []), o1 8 (.call false 14 [t1 7]), m1 6 8, o1 9 (.extract 0 (t1 6)), o1 10 (.extract 1
  (t1 6)), o1 11 (.extract 2 (t1 6)), m1 1 9, m1 2 10, m1 3 11]) (.seq (rF [o1 13 (.call false 15 []), m1 14 1, o1 15 (.call false 16 [t1 13, t1 14, .const (.v (.string ⟨#[109, 97, 114, 115]⟩))]), m1
  12 15, o1 16 (.extract 0 (t1 12)), o1 17 (.extract 1 (t1 12)), o1 4 (.alloc [.v (.int .i64 0), .v (.int .i64 0)]), ⟨none, none, (.store 2 (t1 4) (t1 16))⟩, m1 5 17]) (.seq (rT [m1 18 3, o1 19
  (.arith .eql (t1 18) (i1 0)), m1 20 19, gT 21 20 (.move (t1 2)), gT 22 20 (.arith .eql (t1 21) (i1 23)), o1 23 (.pick (t1 20) (t1 22) (.const (.v (.bool false)))), m1 24 23, gT 25 24 (.move (t1 1)),
  gT 26 24 (.call false 7 [t1 25]), gT 27 24 (.arith .eql (t1 26) (.const (.v (.string ⟨#[48, 64, 48, 43, 48, 32, 49, 64, 48, 43, 49, 32, 50, 64, 53, 43, 48, 43, 49]⟩)))), o1 28 (.pick (t1 24) (t1 27)
  (.const (.v (.bool false)))), m1 29 28, gT 30 29 (.move (t1 5)), gT 31 29 (.arith .eql (t1 30) (i1 0)), o1 32 (.pick (t1 29) (t1 31) (.const (.v (.bool false)))), m1 33 32, gT 34 33 (.load true 2
  (t1 4)), gT 35 33 (.call true 17 [i1 1]), gT 36 33 (.eqv false (.agg [.int, .int]) (t1 34) (t1 35)), o1 37 (.pick (t1 33) (t1 36) (.const (.v (.bool false)))), m1 0 37]) .ret))))
abbrev f_l_awake := finF [(.tmp 0)] false
def c_l_awake : AFn := .code 0 38 b_l_awake [(.tmp 0)] false
-- 5
def b_l_Few_r0 : ACode := (.seq (rF [o1 2 (.move (.const (.v (.bool true))))]) .ret)
def b_l_Few_l0 : ACode := (.seq (.seq (rF [m1 40 4, fA 41 2 1, lF 42 1 41, o1 43 (.len false (t1 42)), o1 44 (.arith .lss (t1 40) (t1 43))]) (.cond (t1 44) .skip (.exit 2))) (.seq (.block 3 (.seq (rF
  [fA 47 2 1, lF 48 1 47, m1 49 4, o1 50 (.indexAddr none 7 (t1 48) (t1 49)), fA 51 0 50, lF 52 1 51, o1 53 (.len true (t1 52)), o1 54 (.arith .gtr (t1 53) (i1 20)), m1 55 54, gF 56 55 (.fieldAddr 2
  (t1 1)), gF 57 55 (.load false 1 (t1 56)), gF 58 55 (.move (t1 4)), gF 59 55 (.indexAddr none 7 (t1 57) (t1 58)), gF 60 55 (.fieldAddr 5 (t1 59)), gF 61 55 (.load false 1 (t1 60)), gF 62 55 (.len
  false (t1 61)), gF 63 55 (.arith .gtr (t1 62) (i1 6)), o1 64 (.pick (t1 55) (.const (.v (.bool true))) (t1 63))]) (.cond (t1 64) (.seq (rF [o1 2 (.move (.const (.v (.bool false))))]) .ret) .skip)))
  (rF [m1 45 4, o1 46 (.arith .add (t1 45) (i1 1)), m1 4 46])))
def b_l_Few_r1 : ACode := (.seq (.seq (rF [o1 4 (.move (i1 0))]) (.block 2 (.loop b_l_Few_l0))) b_l_Few_r0)
def b_l_Few_l1 : ACode := (.seq (.seq (rF [m1 15 3, fA 16 1 1, lF 17 1 16, o1 18 (.len false (t1 17)), o1 19 (.arith .lss (t1 15) (t1 18))]) (.cond (t1 19) .skip (.exit 0))) (.seq (.block 1 (.seq (rF
  [fA 22 1 1, lF 23 1 22, m1 24 3, o1 25 (.indexAddr none 3 (t1 23) (t1 24)), fA 26 0 25, lF 27 1 26, o1 28 (.len true (t1 27)), o1 29 (.arith .gtr (t1 28) (i1 20)), m1 30 29, gF 31 30 (.fieldAddr 1
  (t1 1)), gF 32 30 (.load false 1 (t1 31)), gF 33 30 (.move (t1 3)), gF 34 30 (.indexAddr none 3 (t1 32) (t1 33)), gF 35 30 (.fieldAddr 2 (t1 34)), gF 36 30 (.load false 1 (t1 35)), gF 37 30 (.len
  false (t1 36)), gF 38 30 (.arith .gtr (t1 37) (i1 8)), o1 39 (.pick (t1 30) (.const (.v (.bool true))) (t1 38))]) (.cond (t1 39) (.seq (rF [o1 2 (.move (.const (.v (.bool false))))]) .ret) .skip)))
  (rF [m1 20 3, o1 21 (.arith .add (t1 20) (i1 1)), m1 3 21])))
def b_l_Few : ACode := (.seq (rF [o1 1 (.box 3 (t1 0)), o1 2 (.move (.const (.v (.bool false))))]) (.seq (.seq (rF [fA 5 1 1, lF 6 1 5, o1 7 (.len false (t1 6)), o1 8 (.arith .gtr (t1 7) (i1 6)), m1 9
  8, gF 10 9 (.fieldAddr 2 (t1 1)), gF 11 9 (.load false 1 (t1 10)), gF 12 9 (.len false (t1 11)), gF 13 9 (.arith .gtr (t1 12) (i1 14)), o1 14 (.pick (t1 9) (.const (.v (.bool true))) (t1 13))])
  (.cond (t1 14) (.seq (rF [o1 2 (.move (.const (.v (.bool false))))]) .ret) .skip)) (.seq (.seq (rF [o1 3 (.move (i1 0))]) (.block 0 (.loop b_l_Few_l1))) b_l_Few_r1)))
abbrev k_l_Few_0 : List K := [.blk 2, .c b_l_Few_r0]
abbrev k_l_Few_1 : List K := [.blk 0, .c b_l_Few_r1]
abbrev f_l_Few := finF [(.tmp 2)] false
def c_l_Few : AFn := .code 1 65 b_l_Few [(.tmp 2)] false
-- 6
def b_l_short_r0 : ACode := (.seq (rF [o1 2 (.move (.const (.v (.bool true))))]) .ret)
def b_l_short_l0 : ACode := (.seq (.seq (rF [m1 7 3, m1 8 0, o1 9 (.len false (t1 8)), o1 10 (.arith .lss (t1 7) (t1 9))]) (.cond (t1 10) .skip (.exit 0))) (.seq (.block 1 (.seq (rF [m1 13 0, m1 14 3,
  o1 15 (.indexAddr none 3 (t1 13) (t1 14)), fA 16 2 15, lF 17 1 16, o1 18 (.len false (t1 17)), o1 19 (.arith .gtr (t1 18) (i1 6))]) (.cond (t1 19) (.seq (rF [o1 2 (.move (.const (.v (.bool
  false))))]) .ret) .skip))) (rF [m1 11 3, o1 12 (.arith .add (t1 11) (i1 1)), m1 3 12])))
def b_l_short : ACode := (.seq (rF [o1 2 (.move (.const (.v (.bool false))))]) (.seq (.seq (rF [m1 4 0, o1 5 (.len false (t1 4)), o1 6 (.arith .gtr (t1 5) (i1 14))]) (.cond (t1 6) (.seq (rF [o1 2
  (.move (.const (.v (.bool false))))]) .ret) .skip)) (.seq (.seq (rF [o1 3 (.move (i1 0))]) (.block 0 (.loop b_l_short_l0))) b_l_short_r0)))
abbrev k_l_short_0 : List K := [.blk 0, .c b_l_short_r0]
abbrev f_l_short := finF [(.tmp 2)] false
def c_l_short : AFn := .code 1 20 b_l_short [(.tmp 2)] false
-- 7
def b_s_FormatPlan_r0 : ACode := (.seq (rF [m1 41 3, o1 42 (.call false 19 [t1 41, .const (.v (.string ⟨#[32]⟩))]), m1 2 42]) .ret)
def b_s_FormatPlan_r1 : ACode := (rF [o1 40 (.arith .add (t1 11) (i1 1)), m1 11 40])
def b_s_FormatPlan_r2 : ACode := (rF [m1 36 3, m1 37 6, o1 38 (.buildSlice 1 [[.v (.string ⟨#[]⟩)]] [(0, (t1 37))]), o1 39 (.append 1 (t1 36) (t1 38)), m1 3 39])
def b_s_FormatPlan_l1 : ACode := (.seq (rF [o1 27 (.arith .lss (t1 26) (t1 25))]) (.seq (.cond (t1 27) .skip (.exit 2)) (.seq (.block 3 (.seq (rF [o1 28 (.indexAddr none 1 (t1 24) (t1 26)), lF 29 1
  28, m1 8 29]) (rF [m1 30 6, m1 31 8, o1 32 (.call false 18 [t1 31]), o1 33 (.arith .add (.const (.v (.string ⟨#[43]⟩))) (t1 32)), o1 34 (.arith .add (t1 30) (t1 33)), m1 6 34]))) (rF [o1 35 (.arith
  .add (t1 26) (i1 1)), m1 26 35]))))
def b_s_FormatPlan_l0 : ACode := (.seq (rF [o1 12 (.arith .lss (t1 11) (t1 10))]) (.seq (.cond (t1 12) .skip (.exit 0)) (.seq (.block 1 (.seq (rF [o1 13 (.indexAddr none 3 (t1 9) (t1 11)), lT 14 3 13,
  o1 5 (.alloc [.v (.int .i64 0), .v (.int .i64 0), .slice .nilS 0 []]), ⟨none, none, (.store 3 (t1 5) (t1 14))⟩]) (.seq (rT [fA 15 0 5, lF 16 1 15, o1 17 (.call true 18 [t1 16]), o1 18 (.arith .add
  (t1 17) (.const (.v (.string ⟨#[64]⟩)))), fA 19 1 5, lF 20 1 19, o1 21 (.call false 18 [t1 20]), o1 22 (.arith .add (t1 18) (t1 21)), m1 6 22]) (.seq (.seq (rF [fA 23 2 5, lF 24 1 23, o1 25 (.len
  false (t1 24)), o1 26 (.move (i1 0))]) (.block 2 (.loop b_s_FormatPlan_l1))) b_s_FormatPlan_r2)))) b_s_FormatPlan_r1)))
def b_s_FormatPlan : ACode := (.seq (rF [o1 2 (.move (.const (.v (.string ⟨#[]⟩))))]) (.seq (rF [o1 3 (.move (.const (.slice .nilS 0 [])))]) (.seq (.seq (rF [m1 9 0, o1 10 (.len false (t1 9)), o1 11
  (.move (i1 0))]) (.block 0 (.loop b_s_FormatPlan_l0))) b_s_FormatPlan_r0)))
abbrev k_s_FormatPlan_1 : List K := [.blk 2, .c b_s_FormatPlan_r2, .blk 1, .c b_s_FormatPlan_r1, .lp b_s_FormatPlan_l0, .blk 0, .c b_s_FormatPlan_r0]
abbrev k_s_FormatPlan_0 : List K := [.blk 0, .c b_s_FormatPlan_r0]
abbrev f_s_FormatPlan := finF [(.tmp 2)] false
def c_s_FormatPlan : AFn := .code 1 43 b_s_FormatPlan [(.tmp 2)] false
-- 8
def b_r_Copy_r0 : ACode := (.seq (rF [m1 31 3, m1 2 31]) .ret)
def b_r_Copy_l0 : ACode := (.seq (.seq (rF [m1 5 4, m1 6 0, o1 7 (.len false (t1 6)), o1 8 (.arith .lss (t1 5) (t1 7))]) (.cond (t1 8) .skip (.exit 0))) (.seq (.block 1 (rT [m1 11 3, m1 12 0, m1 13 4,
  o1 14 (.indexAddr none 3 (t1 12) (t1 13)), fA 15 0 14, lF 16 1 15, m1 17 0, m1 18 4, o1 19 (.indexAddr none 3 (t1 17) (t1 18)), fA 20 1 19, lF 21 1 20, m1 22 0, m1 23 4, o1 24 (.indexAddr none 3 (t1
  22) (t1 23)), fA 25 2 24, lF 26 1 25, o1 27 (.call true 20 [t1 26]), o1 28 (.build [.v (.int .i64 0), .v (.int .i64 0), .slice .nilS 0 []] [(0, (1, (t1 16))), (1, (1, (t1 21))), (2, (1, (t1 27)))]),
  o1 29 (.buildSlice 3 [[.v (.int .i64 0), .v (.int .i64 0), .slice .nilS 0 []]] [(0, (t1 28))]), o1 30 (.append 3 (t1 11) (t1 29)), m1 3 30])) (rF [m1 9 4, o1 10 (.arith .add (t1 9) (i1 1)), m1 4
  10])))
def b_r_Copy : ACode := (.seq (rF [o1 2 (.move (.const (.slice .nilS 0 [])))]) (.seq (rF [o1 3 (.move (.const (.slice .nilS 0 [])))]) (.seq (.seq (rF [o1 4 (.move (i1 0))]) (.block 0 (.loop
  b_r_Copy_l0))) b_r_Copy_r0)))
abbrev k_r_Copy_0 : List K := [.blk 0, .c b_r_Copy_r0]
abbrev f_r_Copy := finF [(.tmp 2)] true
def c_r_Copy : AFn := .code 1 32 b_r_Copy [(.tmp 2)] true
-- 9
def b_s_ParsePlan_r0 : ACode := (.seq (.seq (rF [lF 80 1 4, o1 81 (.len false (t1 80)), o1 82 (.arith .gtr (t1 81) (i1 12))]) (.cond (t1 82) (.seq (rF [⟨none, none, (.store 1 (t1 2) (.const (.slice
  .nilS 0 [])))⟩, ⟨none, none, (.store 1 (t1 3) (i1 8))⟩]) .ret) .skip)) (.seq (rF [lF 83 1 4, ⟨none, none, (.store 1 (t1 2) (t1 83))⟩, ⟨none, none, (.store 1 (t1 3) (i1 0))⟩]) .ret))
def b_s_ParsePlan_r1 : ACode := (.seq (.seq (rF [m1 74 11, o1 75 (.call false 25 [t1 74, .const (.v (.bool false))])]) (.cond (t1 75) (.seq (rF [⟨none, none, (.store 1 (t1 2) (.const (.slice .nilS 0
  [])))⟩, ⟨none, none, (.store 1 (t1 3) (i1 7))⟩]) .ret) .skip)) (rF [lF 76 1 4, lT 77 3 10, o1 78 (.buildSlice 3 [[.v (.int .i64 0), .v (.int .i64 0), .slice .nilS 0 []]] [(0, (t1 77))]), o1 79
  (.append 3 (t1 76) (t1 78)), ⟨none, none, (.store 1 (t1 4) (t1 79))⟩]))
def b_s_ParsePlan_l1 : ACode := (.seq (rF [o1 55 (.arith .lss (t1 54) (t1 53))]) (.seq (.cond (t1 55) .skip (.exit 2)) (.seq (.block 3 (.seq (rF [o1 56 (.indexAddr none 1 (t1 52) (t1 54)), lF 57 1 56,
  m1 13 57]) (.seq (rF [m1 59 13, o1 60 (.call false 24 [t1 59]), m1 58 60, o1 61 (.extract 0 (t1 58)), o1 62 (.extract 1 (t1 58)), m1 14 61, m1 15 62]) (rF [fA 63 2 10, lF 64 1 63, m1 65 14, o1 66
  (.buildSlice 1 [[.v (.int .i64 0)]] [(0, (t1 65))]), o1 67 (.append 1 (t1 64) (t1 66)), m1 68 11, m1 69 15, o1 70 (.buildSlice 1 [[.v (.bool false)]] [(0, (t1 69))]), o1 71 (.appendm 1 (t1 68) (t1
  70)), fA 72 2 10, ⟨none, none, (.store 1 (t1 72) (t1 67))⟩, m1 11 71])))) (rF [o1 73 (.arith .add (t1 54) (i1 1)), m1 54 73]))))
def b_s_ParsePlan_y0 : ACode := (.block 1 (.seq (rF [m1 25 5, o1 26 (.call false 22 [t1 25, .const (.v (.string ⟨#[64]⟩))]), m1 24 26, o1 27 (.extract 0 (t1 24)), o1 28 (.extract 1 (t1 24)), o1 29
  (.extract 2 (t1 24)), m1 6 27, m1 7 28, m1 8 29]) (.seq (rF [m1 30 7, o1 31 (.call false 23 [t1 30, .const (.v (.string ⟨#[43]⟩))]), m1 9 31]) (.seq (rF [o1 10 (.alloc [.v (.int .i64 0), .v (.int
  .i64 0), .slice .nilS 0 []])]) (.seq (rF [o1 32 (.mkSlicem 1 [.v (.bool false)] (i1 2) (i1 2)), m1 11 32]) (.seq (rF [m1 34 11, m1 35 6, o1 36 (.call false 24 [t1 35]), m1 33 36, o1 37 (.extract 0
  (t1 33)), o1 38 (.extract 1 (t1 33)), fA 39 0 10, ⟨none, none, (.store 1 (t1 39) (t1 37))⟩, o1 40 (.indexAddr none 1 (t1 34) (i1 0)), ⟨none, none, (.store 1 (t1 40) (t1 38))⟩]) (.seq (rF [m1 42 11,
  m1 43 9, o1 44 (.indexAddr none 1 (t1 43) (i1 0)), lF 45 1 44, o1 46 (.call false 24 [t1 45]), m1 41 46, o1 47 (.extract 0 (t1 41)), o1 48 (.extract 1 (t1 41)), fA 49 1 10, ⟨none, none, (.store 1
  (t1 49) (t1 47))⟩, o1 50 (.indexAddr none 1 (t1 42) (i1 1)), ⟨none, none, (.store 1 (t1 50) (t1 48))⟩]) (.seq (.seq (rF [m1 51 9, o1 52 (.slice (.sl 1) (t1 51) (some (i1 1)) none none), o1 53 (.len
  false (t1 52)), o1 54 (.move (i1 0))]) (.block 2 (.loop b_s_ParsePlan_l1))) b_s_ParsePlan_r1))))))))
def b_s_ParsePlan_a1 : ACode := (rF [m1 5 23])
def b_s_ParsePlan : ACode := (.seq (rF [o1 2 (.alloc [.slice .nilS 0 []]), o1 3 (.alloc [.v (.int .i64 0)])]) (.seq (.seq (rF [m1 16 0, o1 17 (.len true (t1 16)), o1 18 (.arith .gtr (t1 17) (i1
  60000))]) (.cond (t1 18) (.seq (rF [⟨none, none, (.store 1 (t1 2) (.const (.slice .nilS 0 [])))⟩, ⟨none, none, (.store 1 (t1 3) (i1 8))⟩]) .ret) .skip)) (.seq (.seq (rF [m1 19 0, o1 20 (.arith .eql
  (t1 19) (.const (.v (.string ⟨#[]⟩))))]) (.cond (t1 20) (.seq (rF [⟨none, none, (.store 1 (t1 2) (.const (.slice .nilS 0 [])))⟩, ⟨none, none, (.store 1 (t1 3) (i1 0))⟩]) .ret) .skip)) (.seq (rF [o1
  4 (.alloc [.slice .nilS 0 []])]) (.seq (.seq (rF [m1 21 0, o1 22 (.calli 21 [t1 21, .const (.v (.string ⟨#[32]⟩))])]) (.block 0 (.rangeFunc (t1 22) [23] b_s_ParsePlan_a1 b_s_ParsePlan_y0)))
  b_s_ParsePlan_r0)))))
abbrev k_s_ParsePlan_1 : List K := [.blk 2, .c b_s_ParsePlan_r1, .blk 1]
abbrev k_s_ParsePlan_0 : List K := [.blk 0, .c b_s_ParsePlan_r0]
abbrev f_s_ParsePlan := finF [(.cell false 1 2), (.cell false 1 3)] false
def c_s_ParsePlan : AFn := .code 1 84 b_s_ParsePlan [(.cell false 1 2), (.cell false 1 3)] false
-- 10
def b_r_ParsePlan_r0 : ACode := (.seq (.seq (rF [m1 36 4, o1 37 (.len false (t1 36)), o1 38 (.arith .gtr (t1 37) (i1 12))]) (.cond (t1 38) (.seq (rF [o1 2 (.move (.const (.slice .nilS 0 []))), o1 3
  (.move (i1 8))]) .ret) .skip)) (.seq (rF [m1 39 4, m1 2 39, o1 3 (.move (i1 0))]) .ret))
def b_r_ParsePlan_l0 : ACode := (.seq (.seq (rF [m1 16 6, m1 17 5, o1 18 (.len false (t1 17)), o1 19 (.arith .lss (t1 16) (t1 18))]) (.cond (t1 19) .skip (.exit 0))) (.seq (.block 1 (.seq (rF [m1 23
  5, m1 24 6, o1 25 (.indexAddr none 1 (t1 23) (t1 24)), lF 26 1 25, o1 27 (.call false 27 [t1 26]), m1 22 27, o1 28 (.extract 0 (t1 22)), o1 29 (.extract 1 (t1 22)), o1 7 (.alloc [.v (.int .i64 0),
  .v (.int .i64 0), .slice .nilS 0 []]), ⟨none, none, (.store 3 (t1 7) (t1 28))⟩, m1 8 29]) (.seq (.seq (rF [m1 30 8, o1 31 (.un .not (t1 30))]) (.cond (t1 31) (.seq (rF [o1 2 (.move (.const (.slice
  .nilS 0 []))), o1 3 (.move (i1 7))]) .ret) .skip)) (rF [m1 32 4, lT 33 3 7, o1 34 (.buildSlice 3 [[.v (.int .i64 0), .v (.int .i64 0), .slice .nilS 0 []]] [(0, (t1 33))]), o1 35 (.append 3 (t1 32)
  (t1 34)), m1 4 35])))) (rF [m1 20 6, o1 21 (.arith .add (t1 20) (i1 1)), m1 6 21])))
def b_r_ParsePlan : ACode := (.seq (rF [o1 2 (.move (.const (.slice .nilS 0 []))), o1 3 (.move (i1 0))]) (.seq (.seq (rF [m1 9 0, o1 10 (.len true (t1 9)), o1 11 (.arith .gtr (t1 10) (i1 60000))])
  (.cond (t1 11) (.seq (rF [o1 2 (.move (.const (.slice .nilS 0 []))), o1 3 (.move (i1 8))]) .ret) .skip)) (.seq (.seq (rF [m1 12 0, o1 13 (.arith .eql (t1 12) (.const (.v (.string ⟨#[]⟩))))]) (.cond
  (t1 13) (.seq (rF [o1 2 (.move (.const (.slice .nilS 0 []))), o1 3 (.move (i1 0))]) .ret) .skip)) (.seq (rF [o1 4 (.move (.const (.slice .nilS 0 [])))]) (.seq (rF [m1 14 0, o1 15 (.call false 26 [t1
  14, .const (.v (.int .u8 32))]), m1 5 15]) (.seq (.seq (rF [o1 6 (.move (i1 0))]) (.block 0 (.loop b_r_ParsePlan_l0))) b_r_ParsePlan_r0))))))
abbrev k_r_ParsePlan_0 : List K := [.blk 0, .c b_r_ParsePlan_r0]
abbrev f_r_ParsePlan := finF [(.tmp 2), (.tmp 3)] false
def c_r_ParsePlan : AFn := .code 1 40 b_r_ParsePlan [(.tmp 2), (.tmp 3)] false
-- 11
def b_r_FormatPlan_r0 : ACode := (.seq (rF [m1 54 3, m1 2 54]) .ret)
def b_r_FormatPlan_r1 : ACode := (rF [m1 10 4, o1 11 (.arith .add (t1 10) (i1 1)), m1 4 11])
def b_r_FormatPlan_l1 : ACode := (.seq (.seq (rF [m1 32 5, m1 33 0, m1 34 4, o1 35 (.indexAddr none 3 (t1 33) (t1 34)), fA 36 2 35, lF 37 1 36, o1 38 (.len false (t1 37)), o1 39 (.arith .lss (t1 32)
  (t1 38))]) (.cond (t1 39) .skip (.exit 2))) (.seq (.block 3 (rF [m1 42 3, o1 43 (.arith .add (t1 42) (.const (.v (.string ⟨#[43]⟩)))), m1 44 0, m1 45 4, o1 46 (.indexAddr none 3 (t1 44) (t1 45)), fA
  47 2 46, lF 48 1 47, m1 49 5, o1 50 (.indexAddr none 1 (t1 48) (t1 49)), lF 51 1 50, o1 52 (.call false 28 [t1 51]), o1 53 (.arith .add (t1 43) (t1 52)), m1 3 53])) (rF [m1 40 5, o1 41 (.arith .add
  (t1 40) (i1 1)), m1 5 41])))
def b_r_FormatPlan_l0 : ACode := (.seq (.seq (rF [m1 6 4, m1 7 0, o1 8 (.len false (t1 7)), o1 9 (.arith .lss (t1 6) (t1 8))]) (.cond (t1 9) .skip (.exit 0))) (.seq (.block 1 (.seq (.seq (rF [m1 12 4,
  o1 13 (.arith .gtr (t1 12) (i1 0))]) (.cond (t1 13) (rF [m1 14 3, o1 15 (.arith .add (t1 14) (.const (.v (.string ⟨#[32]⟩)))), m1 3 15]) .skip)) (.seq (rT [m1 16 3, m1 17 0, m1 18 4, o1 19
  (.indexAddr none 3 (t1 17) (t1 18)), fA 20 0 19, lF 21 1 20, o1 22 (.call true 28 [t1 21]), o1 23 (.arith .add (t1 16) (t1 22)), o1 24 (.arith .add (t1 23) (.const (.v (.string ⟨#[64]⟩)))), m1 25 0,
  m1 26 4, o1 27 (.indexAddr none 3 (t1 25) (t1 26)), fA 28 1 27, lF 29 1 28, o1 30 (.call false 28 [t1 29]), o1 31 (.arith .add (t1 24) (t1 30)), m1 3 31]) (.seq (rF [o1 5 (.move (i1 0))]) (.block 2
  (.loop b_r_FormatPlan_l1)))))) b_r_FormatPlan_r1))
def b_r_FormatPlan : ACode := (.seq (rF [o1 2 (.move (.const (.v (.string ⟨#[]⟩))))]) (.seq (rF [o1 3 (.move (.const (.v (.string ⟨#[]⟩))))]) (.seq (.seq (rF [o1 4 (.move (i1 0))]) (.block 0 (.loop
  b_r_FormatPlan_l0))) b_r_FormatPlan_r0)))
abbrev k_r_FormatPlan_1 : List K := [.blk 2, .blk 1, .c b_r_FormatPlan_r1, .lp b_r_FormatPlan_l0, .blk 0, .c b_r_FormatPlan_r0]
abbrev k_r_FormatPlan_0 : List K := [.blk 0, .c b_r_FormatPlan_r0]
abbrev f_r_FormatPlan := finF [(.tmp 2)] false
def c_r_FormatPlan : AFn := .code 1 55 b_r_FormatPlan [(.tmp 2)] false
-- 12
def b_r_Same_r0 : ACode := (.seq (rF [o1 4 (.move (.const (.v (.bool true))))]) .ret)
def b_r_Same_l0 : ACode := (.seq (.seq (rF [m1 11 5, m1 12 0, o1 13 (.len false (t1 12)), o1 14 (.arith .lss (t1 11) (t1 13))]) (.cond (t1 14) .skip (.exit 0))) (.seq (.block 1 (.seq (rT [m1 17 0, m1
  18 5, o1 19 (.indexAddr none 3 (t1 17) (t1 18)), lT 20 3 19, m1 21 1, m1 22 5, o1 23 (.indexAddr none 3 (t1 21) (t1 22)), lT 24 3 23, o1 25 (.call false 29 [t1 20, t1 24]), o1 26 (.arith .neq (t1
  25) (i1 0))]) (.cond (t1 26) (.seq (rF [o1 4 (.move (.const (.v (.bool false))))]) .ret) .skip))) (rF [m1 15 5, o1 16 (.arith .add (t1 15) (i1 1)), m1 5 16])))
def b_r_Same : ACode := (.seq (rF [o1 4 (.move (.const (.v (.bool false))))]) (.seq (.seq (rF [m1 6 0, o1 7 (.len false (t1 6)), m1 8 1, o1 9 (.len false (t1 8)), o1 10 (.arith .neq (t1 7) (t1 9))])
  (.cond (t1 10) (.seq (rF [o1 4 (.move (.const (.v (.bool false))))]) .ret) .skip)) (.seq (.seq (rF [o1 5 (.move (i1 0))]) (.block 0 (.loop b_r_Same_l0))) b_r_Same_r0)))
abbrev k_r_Same_0 : List K := [.blk 0, .c b_r_Same_r0]
abbrev f_r_Same := finF [(.tmp 4)] false
def c_r_Same : AFn := .code 2 27 b_r_Same [(.tmp 4)] false
-- 13
def b_r_PlanErr : ACode := (.seq (rF [o1 2 (.box 3 (t1 0)), o1 4 (.move (i1 0))]) (.seq (.seq (rF [lT 8 3 2, o1 9 (.call false 30 [t1 8]), m1 5 9]) (.seq (rF [m1 10 5, o1 11 (.arith .neq (t1 10) (i1
  0))]) (.cond (t1 11) (.seq (rF [m1 12 5, m1 4 12]) .ret) .skip))) (.seq (rF [lT 14 3 2, m1 15 1, o1 16 (.call false 31 [t1 14, t1 15]), m1 13 16, o1 17 (.extract 0 (t1 13)), o1 18 (.extract 1 (t1
  13)), m1 6 17, m1 7 18]) (.seq (rF [m1 19 7, m1 4 19]) .ret))))
abbrev f_r_PlanErr := finF [(.tmp 4)] false
def c_r_PlanErr : AFn := .code 2 20 b_r_PlanErr [(.tmp 4)] false
-- 14
def b_s_Best : ACode := (.seq (rF [o1 1 (.box 3 (t1 0)), o1 2 (.move (.const (.slice .nilS 0 []))), o1 3 (.move (i1 0)), o1 4 (.move (i1 0))]) (.seq (rF [lT 11 3 1, o1 12 (.call false 32 [t1 11]), m1
  10 12, o1 13 (.extract 0 (t1 10)), o1 14 (.extract 1 (t1 10)), m1 5 13, m1 6 14]) (.seq (.seq (rF [m1 15 6, o1 16 (.arith .neq (t1 15) (i1 0))]) (.cond (t1 16) (.seq (rF [m1 17 6, o1 2 (.move
  (.const (.slice .nilS 0 []))), o1 3 (.move (i1 0)), m1 4 17]) .ret) .skip)) (.seq (rF [m1 19 5, o1 20 (.call false 33 [t1 19]), o1 21 (.call false 34 [t1 20]), m1 18 21, o1 22 (.extract 0 (t1 18)),
  o1 23 (.extract 1 (t1 18)), o1 24 (.extract 2 (t1 18)), m1 7 22, m1 8 23, m1 9 24]) (.seq (rF [m1 25 7, m1 26 8, m1 2 25, m1 3 26, o1 4 (.move (i1 0))]) .ret)))))
abbrev f_s_Best := finF [(.tmp 2), (.tmp 3), (.tmp 4)] false
def c_s_Best : AFn := .code 1 27 b_s_Best [(.tmp 2), (.tmp 3), (.tmp 4)] false
-- 15
def b_l_Week : ACode := (.seq (rF [o1 0 (.alloc [.v (.int .i64 0), .slice .nilS 0 [], .slice .nilS 0 []])]) (.seq (rF [o1 1 (.build [.v (.int .i64 0), .v (.int .i64 0)] [(0, (1, (i1 4))), (1, (1, (i1
  4)))]), o1 2 (.buildSlice 2 [[.v (.int .i64 0), .v (.int .i64 0)]] [(0, (t1 1))]), o1 3 (.build [.v (.string ⟨#[]⟩), .v (.int .i64 0), .slice .nilS 0 []] [(0, (1, (.const (.v (.string ⟨#[97]⟩))))),
  (1, (1, (i1 1))), (2, (1, (t1 2)))]), o1 4 (.build [.v (.string ⟨#[]⟩), .v (.int .i64 0), .slice .nilS 0 []] [(0, (1, (.const (.v (.string ⟨#[98]⟩)))))]), o1 5 (.buildSlice 3 [[.v (.string ⟨#[]⟩),
  .v (.int .i64 0), .slice .nilS 0 []], [.v (.string ⟨#[]⟩), .v (.int .i64 0), .slice .nilS 0 []]] [(0, (t1 3)), (1, (t1 4))]), o1 6 (.build [.v (.int .i64 0), .v (.int .i64 0)] [(1, (1, (i1 5)))]),
  o1 7 (.buildSlice 1 [[.v (.int .i64 0)]] [(0, (i1 0))]), o1 8 (.build [.v (.string ⟨#[]⟩), .v (.int .i64 0), .v (.int .i64 0), .v (.int .i64 0), .v (.int .i64 0), .slice .nilS 0 [], .v (.int .i64
  0)] [(0, (1, (.const (.v (.string ⟨#[109, 97, 114, 115]⟩))))), (1, (2, (t1 6))), (3, (1, (i1 3))), (4, (1, (i1 10))), (5, (1, (t1 7))), (6, (1, (i1 1)))]), o1 9 (.build [.v (.int .i64 0), .v (.int
  .i64 0)] [(1, (1, (i1 4)))]), o1 10 (.buildSlice 1 [[.v (.int .i64 0)], [.v (.int .i64 0)]] [(0, (i1 0)), (1, (i1 1))]), o1 11 (.build [.v (.string ⟨#[]⟩), .v (.int .i64 0), .v (.int .i64 0), .v
  (.int .i64 0), .v (.int .i64 0), .slice .nilS 0 [], .v (.int .i64 0)] [(0, (1, (.const (.v (.string ⟨#[109, 111, 111, 110]⟩))))), (1, (2, (t1 9))), (3, (1, (i1 2))), (4, (1, (i1 7))), (5, (1, (t1
  10))), (6, (1, (i1 1)))]), o1 12 (.build [.v (.int .i64 0), .v (.int .i64 0)] [(1, (1, (i1 9)))]), o1 13 (.buildSlice 1 [[.v (.int .i64 0)], [.v (.int .i64 0)]] [(0, (i1 0)), (1, (i1 1))]), o1 14
  (.build [.v (.string ⟨#[]⟩), .v (.int .i64 0), .v (.int .i64 0), .v (.int .i64 0), .v (.int .i64 0), .slice .nilS 0 [], .v (.int .i64 0)] [(0, (1, (.const (.v (.string ⟨#[109, 97, 114, 115]⟩))))),
  (1, (2, (t1 12))), (3, (1, (i1 4))), (4, (1, (i1 6))), (5, (1, (t1 13))), (6, (1, (i1 2)))]), o1 15 (.buildSlice 7 [[.v (.string ⟨#[]⟩), .v (.int .i64 0), .v (.int .i64 0), .v (.int .i64 0), .v
  (.int .i64 0), .slice .nilS 0 [], .v (.int .i64 0)], [.v (.string ⟨#[]⟩), .v (.int .i64 0), .v (.int .i64 0), .v (.int .i64 0), .v (.int .i64 0), .slice .nilS 0 [], .v (.int .i64 0)], [.v (.string
  ⟨#[]⟩), .v (.int .i64 0), .v (.int .i64 0), .v (.int .i64 0), .v (.int .i64 0), .slice .nilS 0 [], .v (.int .i64 0)]] [(0, (t1 8)), (1, (t1 11)), (2, (t1 14))]), o1 16 (.build [.v (.int .i64 0),
  .slice .nilS 0 [], .slice .nilS 0 []] [(0, (1, (i1 10))), (1, (1, (t1 5))), (2, (1, (t1 15)))]), ⟨none, none, (.store 3 (t1 0) (t1 16))⟩]) .ret))
abbrev f_l_Week := finF [(.cell true 3 0)] false
def c_l_Week : AFn := .code 0 17 b_l_Week [(.cell true 3 0)] false
-- 16
def b_s_ShareOf_r0 : ACode := (.seq (.seq (rF [m1 56 12, o1 57 (.arith .eql (t1 56) (i1 0))]) (.cond (t1 57) (.seq (rF [o1 58 (.build [.v (.int .i64 0), .v (.int .i64 0)] []), ⟨none, none, (.store 2
  (t1 6) (t1 58))⟩, o1 7 (.move (i1 6))]) .ret) .skip)) (.seq (rF [m1 59 11, m1 60 12, o1 61 (.call false 37 [t1 59, t1 60]), ⟨none, none, (.store 2 (t1 6) (t1 61))⟩, o1 7 (.move (i1 0))]) .ret))
def b_s_ShareOf_l0 : ACode := (.seq (rF [o1 32 (.arith .lss (t1 31) (t1 30))]) (.seq (.cond (t1 32) .skip (.exit 0)) (.seq (.block 1 (.seq (rF [m1 33 31, o1 34 (.indexAddr none 7 (t1 29) (t1 31)), lT
  35 7 34, o1 14 (.alloc [.v (.string ⟨#[]⟩), .v (.int .i64 0), .v (.int .i64 0), .v (.int .i64 0), .v (.int .i64 0), .slice .nilS 0 [], .v (.int .i64 0)]), m1 13 33, ⟨none, none, (.store 7 (t1 14)
  (t1 35))⟩]) (.seq (.seq (rF [fA 36 0 14, lF 37 1 36, m1 38 2, o1 39 (.arith .neq (t1 37) (t1 38))]) (.cond (t1 39) (.exit 1) .skip)) (.seq (rF [m1 40 12, fA 41 3 14, lF 42 1 41, o1 43 (.arith .add
  (t1 40) (t1 42)), m1 12 43]) (.seq (rF [m1 45 1, m1 46 13, o1 47 (.call false 36 [t1 45, t1 46]), m1 44 47, o1 48 (.extract 0 (t1 44)), o1 49 (.extract 1 (t1 44)), o1 15 (.alloc [.v (.int .i64 0),
  .v (.int .i64 0), .slice .nilS 0 []]), ⟨none, none, (.store 3 (t1 15) (t1 48))⟩, m1 16 49]) (.seq (rF [m1 50 16]) (.cond (t1 50) (rF [m1 51 11, fA 52 3 14, lF 53 1 52, o1 54 (.arith .add (t1 51) (t1
  53)), m1 11 54]) .skip))))))) (rF [o1 55 (.arith .add (t1 31) (i1 1)), m1 31 55]))))
def b_s_ShareOf : ACode := (.seq (rF [o1 3 (.box 3 (t1 0)), o1 6 (.alloc [.v (.int .i64 0), .v (.int .i64 0)]), o1 7 (.move (i1 0))]) (.seq (.seq (rF [lT 18 3 3, m1 19 1, o1 20 (.call false 35 [t1 18,
  t1 19]), m1 17 20, o1 21 (.extract 0 (t1 17)), o1 22 (.extract 1 (t1 17)), o1 23 (.extract 2 (t1 17)), m1 8 21, m1 9 22, m1 10 23]) (.seq (rF [m1 24 10, o1 25 (.arith .neq (t1 24) (i1 0))]) (.cond
  (t1 25) (.seq (rF [o1 26 (.build [.v (.int .i64 0), .v (.int .i64 0)] []), m1 27 10, ⟨none, none, (.store 2 (t1 6) (t1 26))⟩, m1 7 27]) .ret) .skip))) (.seq (rF [o1 11 (.move (i1 0)), o1 12 (.move
  (i1 0))]) (.seq (.seq (rF [fA 28 2 3, lF 29 1 28, o1 30 (.len false (t1 29)), o1 31 (.move (i1 0))]) (.block 0 (.loop b_s_ShareOf_l0))) b_s_ShareOf_r0))))
abbrev k_s_ShareOf_0 : List K := [.blk 0, .c b_s_ShareOf_r0]
abbrev f_s_ShareOf := finF [(.cell true 2 6), (.tmp 7)] false
def c_s_ShareOf : AFn := .code 3 62 b_s_ShareOf [(.cell true 2 6), (.tmp 7)] false
-- 17
def b_b_Whole : ACode := (.seq (rF [o1 2 (.alloc [.v (.int .i64 0), .v (.int .i64 0)])]) (.seq (rF [m1 3 0, o1 4 (.build [.v (.int .i64 0), .v (.int .i64 0)] [(0, (1, (t1 3))), (1, (1, (i1 1)))]),
  ⟨none, none, (.store 2 (t1 2) (t1 4))⟩]) .ret))
abbrev f_b_Whole := finF [(.cell true 2 2)] false
def c_b_Whole : AFn := .code 1 5 b_b_Whole [(.cell true 2 2)] false
-- 20
def b_b_CopyInts : ACode := (.seq (rF [o1 2 (.move (.const (.slice .nilS 0 [])))]) (.seq (rF [o1 3 (.buildSlice 1 [] []), m1 4 0, o1 5 (.append 1 (t1 3) (t1 4)), m1 2 5]) .ret))
abbrev f_b_CopyInts := finF [(.tmp 2)] true
def c_b_CopyInts : AFn := .code 1 6 b_b_CopyInts [(.tmp 2)] true
-- 21
def b_strings_SplitSeq : ACode := (.seq (rF [o1 4 (.move (.const (.v .nilFunc)))]) (.seq (rF [m1 5 0, m1 6 1, o1 7 (.calli 42 [t1 5, t1 6, i1 0]), m1 4 7]) .ret))
abbrev f_strings_SplitSeq := finF [(.tmp 4)] false
def c_strings_SplitSeq : AFn := .code 2 8 b_strings_SplitSeq [(.tmp 4)] false
-- 24
def b_s_number : ACode := (.seq (rF [o1 2 (.move (i1 0)), o1 3 (.move (.const (.v (.bool false))))]) (.seq (rF [m1 7 0, o1 8 (.call false 45 [t1 7]), m1 6 8, o1 9 (.extract 0 (t1 6)), o1 10 (.extract
  1 (t1 6)), m1 4 9, m1 5 10]) (.seq (rF [m1 11 4, m1 12 5, o1 13 (.eqv false .iface (t1 12) (.const (.v .nilIface))), m1 14 13, gT 15 14 (.move (t1 4)), gT 16 14 (.arith .geq (t1 15) (i1 0)), o1 17
  (.pick (t1 14) (t1 16) (.const (.v (.bool false)))), m1 18 17, gT 19 18 (.move (t1 4)), gT 20 18 (.call false 18 [t1 19]), gT 21 18 (.move (t1 0)), gT 22 18 (.arith .eql (t1 20) (t1 21)), o1 23
  (.pick (t1 18) (t1 22) (.const (.v (.bool false)))), m1 24 23, gT 25 24 (.move (t1 0)), gT 26 24 (.len true (t1 25)), gT 27 24 (.arith .leq (t1 26) (i1 4)), o1 28 (.pick (t1 24) (t1 27) (.const (.v
  (.bool false)))), m1 2 11, m1 3 28]) .ret)))
abbrev f_s_number := finF [(.tmp 2), (.tmp 3)] false
def c_s_number : AFn := .code 1 29 b_s_number [(.tmp 2), (.tmp 3)] false
-- 25
def b_z_Contains_bool : ACode := (.seq (rF [o1 4 (.move (.const (.v (.bool false))))]) (.seq (rF [m1 5 0, m1 6 1, o1 7 (.call false 46 [t1 5, t1 6]), o1 8 (.arith .geq (t1 7) (i1 0)), m1 4 8]) .ret))
abbrev f_z_Contains_bool := finF [(.tmp 4)] false
def c_z_Contains_bool : AFn := .code 2 9 b_z_Contains_bool [(.tmp 4)] false
-- 26
def b_b_Cut_r0 : ACode := (.seq (rF [m1 28 5, m1 29 0, m1 30 6, o1 31 (.slice .str (t1 29) (some (t1 30)) none none), o1 32 (.buildSlice 1 [[.v (.string ⟨#[]⟩)]] [(0, (t1 31))]), o1 33 (.append 1 (t1
  28) (t1 32)), m1 4 33]) .ret)
def b_b_Cut_l0 : ACode := (.seq (.seq (rF [m1 8 7, m1 9 0, o1 10 (.len true (t1 9)), o1 11 (.arith .lss (t1 8) (t1 10))]) (.cond (t1 11) .skip (.exit 0))) (.seq (.block 1 (.seq (rF [m1 14 0, m1 15 7,
  o1 16 (.indexStr (t1 14) (t1 15)), m1 17 1, o1 18 (.arith .eql (t1 16) (t1 17))]) (.cond (t1 18) (.seq (rF [m1 19 5, m1 20 0, m1 21 6, m1 22 7, o1 23 (.slice .str (t1 20) (some (t1 21)) (some (t1
  22)) none), o1 24 (.buildSlice 1 [[.v (.string ⟨#[]⟩)]] [(0, (t1 23))]), o1 25 (.append 1 (t1 19) (t1 24)), m1 5 25]) (rF [m1 26 7, o1 27 (.arith .add (t1 26) (i1 1)), m1 6 27])) .skip))) (rF [m1 12
  7, o1 13 (.arith .add (t1 12) (i1 1)), m1 7 13])))
def b_b_Cut : ACode := (.seq (rF [o1 4 (.move (.const (.slice .nilS 0 [])))]) (.seq (rF [o1 5 (.move (.const (.slice .nilS 0 [])))]) (.seq (rF [o1 6 (.move (i1 0))]) (.seq (.seq (rF [o1 7 (.move (i1
  0))]) (.block 0 (.loop b_b_Cut_l0))) b_b_Cut_r0))))
abbrev k_b_Cut_0 : List K := [.blk 0, .c b_b_Cut_r0]
abbrev f_b_Cut := finF [(.tmp 4)] false
def c_b_Cut : AFn := .code 2 34 b_b_Cut [(.tmp 4)] false
-- 27
def b_r_passOf_r0 : ACode := (.seq (rF [lT 65 3 10, m1 66 7, m1 67 66, gT 68 67 (.move (t1 9)), o1 69 (.pick (t1 67) (t1 68) (.const (.v (.bool false)))), ⟨none, none, (.store 3 (t1 2) (t1 65))⟩, m1 3
  69]) .ret)
def b_r_passOf_l0 : ACode := (.seq (.seq (rF [m1 41 11, m1 42 4, o1 43 (.len false (t1 42)), o1 44 (.arith .lss (t1 41) (t1 43))]) (.cond (t1 44) .skip (.exit 0))) (.seq (.block 1 (.seq (rF [m1 48 4,
  m1 49 11, o1 50 (.indexAddr none 1 (t1 48) (t1 49)), lF 51 1 50, o1 52 (.call false 47 [t1 51]), m1 47 52, o1 53 (.extract 0 (t1 47)), o1 54 (.extract 1 (t1 47)), m1 12 53, m1 13 54]) (.seq (rF [m1
  55 7, m1 56 55, gT 57 56 (.move (t1 13)), o1 58 (.pick (t1 56) (t1 57) (.const (.v (.bool false)))), m1 7 58]) (rF [fA 59 2 10, lF 60 1 59, m1 61 12, o1 62 (.buildSlice 1 [[.v (.int .i64 0)]] [(0,
  (t1 61))]), o1 63 (.append 1 (t1 60) (t1 62)), fA 64 2 10, ⟨none, none, (.store 1 (t1 64) (t1 63))⟩])))) (rF [m1 45 11, o1 46 (.arith .add (t1 45) (i1 1)), m1 11 46])))
def b_r_passOf : ACode := (.seq (rF [o1 2 (.alloc [.v (.int .i64 0), .v (.int .i64 0), .slice .nilS 0 []]), o1 3 (.move (.const (.v (.bool false))))]) (.seq (rF [m1 14 0, o1 15 (.call false 26 [t1 14,
  .const (.v (.int .u8 43))]), m1 4 15]) (.seq (rF [m1 16 4, o1 17 (.indexAddr none 1 (t1 16) (i1 0)), lF 18 1 17, o1 19 (.call false 26 [t1 18, .const (.v (.int .u8 64))]), m1 5 19]) (.seq (.seq (rF
  [m1 20 5, o1 21 (.len false (t1 20)), o1 22 (.arith .neq (t1 21) (i1 2))]) (.cond (t1 22) (.seq (rF [o1 23 (.build [.v (.int .i64 0), .v (.int .i64 0), .slice .nilS 0 []] []), ⟨none, none, (.store 3
  (t1 2) (t1 23))⟩, o1 3 (.move (.const (.v (.bool false))))]) .ret) .skip)) (.seq (rF [m1 25 5, o1 26 (.indexAddr none 1 (t1 25) (i1 0)), lF 27 1 26, o1 28 (.call false 47 [t1 27]), m1 24 28, o1 29
  (.extract 0 (t1 24)), o1 30 (.extract 1 (t1 24)), m1 6 29, m1 7 30]) (.seq (rF [m1 32 5, o1 33 (.indexAddr none 1 (t1 32) (i1 1)), lF 34 1 33, o1 35 (.call false 47 [t1 34]), m1 31 35, o1 36
  (.extract 0 (t1 31)), o1 37 (.extract 1 (t1 31)), m1 8 36, m1 9 37]) (.seq (rF [m1 38 6, m1 39 8, o1 40 (.build [.v (.int .i64 0), .v (.int .i64 0), .slice .nilS 0 []] [(0, (1, (t1 38))), (1, (1,
  (t1 39)))]), o1 10 (.alloc [.v (.int .i64 0), .v (.int .i64 0), .slice .nilS 0 []]), ⟨none, none, (.store 3 (t1 10) (t1 40))⟩]) (.seq (.seq (rF [o1 11 (.move (i1 1))]) (.block 0 (.loop
  b_r_passOf_l0))) b_r_passOf_r0))))))))
abbrev k_r_passOf_0 : List K := [.blk 0, .c b_r_passOf_r0]
abbrev f_r_passOf := finF [(.cell true 3 2), (.tmp 3)] false
def c_r_passOf : AFn := .code 1 70 b_r_passOf [(.cell true 3 2), (.tmp 3)] false
-- 28
def b_b_Decimal_r0 : ACode := (.seq (rF [m1 24 4, m1 25 3, o1 26 (.arith .add (t1 24) (t1 25)), m1 2 26]) .ret)
def b_b_Decimal_l0 : ACode := (.seq (.seq (rF [m1 10 0, o1 11 (.arith .neq (t1 10) (i1 0))]) (.cond (t1 11) .skip (.exit 0))) (.block 1 (.seq (rF [m1 12 0, o1 13 (.arith .rem (t1 12) (i1 10)), m1 5
  13]) (.seq (rF [m1 14 5, o1 15 (.call false 48 [t1 14]), o1 16 (.arith .add (i1 48) (t1 15)), o1 17 (.conv (.int .u8) (t1 16)), o1 18 (.buildSlice 1 [[.v (.int .u8 0)]] [(0, (t1 17))]), o1 19 (.conv
  .text (t1 18)), m1 20 3, o1 21 (.arith .add (t1 19) (t1 20)), m1 3 21]) (rF [m1 22 0, o1 23 (.arith .quo (t1 22) (i1 10)), m1 0 23])))))
def b_b_Decimal : ACode := (.seq (rF [o1 2 (.move (.const (.v (.string ⟨#[]⟩))))]) (.seq (.seq (rF [m1 6 0, o1 7 (.arith .eql (t1 6) (i1 0))]) (.cond (t1 7) (.seq (rF [o1 2 (.move (.const (.v (.string
  ⟨#[48]⟩))))]) .ret) .skip)) (.seq (rF [o1 3 (.move (.const (.v (.string ⟨#[]⟩)))), o1 4 (.move (.const (.v (.string ⟨#[]⟩))))]) (.seq (.seq (rF [m1 8 0, o1 9 (.arith .lss (t1 8) (i1 0))]) (.cond (t1
  9) (rF [o1 4 (.move (.const (.v (.string ⟨#[45]⟩))))]) .skip)) (.seq (.block 0 (.loop b_b_Decimal_l0)) b_b_Decimal_r0)))))
abbrev k_b_Decimal_0 : List K := [.blk 0, .c b_b_Decimal_r0]
abbrev f_b_Decimal := finF [(.tmp 2)] false
def c_b_Decimal : AFn := .code 1 27 b_b_Decimal [(.tmp 2)] false
-- 29
def b_r_compare : ACode := (.seq (rF [o1 2 (.box 3 (t1 0)), o1 3 (.box 3 (t1 1)), o1 4 (.move (i1 0))]) (.seq (rF [fA 7 0 2, lF 8 1 7, fA 9 1 2, lF 10 1 9, o1 11 (.buildSlice 1 [[.v (.int .i64 0)],
  [.v (.int .i64 0)]] [(0, (t1 8)), (1, (t1 10))]), fA 12 2 2, lF 13 1 12, o1 14 (.append 1 (t1 11) (t1 13)), m1 5 14]) (.seq (rF [fA 15 0 3, lF 16 1 15, fA 17 1 3, lF 18 1 17, o1 19 (.buildSlice 1
  [[.v (.int .i64 0)], [.v (.int .i64 0)]] [(0, (t1 16)), (1, (t1 18))]), fA 20 2 3, lF 21 1 20, o1 22 (.append 1 (t1 19) (t1 21)), m1 6 22]) (.seq (.seq (rF [m1 23 5, m1 24 6, o1 25 (.call false 49
  [t1 23, t1 24])]) (.cond (t1 25) (.seq (rF [o1 4 (.move (i1 (-1)))]) .ret) .skip)) (.seq (.seq (rF [m1 26 6, m1 27 5, o1 28 (.call false 49 [t1 26, t1 27])]) (.cond (t1 28) (.seq (rF [o1 4 (.move
  (i1 1))]) .ret) .skip)) (.seq (rF [o1 4 (.move (i1 0))]) .ret))))))
abbrev f_r_compare := finF [(.tmp 4)] false
def c_r_compare : AFn := .code 2 29 b_r_compare [(.tmp 4)] false
-- 30
def b_r_WeekErr : ACode := (.seq (rF [o1 1 (.box 3 (t1 0)), o1 2 (.move (i1 0))]) (.seq (rF [lT 6 3 1, o1 7 (.call false 50 [t1 6]), m1 5 7, o1 8 (.extract 0 (t1 5)), o1 9 (.extract 1 (t1 5)), o1 3
  (.alloc [.v (.int .i64 0), .v (.int .i64 0)]), ⟨none, none, (.store 2 (t1 3) (t1 8))⟩, m1 4 9]) (.seq (rF [m1 10 4, m1 2 10]) .ret)))
abbrev f_r_WeekErr := finF [(.tmp 2)] false
def c_r_WeekErr : AFn := .code 1 11 b_r_WeekErr [(.tmp 2)] false
-- 31
def b_r_CheckPlan_r0 : ACode := (.seq (rF [o1 4 (.move (i1 0)), o1 5 (.move (i1 0))]) .ret)
def b_r_CheckPlan_l0 : ACode := (.seq (.seq (rF [m1 8 6, m1 9 1, o1 10 (.len false (t1 9)), o1 11 (.arith .lss (t1 8) (t1 10))]) (.cond (t1 11) .skip (.exit 0))) (.seq (.block 1 (.seq (rF [lT 14 3 2,
  m1 15 1, m1 16 6, o1 17 (.call false 51 [t1 14, t1 15, t1 16]), m1 7 17]) (.seq (rF [m1 18 7, o1 19 (.arith .neq (t1 18) (i1 0))]) (.cond (t1 19) (.seq (rF [m1 20 6, m1 21 7, m1 4 20, m1 5 21])
  .ret) .skip)))) (rF [m1 12 6, o1 13 (.arith .add (t1 12) (i1 1)), m1 6 13])))
def b_r_CheckPlan : ACode := (.seq (rF [o1 2 (.box 3 (t1 0)), o1 4 (.move (i1 0)), o1 5 (.move (i1 0))]) (.seq (.seq (rF [o1 6 (.move (i1 0))]) (.block 0 (.loop b_r_CheckPlan_l0))) b_r_CheckPlan_r0))
abbrev k_r_CheckPlan_0 : List K := [.blk 0, .c b_r_CheckPlan_r0]
abbrev f_r_CheckPlan := finF [(.tmp 4), (.tmp 5)] false
def c_r_CheckPlan : AFn := .code 2 22 b_r_CheckPlan [(.tmp 4), (.tmp 5)] false
-- 32
def b_s_openSmall : ACode := (.seq (rF [o1 1 (.box 3 (t1 0)), o1 2 (.move (.const (.v (.pointer none)))), o1 3 (.move (i1 0))]) (.seq (rF [lT 9 3 1, o1 10 (.call false 52 [t1 9]), m1 8 10, o1 11
  (.extract 0 (t1 8)), o1 12 (.extract 1 (t1 8)), m1 4 11, m1 5 12]) (.seq (.seq (rF [m1 13 5, o1 14 (.arith .neq (t1 13) (i1 0))]) (.cond (t1 14) (.seq (rF [m1 15 5, o1 2 (.move (.const (.v (.pointer
  none)))), m1 3 15]) .ret) .skip)) (.seq (rF [o1 6 (.move (.const (.fn 53 [] [])))]) (.seq (rF [fA 16 2 1, lF 17 1 16, o1 18 (.len false (t1 17)), o1 19 (.arith .leq (t1 18) (i1 6)), m1 20 19, gT 21
  20 (.fieldAddr 2 (t1 1)), gT 22 20 (.load false 1 (t1 21)), gT 23 20 (.move (t1 6)), gT 24 20 (.call false 54 [t1 22, t1 23]), gT 25 20 (.un .not (t1 24)), o1 26 (.pick (t1 20) (t1 25) (.const (.v
  (.bool false)))), m1 7 26]) (.seq (rF [m1 27 4, m1 28 7, o1 29 (.call false 55 [t1 28, i1 8]), m1 2 27, m1 3 29]) .ret))))))
abbrev f_s_openSmall := finF [(.tmp 2), (.tmp 3)] false
def c_s_openSmall : AFn := .code 1 30 b_s_openSmall [(.tmp 2), (.tmp 3)] false
-- 33
def b_w_free_r0 : ACode := (.seq (rF [lT 26 2 3, ⟨none, none, (.store 2 (t1 2) (t1 26))⟩]) .ret)
def b_w_free_l0 : ACode := (.seq (rF [o1 14 (.arith .lss (t1 13) (t1 12))]) (.seq (.cond (t1 14) .skip (.exit 0)) (.seq (.block 1 (.seq (rF [m1 15 13, m1 4 15]) (rT [fA 16 1 3, lF 17 1 16, m1 18 0, m1
  19 4, o1 20 (.call true 56 [t1 18, .const (.slice .nilS 0 []), t1 19]), o1 21 (.build [.slice .nilS 0 [], .v (.bool false)] [(0, (1, (t1 20))), (1, (1, (.const (.v (.bool true)))))]), o1 22
  (.buildSlice 2 [[.slice .nilS 0 [], .v (.bool false)]] [(0, (t1 21))]), o1 23 (.append 2 (t1 17) (t1 22)), fA 24 1 3, ⟨none, none, (.store 1 (t1 24) (t1 23))⟩]))) (rF [o1 25 (.arith .add (t1 13) (i1
  1)), m1 13 25]))))
def b_w_free : ACode := (.seq (rF [o1 2 (.alloc [.v (.pointer none), .slice .nilS 0 []])]) (.seq (rF [m1 5 0, o1 6 (.build [.v (.pointer none), .slice .nilS 0 []] [(0, (1, (t1 5)))]), o1 3 (.alloc [.v
  (.pointer none), .slice .nilS 0 []]), ⟨none, none, (.store 2 (t1 3) (t1 6))⟩]) (.seq (.seq (rF [m1 7 0, o1 8 (.nilCheck (t1 7)), fA 9 0 8, fA 10 2 9, lF 11 1 10, o1 12 (.len false (t1 11)), o1 13
  (.move (i1 0))]) (.block 0 (.loop b_w_free_l0))) b_w_free_r0)))
abbrev k_w_free_0 : List K := [.blk 0, .c b_w_free_r0]
abbrev f_w_free := finF [(.cell true 2 2)] false
def c_w_free : AFn := .code 1 27 b_w_free [(.cell true 2 2)] false
-- 34
def b_c_best_r0 : ACode := (.seq (.seq (rF [m1 61 5, m1 62 10, o1 63 (.call false 60 [t1 61, t1 62])]) (.cond (t1 63) (.seq (rF [m1 64 9, m1 65 6, m1 2 64, m1 3 65, o1 4 (.move (.const (.v (.bool
  true))))]) .ret) .skip)) (.seq (rF [lT 67 2 1, m1 68 9, m1 69 10, m1 70 5, o1 71 (.call false 61 [t1 67, t1 68, t1 69, t1 70]), m1 66 71, o1 72 (.extract 0 (t1 66)), o1 73 (.extract 1 (t1 66)), o1
  13 (.alloc [.v (.int .i64 0), .v (.int .i64 0), .slice .nilS 0 []]), ⟨none, none, (.store 3 (t1 13) (t1 72))⟩, m1 14 73]) (.seq (.seq (rF [m1 74 14, o1 75 (.un .not (t1 74))]) (.cond (t1 75) (.seq
  (rF [m1 76 9, m1 77 6, m1 2 76, m1 3 77, o1 4 (.move (.const (.v (.bool true))))]) .ret) .skip)) (rF [m1 78 9, lT 79 3 13, o1 80 (.buildSlice 3 [[.v (.int .i64 0), .v (.int .i64 0), .slice .nilS 0
  []]] [(0, (t1 79))]), o1 81 (.append 3 (t1 78) (t1 80)), m1 9 81]))))
def b_c_best_l1 : ACode := (.seq (rF [o1 52 (.arith .lss (t1 51) (t1 50))]) (.seq (.cond (t1 52) .skip (.exit 4)) (.seq (.block 5 (.seq (rF [o1 53 (.indexAddr none 3 (t1 49) (t1 51)), lT 54 3 53, o1
  12 (.alloc [.v (.int .i64 0), .v (.int .i64 0), .slice .nilS 0 []]), ⟨none, none, (.store 3 (t1 12) (t1 54))⟩]) (rF [m1 55 10, fA 56 0 12, lF 57 1 56, o1 58 (.arith .shl (i1 1) (t1 57)), o1 59
  (.arith .or (t1 55) (t1 58)), m1 10 59]))) (rF [o1 60 (.arith .add (t1 51) (i1 1)), m1 51 60]))))
def b_c_best_l0 : ACode := (.block 3 (.seq (rF [o1 10 (.move (i1 0))]) (.seq (.seq (rF [m1 49 9, o1 50 (.len false (t1 49)), o1 51 (.move (i1 0))]) (.block 4 (.loop b_c_best_l1))) b_c_best_r0)))
def b_c_best_r1 : ACode := (.seq (.seq (rF [m1 47 6, o1 48 (.arith .lss (t1 47) (i1 0))]) (.cond (t1 48) (.seq (rF [o1 2 (.move (.const (.slice .nilS 0 []))), o1 3 (.move (i1 0)), o1 4 (.move (.const
  (.v (.bool false))))]) .ret) .skip)) (.seq (rF [o1 9 (.move (.const (.slice .nilS 0 [])))]) (.block 2 (.loop b_c_best_l0))))
def b_c_best_l2 : ACode := (.seq (rF [o1 20 (.arith .lss (t1 19) (t1 18))]) (.seq (.cond (t1 20) .skip (.exit 0)) (.seq (.block 1 (.seq (rF [m1 21 19, m1 7 21]) (.seq (rF [lT 22 2 1, m1 23 7, o1 24
  (.call false 57 [t1 22, t1 23]), m1 8 24]) (.seq (rF [m1 25 8, m1 26 6, o1 27 (.arith .geq (t1 25) (t1 26)), m1 28 27, gT 29 28 (.load true 2 (t1 1)), gT 30 28 (.move (t1 7)), gT 31 28 (.call false
  58 [t1 29, t1 30]), o1 32 (.pick (t1 28) (t1 31) (.const (.v (.bool false)))), m1 33 32, gT 34 33 (.load true 2 (t1 1)), gT 35 33 (.move (t1 7)), gT 36 33 (.call false 59 [t1 34, .const (.slice
  .nilS 0 []), t1 35]), o1 37 (.pick (t1 33) (t1 36) (.const (.v (.bool false))))]) (.cond (t1 37) (.seq (.seq (rF [m1 38 8, m1 39 6, o1 40 (.arith .gtr (t1 38) (t1 39))]) (.cond (t1 40) (rF [m1 41 8,
  o1 5 (.move (.const (.slice .nilS 0 []))), m1 6 41]) .skip)) (rF [m1 42 5, m1 43 7, o1 44 (.buildSlice 1 [[.v (.int .i64 0)]] [(0, (t1 43))]), o1 45 (.append 1 (t1 42) (t1 44)), m1 5 45]))
  .skip))))) (rF [o1 46 (.arith .add (t1 19) (i1 1)), m1 19 46]))))
def b_c_best : ACode := (.seq (rF [o1 1 (.box 2 (t1 0)), o1 2 (.move (.const (.slice .nilS 0 []))), o1 3 (.move (i1 0)), o1 4 (.move (.const (.v (.bool false))))]) (.seq (rF [o1 5 (.move (.const
  (.slice .nilS 0 [])))]) (.seq (rF [o1 6 (.move (i1 (-1)))]) (.seq (.seq (rF [fA 15 1 1, lF 16 1 15, o1 17 (.len false (t1 16)), o1 18 (.arith .shl (i1 1) (t1 17)), o1 19 (.move (i1 0))]) (.block 0
  (.loop b_c_best_l2))) b_c_best_r1))))
abbrev k_c_best_1 : List K := [.blk 4, .c b_c_best_r0, .blk 3, .lp b_c_best_l0, .blk 2]
abbrev k_c_best_0 : List K := [.blk 2]
abbrev k_c_best_2 : List K := [.blk 0, .c b_c_best_r1]
abbrev f_c_best := finF [(.tmp 2), (.tmp 3), (.tmp 4)] false
def c_c_best : AFn := .code 1 82 b_c_best [(.tmp 2), (.tmp 3), (.tmp 4)] false
-- 35
def b_s_openPlan : ACode := (.seq (rF [o1 2 (.box 3 (t1 0)), o1 4 (.move (.const (.v (.pointer none)))), o1 5 (.move (i1 0)), o1 6 (.move (i1 0))]) (.seq (rF [lT 11 3 2, o1 12 (.call false 52 [t1
  11]), m1 10 12, o1 13 (.extract 0 (t1 10)), o1 14 (.extract 1 (t1 10)), m1 7 13, m1 8 14]) (.seq (.seq (rF [m1 15 8, o1 16 (.arith .neq (t1 15) (i1 0))]) (.cond (t1 16) (.seq (rF [m1 17 8, o1 4
  (.move (.const (.v (.pointer none)))), o1 5 (.move (i1 0)), m1 6 17]) .ret) .skip)) (.seq (rF [m1 19 7, m1 20 1, o1 21 (.call false 62 [t1 19, t1 20]), m1 18 21, o1 22 (.extract 0 (t1 18)), o1 23
  (.extract 1 (t1 18)), m1 9 22, m1 8 23]) (.seq (rF [m1 24 7, m1 25 9, m1 26 8, m1 4 24, m1 5 25, m1 6 26]) .ret)))))
abbrev f_s_openPlan := finF [(.tmp 4), (.tmp 5), (.tmp 6)] false
def c_s_openPlan : AFn := .code 2 27 b_s_openPlan [(.tmp 4), (.tmp 5), (.tmp 6)] false
-- 36
def b_s_passOf : ACode := (.seq (rF [o1 3 (.box 1 (t1 1)), o1 4 (.alloc [.v (.int .i64 0), .v (.int .i64 0), .slice .nilS 0 []]), o1 5 (.move (.const (.v (.bool false))))]) (.seq (rF [m1 7 0, o1 8
  (.mkFn 64 [] [t1 3]), o1 9 (.call false 63 [t1 7, t1 8]), m1 6 9]) (.seq (.seq (rF [m1 10 6, o1 11 (.arith .lss (t1 10) (i1 0))]) (.cond (t1 11) (.seq (rF [o1 12 (.build [.v (.int .i64 0), .v (.int
  .i64 0), .slice .nilS 0 []] []), ⟨none, none, (.store 3 (t1 4) (t1 12))⟩, o1 5 (.move (.const (.v (.bool false))))]) .ret) .skip)) (.seq (rF [m1 13 0, m1 14 6, o1 15 (.indexAddr none 3 (t1 13) (t1
  14)), lT 16 3 15, ⟨none, none, (.store 3 (t1 4) (t1 16))⟩, o1 5 (.move (.const (.v (.bool true))))]) .ret))))
abbrev f_s_passOf := finF [(.cell true 3 4), (.tmp 5)] false
def c_s_passOf : AFn := .code 2 17 b_s_passOf [(.cell true 3 4), (.tmp 5)] false
-- 37
def b_s_share_r0 : ACode := (.seq (rT [m1 18 0, m1 19 5, o1 20 (.arith .quo (t1 18) (t1 19)), m1 21 1, m1 22 5, o1 23 (.arith .quo (t1 21) (t1 22)), o1 24 (.build [.v (.int .i64 0), .v (.int .i64 0)]
  [(0, (1, (t1 20))), (1, (1, (t1 23)))]), ⟨none, none, (.store 2 (t1 4) (t1 24))⟩]) .ret)
def b_s_share_l0 : ACode := (.seq (.seq (rF [m1 12 6, o1 13 (.arith .neq (t1 12) (i1 0))]) (.cond (t1 13) .skip (.exit 0))) (.block 1 (rT [m1 14 6, m1 15 5, m1 16 6, o1 17 (.arith .rem (t1 15) (t1
  16)), m1 5 14, m1 6 17])))
def b_s_share : ACode := (.seq (rF [o1 4 (.alloc [.v (.int .i64 0), .v (.int .i64 0)])]) (.seq (.seq (rF [m1 7 1, o1 8 (.arith .eql (t1 7) (i1 0))]) (.cond (t1 8) (.seq (rF [o1 9 (.build [.v (.int
  .i64 0), .v (.int .i64 0)] [(0, (1, (i1 0))), (1, (1, (i1 1)))]), ⟨none, none, (.store 2 (t1 4) (t1 9))⟩]) .ret) .skip)) (.seq (rF [m1 10 0, m1 11 1, m1 5 10, m1 6 11]) (.seq (.block 0 (.loop
  b_s_share_l0)) b_s_share_r0))))
abbrev k_s_share_0 : List K := [.blk 0, .c b_s_share_r0]
abbrev f_s_share := finF [(.cell true 2 4)] false
def c_s_share : AFn := .code 2 25 b_s_share [(.cell true 2 4)] false
-- 42
def b_strings_splitSeq : ACode := (.seq (rF [o1 3 (.box 1 (t1 0)), o1 4 (.box 1 (t1 1)), o1 5 (.box 1 (t1 2)), o1 6 (.move (.const (.v .nilFunc)))]) (.seq (rF [o1 7 (.mkFn 68 [] [t1 4, t1 3, t1 5]),
  m1 6 7]) .ret))
abbrev f_strings_splitSeq := finF [(.tmp 6)] false
def c_strings_splitSeq : AFn := .code 3 8 b_strings_splitSeq [(.tmp 6)] false
-- 46
def b_z_Index_bool_r0 : ACode := (.seq (rF [o1 4 (.move (i1 (-1)))]) .ret)
def b_z_Index_bool_l0 : ACode := (.seq (rF [o1 9 (.arith .lss (t1 8) (t1 7))]) (.seq (.cond (t1 9) .skip (.exit 0)) (.seq (.block 1 (.seq (rF [m1 10 8, m1 5 10]) (.seq (rF [m1 11 1, m1 12 0, m1 13 5,
  o1 14 (.indexAddr none 1 (t1 12) (t1 13)), lF 15 1 14, o1 16 (.eqv false .bool (t1 11) (t1 15))]) (.cond (t1 16) (.seq (rF [m1 17 5, m1 4 17]) .ret) .skip)))) (rF [o1 18 (.arith .add (t1 8) (i1 1)),
  m1 8 18]))))
def b_z_Index_bool : ACode := (.seq (rF [o1 4 (.move (i1 0))]) (.seq (.seq (rF [m1 6 0, o1 7 (.len false (t1 6)), o1 8 (.move (i1 0))]) (.block 0 (.loop b_z_Index_bool_l0))) b_z_Index_bool_r0))
abbrev k_z_Index_bool_0 : List K := [.blk 0, .c b_z_Index_bool_r0]
abbrev f_z_Index_bool := finF [(.tmp 4)] false
def c_z_Index_bool : AFn := .code 2 19 b_z_Index_bool [(.tmp 4)] false
-- 47
def b_r_number : ACode := (.seq (rF [o1 2 (.move (i1 0)), o1 3 (.move (.const (.v (.bool false))))]) (.seq (rF [m1 7 0, o1 8 (.call false 76 [t1 7, i1 4]), m1 6 8, o1 9 (.extract 0 (t1 6)), o1 10
  (.extract 1 (t1 6)), m1 4 9, m1 5 10]) (.seq (rF [m1 11 4, m1 12 5, m1 13 12, gT 14 13 (.move (t1 4)), gT 15 13 (.arith .geq (t1 14) (i1 0)), o1 16 (.pick (t1 13) (t1 15) (.const (.v (.bool
  false)))), m1 2 11, m1 3 16]) .ret)))
abbrev f_r_number := finF [(.tmp 2), (.tmp 3)] false
def c_r_number : AFn := .code 1 17 b_r_number [(.tmp 2), (.tmp 3)] false
-- 48
def b_b_Size : ACode := (.seq (rF [o1 2 (.move (i1 0))]) (.seq (rF [m1 3 0, m1 4 0, o1 5 (.un .neg (t1 4)), o1 6 (.minmax true [t1 3, t1 5]), m1 2 6]) .ret))
abbrev f_b_Size := finF [(.tmp 2)] false
def c_b_Size : AFn := .code 1 7 b_b_Size [(.tmp 2)] false
-- 49
def b_b_Before_r0 : ACode := (.seq (rF [m1 36 0, o1 37 (.len false (t1 36)), m1 38 1, o1 39 (.len false (t1 38)), o1 40 (.arith .lss (t1 37) (t1 39)), m1 4 40]) .ret)
def b_b_Before_l0 : ACode := (.seq (.seq (rF [m1 6 5, m1 7 0, o1 8 (.len false (t1 7)), o1 9 (.arith .lss (t1 6) (t1 8)), m1 10 9, gT 11 10 (.move (t1 5)), gT 12 10 (.move (t1 1)), gT 13 10 (.len
  false (t1 12)), gT 14 10 (.arith .lss (t1 11) (t1 13)), o1 15 (.pick (t1 10) (t1 14) (.const (.v (.bool false))))]) (.cond (t1 15) .skip (.exit 0))) (.seq (.block 1 (.seq (rT [m1 18 0, m1 19 5, o1
  20 (.indexAddr none 1 (t1 18) (t1 19)), lF 21 1 20, m1 22 1, m1 23 5, o1 24 (.indexAddr none 1 (t1 22) (t1 23)), lF 25 1 24, o1 26 (.arith .neq (t1 21) (t1 25))]) (.cond (t1 26) (.seq (rT [m1 27 0,
  m1 28 5, o1 29 (.indexAddr none 1 (t1 27) (t1 28)), lF 30 1 29, m1 31 1, m1 32 5, o1 33 (.indexAddr none 1 (t1 31) (t1 32)), lF 34 1 33, o1 35 (.arith .lss (t1 30) (t1 34)), m1 4 35]) .ret) .skip)))
  (rF [m1 16 5, o1 17 (.arith .add (t1 16) (i1 1)), m1 5 17])))
def b_b_Before : ACode := (.seq (rF [o1 4 (.move (.const (.v (.bool false))))]) (.seq (.seq (rF [o1 5 (.move (i1 0))]) (.block 0 (.loop b_b_Before_l0))) b_b_Before_r0))
abbrev k_b_Before_0 : List K := [.blk 0, .c b_b_Before_r0]
abbrev f_b_Before := finF [(.tmp 4)] false
def c_b_Before : AFn := .code 2 41 b_b_Before [(.tmp 4)] false
-- 50
def b_r_CheckWeek_r0 : ACode := (.seq (rF [o1 58 (.build [.v (.int .i64 0), .v (.int .i64 0)] []), ⟨none, none, (.store 2 (t1 2) (t1 58))⟩, o1 3 (.move (i1 0))]) .ret)
def b_r_CheckWeek_l0 : ACode := (.seq (.seq (rF [m1 39 6, fA 40 2 1, lF 41 1 40, o1 42 (.len false (t1 41)), o1 43 (.arith .lss (t1 39) (t1 42))]) (.cond (t1 43) .skip (.exit 2))) (.seq (.block 3
  (.seq (rT [lT 46 3 1, fA 47 2 1, lF 48 1 47, m1 49 6, o1 50 (.indexAddr none 7 (t1 48) (t1 49)), lT 51 7 50, o1 52 (.call false 79 [t1 46, t1 51]), m1 7 52]) (.seq (rF [m1 53 7, o1 54 (.arith .neq
  (t1 53) (i1 0))]) (.cond (t1 54) (.seq (rF [m1 55 6, o1 56 (.build [.v (.int .i64 0), .v (.int .i64 0)] [(0, (1, (i1 2))), (1, (1, (t1 55)))]), m1 57 7, ⟨none, none, (.store 2 (t1 2) (t1 56))⟩, m1 3
  57]) .ret) .skip)))) (rF [m1 44 6, o1 45 (.arith .add (t1 44) (i1 1)), m1 6 45])))
def b_r_CheckWeek_r1 : ACode := (.seq (.seq (rF [o1 6 (.move (i1 0))]) (.block 2 (.loop b_r_CheckWeek_l0))) b_r_CheckWeek_r0)
def b_r_CheckWeek_l1 : ACode := (.seq (.seq (rF [m1 24 4, fA 25 1 1, lF 26 1 25, o1 27 (.len false (t1 26)), o1 28 (.arith .lss (t1 24) (t1 27))]) (.cond (t1 28) .skip (.exit 0))) (.seq (.block 1
  (.seq (rF [lT 31 3 1, m1 32 4, o1 33 (.call false 78 [t1 31, t1 32]), m1 5 33]) (.seq (rF [m1 34 5, o1 35 (.arith .neq (t1 34) (i1 0))]) (.cond (t1 35) (.seq (rF [m1 36 4, o1 37 (.build [.v (.int
  .i64 0), .v (.int .i64 0)] [(0, (1, (i1 1))), (1, (1, (t1 36)))]), m1 38 5, ⟨none, none, (.store 2 (t1 2) (t1 37))⟩, m1 3 38]) .ret) .skip)))) (rF [m1 29 4, o1 30 (.arith .add (t1 29) (i1 1)), m1 4
  30])))
def b_r_CheckWeek : ACode := (.seq (rF [o1 1 (.box 3 (t1 0)), o1 2 (.alloc [.v (.int .i64 0), .v (.int .i64 0)]), o1 3 (.move (i1 0))]) (.seq (.seq (rF [fA 8 0 1, lF 9 1 8, o1 10 (.call false 77 [t1
  9, i1 1, i1 200]), o1 11 (.un .not (t1 10))]) (.cond (t1 11) (.seq (rF [o1 12 (.build [.v (.int .i64 0), .v (.int .i64 0)] []), ⟨none, none, (.store 2 (t1 2) (t1 12))⟩, o1 3 (.move (i1 2))]) .ret)
  .skip)) (.seq (.seq (rF [fA 13 1 1, lF 14 1 13, o1 15 (.len false (t1 14)), o1 16 (.arith .gtr (t1 15) (i1 4)), m1 17 16, gF 18 17 (.fieldAddr 2 (t1 1)), gF 19 17 (.load false 1 (t1 18)), gF 20 17
  (.len false (t1 19)), gF 21 17 (.arith .gtr (t1 20) (i1 12)), o1 22 (.pick (t1 17) (.const (.v (.bool true))) (t1 21))]) (.cond (t1 22) (.seq (rF [o1 23 (.build [.v (.int .i64 0), .v (.int .i64 0)]
  []), ⟨none, none, (.store 2 (t1 2) (t1 23))⟩, o1 3 (.move (i1 8))]) .ret) .skip)) (.seq (.seq (rF [o1 4 (.move (i1 0))]) (.block 0 (.loop b_r_CheckWeek_l1))) b_r_CheckWeek_r1))))
abbrev k_r_CheckWeek_0 : List K := [.blk 2, .c b_r_CheckWeek_r0]
abbrev k_r_CheckWeek_1 : List K := [.blk 0, .c b_r_CheckWeek_r1]
abbrev f_r_CheckWeek := finF [(.cell true 2 2), (.tmp 3)] false
def c_r_CheckWeek : AFn := .code 1 59 b_r_CheckWeek [(.cell true 2 2), (.tmp 3)] false
-- 51
def b_r_passErr_r0 : ACode := (.seq (rF [o1 6 (.move (i1 0))]) .ret)
def b_r_passErr_l0 : ACode := (.seq (.seq (rF [m1 97 10, m1 98 2, o1 99 (.arith .lss (t1 97) (t1 98))]) (.cond (t1 99) .skip (.exit 2))) (.seq (.block 3 (.seq (rT [lT 102 3 3, lT 103 3 7, m1 104 1, m1
  105 10, o1 106 (.indexAddr none 3 (t1 104) (t1 105)), lT 107 3 106, o1 108 (.call false 82 [t1 102, t1 103, t1 107])]) (.cond (t1 108) (.seq (rF [o1 6 (.move (i1 13))]) .ret) .skip))) (rF [m1 100
  10, o1 101 (.arith .add (t1 100) (i1 1)), m1 10 101])))
def b_r_passErr_r1 : ACode := (.seq (.seq (rF [lT 94 3 3, lT 95 3 7, o1 96 (.call false 81 [t1 94, t1 95])]) (.cond (t1 96) (.seq (rF [o1 6 (.move (i1 21))]) .ret) .skip)) (.seq (.seq (rF [o1 10
  (.move (i1 0))]) (.block 2 (.loop b_r_passErr_l0))) b_r_passErr_r0))
def b_r_passErr_l1 : ACode := (.seq (.seq (rF [m1 62 9, fA 63 2 7, lF 64 1 63, o1 65 (.len false (t1 64)), o1 66 (.arith .lss (t1 62) (t1 65))]) (.cond (t1 66) .skip (.exit 0))) (.seq (.block 1 (.seq
  (.seq (rT [fA 69 5 8, lF 70 1 69, fA 71 2 7, lF 72 1 71, m1 73 9, o1 74 (.indexAddr none 1 (t1 72) (t1 73)), lF 75 1 74, o1 76 (.call false 80 [t1 70, t1 75]), o1 77 (.un .not (t1 76))]) (.cond (t1
  77) (.seq (rF [o1 6 (.move (i1 6))]) .ret) .skip)) (.seq (rT [m1 78 9, o1 79 (.arith .gtr (t1 78) (i1 0)), m1 80 79, gT 81 80 (.fieldAddr 2 (t1 7)), gT 82 80 (.load false 1 (t1 81)), gT 83 80 (.move
  (t1 9)), gT 84 80 (.indexAddr none 1 (t1 82) (t1 83)), gT 85 80 (.load false 1 (t1 84)), gT 86 80 (.fieldAddr 2 (t1 7)), gT 87 80 (.load false 1 (t1 86)), gT 88 80 (.move (t1 9)), gT 89 80 (.arith
  .sub (t1 88) (i1 1)), gT 90 80 (.indexAddr none 1 (t1 87) (t1 89)), gT 91 80 (.load false 1 (t1 90)), gT 92 80 (.arith .leq (t1 85) (t1 91)), o1 93 (.pick (t1 80) (t1 92) (.const (.v (.bool
  false))))]) (.cond (t1 93) (.seq (rF [o1 6 (.move (i1 9))]) .ret) .skip)))) (rF [m1 67 9, o1 68 (.arith .add (t1 67) (i1 1)), m1 9 68])))
def b_r_passErr : ACode := (.seq (rF [o1 3 (.box 3 (t1 0)), o1 6 (.move (i1 0))]) (.seq (rF [m1 11 1, m1 12 2, o1 13 (.indexAddr none 3 (t1 11) (t1 12)), lT 14 3 13, o1 7 (.alloc [.v (.int .i64 0), .v
  (.int .i64 0), .slice .nilS 0 []]), ⟨none, none, (.store 3 (t1 7) (t1 14))⟩]) (.seq (.seq (rF [fA 15 0 7, lF 16 1 15, fA 17 2 3, lF 18 1 17, o1 19 (.len false (t1 18)), o1 20 (.arith .sub (t1 19)
  (i1 1)), o1 21 (.call false 77 [t1 16, i1 0, t1 20]), o1 22 (.un .not (t1 21))]) (.cond (t1 22) (.seq (rF [o1 6 (.move (i1 6))]) .ret) .skip)) (.seq (.seq (rT [m1 23 2, o1 24 (.arith .gtr (t1 23)
  (i1 0)), m1 25 24, gT 26 25 (.fieldAddr 0 (t1 7)), gT 27 25 (.load false 1 (t1 26)), gT 28 25 (.move (t1 1)), gT 29 25 (.move (t1 2)), gT 30 25 (.arith .sub (t1 29) (i1 1)), gT 31 25 (.indexAddr
  none 3 (t1 28) (t1 30)), gT 32 25 (.fieldAddr 0 (t1 31)), gT 33 25 (.load false 1 (t1 32)), gT 34 25 (.arith .leq (t1 27) (t1 33)), o1 35 (.pick (t1 25) (t1 34) (.const (.v (.bool false))))]) (.cond
  (t1 35) (.seq (rF [o1 6 (.move (i1 9))]) .ret) .skip)) (.seq (rF [fA 36 2 3, lF 37 1 36, fA 38 0 7, lF 39 1 38, o1 40 (.indexAddr none 7 (t1 37) (t1 39)), lT 41 7 40, o1 8 (.alloc [.v (.string
  ⟨#[]⟩), .v (.int .i64 0), .v (.int .i64 0), .v (.int .i64 0), .v (.int .i64 0), .slice .nilS 0 [], .v (.int .i64 0)]), ⟨none, none, (.store 7 (t1 8) (t1 41))⟩]) (.seq (.seq (rF [fA 42 1 7, lF 43 1
  42, fA 44 1 8, fA 45 0 44, lF 46 1 45, fA 47 1 8, fA 48 1 47, lF 49 1 48, fA 50 3 8, lF 51 1 50, o1 52 (.arith .sub (t1 49) (t1 51)), o1 53 (.arith .add (t1 52) (i1 1)), o1 54 (.call false 77 [t1
  43, t1 46, t1 53]), o1 55 (.un .not (t1 54))]) (.cond (t1 55) (.seq (rF [o1 6 (.move (i1 2))]) .ret) .skip)) (.seq (.seq (rF [fA 56 2 7, lF 57 1 56, o1 58 (.len false (t1 57)), fA 59 6 8, lF 60 1
  59, o1 61 (.arith .neq (t1 58) (t1 60))]) (.cond (t1 61) (.seq (rF [o1 6 (.move (i1 10))]) .ret) .skip)) (.seq (.seq (rF [o1 9 (.move (i1 0))]) (.block 0 (.loop b_r_passErr_l1)))
  b_r_passErr_r1))))))))
abbrev k_r_passErr_0 : List K := [.blk 2, .c b_r_passErr_r0]
abbrev k_r_passErr_1 : List K := [.blk 0, .c b_r_passErr_r1]
abbrev f_r_passErr := finF [(.tmp 6)] false
def c_r_passErr : AFn := .code 3 109 b_r_passErr [(.tmp 6)] false
-- 52
def b_s_open_r0 : ACode := (.seq (rF [m1 55 6, m1 2 55, o1 3 (.move (i1 0))]) .ret)
def b_s_open_r1 : ACode := (rF [o1 54 (.arith .add (t1 26) (i1 1)), m1 26 54])
def b_s_open_r2 : ACode := (rF [o1 53 (.arith .add (t1 34) (i1 1)), m1 34 53])
def b_s_open_l2 : ACode := (.seq (.seq (rF [m1 40 11, fA 41 1 10, lF 42 1 41, o1 43 (.arith .leq (t1 40) (t1 42))]) (.cond (t1 43) .skip (.exit 4))) (.seq (.block 5 (rF [m1 46 6, m1 47 7, m1 48 11, o1
  49 (.nilCheck (t1 46)), fA 50 3 49, o1 51 (.indexAddr (some 4) 200 (t1 50) (t1 47)), o1 52 (.indexAddr (some 200) 1 (t1 51) (t1 48)), ⟨none, none, (.store 1 (t1 52) (.const (.v (.bool true))))⟩]))
  (rF [m1 44 11, o1 45 (.arith .add (t1 44) (i1 1)), m1 11 45])))
def b_s_open_l1 : ACode := (.seq (rF [o1 35 (.arith .lss (t1 34) (t1 33))]) (.seq (.cond (t1 35) .skip (.exit 2)) (.seq (.block 3 (.seq (rF [o1 36 (.indexAddr none 2 (t1 32) (t1 34)), lT 37 2 36, o1
  10 (.alloc [.v (.int .i64 0), .v (.int .i64 0)]), ⟨none, none, (.store 2 (t1 10) (t1 37))⟩]) (.seq (rF [fA 38 0 10, lF 39 1 38, m1 11 39]) (.block 4 (.loop b_s_open_l2))))) b_s_open_r2)))
def b_s_open_l0 : ACode := (.seq (rF [o1 27 (.arith .lss (t1 26) (t1 25))]) (.seq (.cond (t1 27) .skip (.exit 0)) (.seq (.block 1 (.seq (rF [m1 28 26, o1 29 (.indexAddr none 3 (t1 24) (t1 26)), lT 30
  3 29, o1 8 (.alloc [.v (.string ⟨#[]⟩), .v (.int .i64 0), .slice .nilS 0 []]), m1 7 28, ⟨none, none, (.store 3 (t1 8) (t1 30))⟩]) (.seq (rF [fA 31 2 8, lF 32 1 31, o1 33 (.len false (t1 32)), o1 34
  (.move (i1 0))]) (.block 2 (.loop b_s_open_l1))))) b_s_open_r1)))
def b_s_open : ACode := (.seq (rF [o1 1 (.box 3 (t1 0)), o1 2 (.move (.const (.v (.pointer none)))), o1 3 (.move (i1 0))]) (.seq (.seq (rF [lT 13 3 1, o1 14 (.call false 83 [t1 13]), m1 12 14, o1 15
  (.extract 0 (t1 12)), o1 16 (.extract 1 (t1 12)), o1 4 (.alloc [.v (.int .i64 0), .v (.int .i64 0)]), ⟨none, none, (.store 2 (t1 4) (t1 15))⟩, m1 5 16]) (.seq (rF [m1 17 5, o1 18 (.arith .neq (t1
  17) (i1 0))]) (.cond (t1 18) (.seq (rF [m1 19 5, o1 2 (.move (.const (.v (.pointer none)))), m1 3 19]) .ret) .skip))) (.seq (rF [lT 20 3 1, (o1 21 (.build ((.v (.int .i64 0)) :: (.slice .nilS 0 [])
  :: (.slice .nilS 0 []) :: zeros 800) [(0, (3, (t1 20)))])), o1 22 (.box 803 (t1 21)), m1 6 22]) (.seq (.seq (rF [fA 23 1 1, lF 24 1 23, o1 25 (.len false (t1 24)), o1 26 (.move (i1 0))]) (.block 0
  (.loop b_s_open_l0))) b_s_open_r0))))
abbrev k_s_open_2 : List K := [.blk 4, .blk 3, .c b_s_open_r2, .lp b_s_open_l1, .blk 2, .blk 1, .c b_s_open_r1, .lp b_s_open_l0, .blk 0, .c b_s_open_r0]
abbrev k_s_open_1 : List K := [.blk 2, .blk 1, .c b_s_open_r1, .lp b_s_open_l0, .blk 0, .c b_s_open_r0]
abbrev k_s_open_0 : List K := [.blk 0, .c b_s_open_r0]
abbrev f_s_open := finF [(.tmp 2), (.tmp 3)] false
def c_s_open : AFn := .code 1 56 b_s_open [(.tmp 2), (.tmp 3)] false
-- 53
def b_s_openSmall_1 : ACode := (.seq (rF [o1 1 (.box 7 (t1 0)), o1 2 (.move (.const (.v (.bool false))))]) (.seq (rF [fA 3 1 1, fA 4 1 3, lF 5 1 4, fA 6 1 1, fA 7 0 6, lF 8 1 7, o1 9 (.arith .sub (t1
  5) (t1 8)), o1 10 (.arith .add (t1 9) (i1 2)), fA 11 3 1, lF 12 1 11, o1 13 (.arith .sub (t1 10) (t1 12)), o1 14 (.arith .gtr (t1 13) (i1 8)), m1 2 14]) .ret))
abbrev f_s_openSmall_1 := finF [(.tmp 2)] false
def c_s_openSmall_1 : AFn := .code 1 15 b_s_openSmall_1 [(.tmp 2)] false
-- 54
def b_z_ContainsFunc_ScheduleRequest : ACode := (.seq (rF [o1 4 (.move (.const (.v (.bool false))))]) (.seq (rF [m1 5 0, m1 6 1, o1 7 (.call false 84 [t1 5, t1 6]), o1 8 (.arith .geq (t1 7) (i1 0)),
  m1 4 8]) .ret))
abbrev f_z_ContainsFunc_ScheduleRequest := finF [(.tmp 4)] false
def c_z_ContainsFunc_ScheduleRequest : AFn := .code 2 9 b_z_ContainsFunc_ScheduleRequest [(.tmp 4)] false
-- 55
def b_s_unless : ACode := (.seq (rF [o1 4 (.move (i1 0))]) (.seq (.seq (rF [m1 5 0]) (.cond (t1 5) (.seq (rF [o1 4 (.move (i1 0))]) .ret) .skip)) (.seq (rF [m1 6 1, m1 4 6]) .ret)))
abbrev f_s_unless := finF [(.tmp 4)] false
def c_s_unless : AFn := .code 2 7 b_s_unless [(.tmp 4)] false
-- 56
def b_w_placements_r0 : ACode := (.seq (rF [lF 22 1 7, m1 6 22]) .ret)
def b_w_placements_y0 : ACode := (.block 1 (.seq (rF [lF 13 1 3, lT 14 3 8, lF 15 1 4, o1 16 (.call false 86 [t1 13, t1 14, t1 15]), o1 17 (.un .not (t1 16))]) (.cond (t1 17) (rF [lF 18 1 7, lT 19 3
  8, o1 20 (.buildSlice 3 [[.v (.int .i64 0), .v (.int .i64 0), .slice .nilS 0 []]] [(0, (t1 19))]), o1 21 (.append 3 (t1 18) (t1 20)), ⟨none, none, (.store 1 (t1 7) (t1 21))⟩]) .skip)))
def b_w_placements_a0 : ACode := (rF [o1 8 (.alloc [.v (.int .i64 0), .v (.int .i64 0), .slice .nilS 0 []]), ⟨none, none, (.store 3 (t1 8) (t1 12))⟩])
def b_w_placements : ACode := (.seq (rF [o1 3 (.box 1 (t1 0)), o1 4 (.box 1 (t1 1)), o1 6 (.move (.const (.slice .nilS 0 [])))]) (.seq (rF [o1 7 (.alloc [.slice .nilS 0 []])]) (.seq (.seq (rF [lF 9 1
  3, m1 10 2, o1 11 (.call false 85 [t1 9, t1 10])]) (.block 0 (.rangeFunc (t1 11) [12] b_w_placements_a0 b_w_placements_y0))) b_w_placements_r0)))
abbrev k_w_placements_0 : List K := [.blk 0, .c b_w_placements_r0]
abbrev f_w_placements := finF [(.tmp 6)] false
def c_w_placements : AFn := .code 3 23 b_w_placements [(.tmp 6)] false
-- 57
def b_c_worth_r0 : ACode := (.seq (rF [m1 28 5, m1 4 28]) .ret)
def b_c_worth_l0 : ACode := (.seq (rF [o1 12 (.arith .lss (t1 11) (t1 10))]) (.seq (.cond (t1 12) .skip (.exit 0)) (.seq (.block 1 (.seq (rF [o1 13 (.indexAddr none 1 (t1 9) (t1 11)), lF 14 1 13, m1 7
  14]) (rF [m1 15 5, fA 16 0 2, lF 17 1 16, o1 18 (.nilCheck (t1 17)), fA 19 0 18, fA 20 2 19, lF 21 1 20, m1 22 7, o1 23 (.indexAddr none 7 (t1 21) (t1 22)), fA 24 4 23, lF 25 1 24, o1 26 (.arith
  .add (t1 15) (t1 25)), m1 5 26]))) (rF [o1 27 (.arith .add (t1 11) (i1 1)), m1 11 27]))))
def b_c_worth : ACode := (.seq (rF [o1 2 (.box 2 (t1 0)), o1 4 (.move (i1 0))]) (.seq (rF [o1 5 (.move (i1 0))]) (.seq (.seq (rF [m1 8 1, o1 9 (.call false 87 [t1 8]), o1 10 (.len false (t1 9)), o1 11
  (.move (i1 0))]) (.block 0 (.loop b_c_worth_l0))) b_c_worth_r0)))
abbrev k_c_worth_0 : List K := [.blk 0, .c b_c_worth_r0]
abbrev f_c_worth := finF [(.tmp 4)] false
def c_c_worth : AFn := .code 2 29 b_c_worth [(.tmp 4)] false
-- 58
def b_c_isPermitted_r0 : ACode := (.seq (rF [o1 4 (.move (.const (.v (.bool true))))]) .ret)
def b_c_isPermitted_l0 : ACode := (.seq (rF [o1 11 (.arith .lss (t1 10) (t1 9))]) (.seq (.cond (t1 11) .skip (.exit 0)) (.seq (.block 1 (.seq (rF [m1 12 10, o1 13 (.indexAddr none 2 (t1 8) (t1 10)),
  lT 14 2 13, o1 6 (.alloc [.slice .nilS 0 [], .v (.bool false)]), m1 5 12, ⟨none, none, (.store 2 (t1 6) (t1 14))⟩]) (.seq (rF [fA 15 1 6, lF 16 1 15, o1 17 (.un .not (t1 16)), m1 18 17, gT 19 18
  (.move (t1 1)), gT 20 18 (.move (t1 5)), gT 21 18 (.arith .shr (t1 19) (t1 20)), gT 22 18 (.arith .and (t1 21) (i1 1)), gT 23 18 (.arith .eql (t1 22) (i1 0)), o1 24 (.pick (t1 18) (t1 23) (.const
  (.v (.bool false))))]) (.cond (t1 24) (.seq (rF [o1 4 (.move (.const (.v (.bool false))))]) .ret) .skip)))) (rF [o1 25 (.arith .add (t1 10) (i1 1)), m1 10 25]))))
def b_c_isPermitted : ACode := (.seq (rF [o1 2 (.box 2 (t1 0)), o1 4 (.move (.const (.v (.bool false))))]) (.seq (.seq (rF [fA 7 1 2, lF 8 1 7, o1 9 (.len false (t1 8)), o1 10 (.move (i1 0))]) (.block
  0 (.loop b_c_isPermitted_l0))) b_c_isPermitted_r0))
abbrev k_c_isPermitted_0 : List K := [.blk 0, .c b_c_isPermitted_r0]
abbrev f_c_isPermitted := finF [(.tmp 4)] false
def c_c_isPermitted : AFn := .code 2 26 b_c_isPermitted [(.tmp 4)] false
-- 59
def b_c_fits_r0 : ACode := (.seq (rF [fA 52 0 3, lF 53 1 52, m1 54 7, o1 55 (.call false 89 [t1 53, t1 54]), m1 6 55]) .ret)
def b_c_fits_r1 : ACode := (rF [o1 51 (.arith .add (t1 18) (i1 1)), m1 18 51])
def b_c_fits_r2 : ACode := (rF [m1 47 7, m1 48 12, o1 49 (.buildSlice 1 [[.slice .nilS 0 []]] [(0, (t1 48))]), o1 50 (.append 1 (t1 47) (t1 49)), m1 7 50])
def b_c_fits_l1 : ACode := (.seq (rF [o1 38 (.arith .lss (t1 37) (t1 36))]) (.seq (.cond (t1 38) .skip (.exit 2)) (.seq (.block 3 (.seq (rF [o1 39 (.indexAddr none 3 (t1 35) (t1 37)), lT 40 3 39, o1
  14 (.alloc [.v (.int .i64 0), .v (.int .i64 0), .slice .nilS 0 []]), ⟨none, none, (.store 3 (t1 14) (t1 40))⟩]) (rF [fA 41 0 3, lF 42 1 41, m1 43 12, lT 44 3 14, o1 45 (.call false 88 [t1 42, t1 43,
  t1 44]), m1 12 45]))) (rF [o1 46 (.arith .add (t1 37) (i1 1)), m1 37 46]))))
def b_c_fits_l0 : ACode := (.seq (rF [o1 19 (.arith .lss (t1 18) (t1 17))]) (.seq (.cond (t1 19) .skip (.exit 0)) (.seq (.block 1 (.seq (rF [o1 20 (.indexAddr none 1 (t1 16) (t1 18)), lF 21 1 20, m1 9
  21]) (.seq (.seq (rF [m1 23 1, m1 24 9, o1 25 (.call false 36 [t1 23, t1 24]), m1 22 25, o1 26 (.extract 0 (t1 22)), o1 27 (.extract 1 (t1 22)), o1 10 (.alloc [.v (.int .i64 0), .v (.int .i64 0),
  .slice .nilS 0 []]), ⟨none, none, (.store 3 (t1 10) (t1 26))⟩, m1 11 27]) (.seq (rF [m1 28 11]) (.cond (t1 28) (.exit 1) .skip))) (.seq (rF [fA 29 1 3, lF 30 1 29, m1 31 9, o1 32 (.indexAddr none 2
  (t1 30) (t1 31)), fA 33 0 32, lF 34 1 33, m1 12 34]) (.seq (.seq (rF [m1 35 1, o1 36 (.len false (t1 35)), o1 37 (.move (i1 0))]) (.block 2 (.loop b_c_fits_l1))) b_c_fits_r2))))) b_c_fits_r1)))
def b_c_fits : ACode := (.seq (rF [o1 3 (.box 2 (t1 0)), o1 6 (.move (.const (.v (.bool false))))]) (.seq (rF [o1 7 (.move (.const (.slice .nilS 0 [])))]) (.seq (.seq (rF [m1 15 2, o1 16 (.call false
  87 [t1 15]), o1 17 (.len false (t1 16)), o1 18 (.move (i1 0))]) (.block 0 (.loop b_c_fits_l0))) b_c_fits_r0)))
abbrev k_c_fits_1 : List K := [.blk 2, .c b_c_fits_r2, .blk 1, .c b_c_fits_r1, .lp b_c_fits_l0, .blk 0, .c b_c_fits_r0]
abbrev k_c_fits_0 : List K := [.blk 0, .c b_c_fits_r0]
abbrev f_c_fits := finF [(.tmp 6)] false
def c_c_fits : AFn := .code 3 56 b_c_fits [(.tmp 6)] false
-- 60
def b_z_Contains_int : ACode := (.seq (rF [o1 4 (.move (.const (.v (.bool false))))]) (.seq (rF [m1 5 0, m1 6 1, o1 7 (.call false 90 [t1 5, t1 6]), o1 8 (.arith .geq (t1 7) (i1 0)), m1 4 8]) .ret))
abbrev f_z_Contains_int := finF [(.tmp 4)] false
def c_z_Contains_int : AFn := .code 2 9 b_z_Contains_int [(.tmp 4)] false
-- 61
def b_c_next_r0 : ACode := (.seq (rF [o1 84 (.build [.v (.int .i64 0), .v (.int .i64 0), .slice .nilS 0 []] []), ⟨none, none, (.store 3 (t1 8) (t1 84))⟩, o1 9 (.move (.const (.v (.bool false))))])
  .ret)
def b_c_next_r1 : ACode := (rF [m1 35 12, o1 36 (.arith .add (t1 35) (i1 1)), m1 12 36])
def b_c_next_r2 : ACode := (rF [o1 83 (.arith .add (t1 44) (i1 1)), m1 44 83])
def b_c_next_l2 : ACode := (.seq (rF [o1 61 (.arith .lss (t1 60) (t1 59))]) (.seq (.cond (t1 61) .skip (.exit 4)) (.seq (.block 5 (.seq (rF [o1 62 (.indexAddr none 1 (t1 58) (t1 60)), lF 63 1 62, m1
  17 63]) (.seq (rT [m1 64 17, m1 65 12, o1 66 (.arith .add (t1 65) (i1 1)), o1 67 (.arith .shl (i1 1) (t1 66)), o1 68 (.arith .sub (t1 67) (i1 1)), o1 69 (.arith .and (t1 64) (t1 68)), m1 70 2, m1 71
  12, o1 72 (.arith .shl (i1 1) (t1 71)), o1 73 (.arith .or (t1 70) (t1 72)), o1 74 (.arith .eql (t1 69) (t1 73)), m1 75 74, gT 76 75 (.load true 2 (t1 4)), gT 77 75 (.move (t1 15)), gT 78 75 (.move
  (t1 17)), gT 79 75 (.call false 59 [t1 76, t1 77, t1 78]), o1 80 (.pick (t1 75) (t1 79) (.const (.v (.bool false))))]) (.cond (t1 80) (.seq (rF [lT 81 3 14, ⟨none, none, (.store 3 (t1 8) (t1 81))⟩,
  o1 9 (.move (.const (.v (.bool true))))]) .ret) .skip)))) (rF [o1 82 (.arith .add (t1 60) (i1 1)), m1 60 82]))))
def b_c_next_l1 : ACode := (.seq (rF [o1 45 (.arith .lss (t1 44) (t1 43))]) (.seq (.cond (t1 45) .skip (.exit 2)) (.seq (.block 3 (.seq (rF [o1 46 (.indexAddr none 3 (t1 42) (t1 44)), lT 47 3 46, o1
  14 (.alloc [.v (.int .i64 0), .v (.int .i64 0), .slice .nilS 0 []]), ⟨none, none, (.store 3 (t1 14) (t1 47))⟩]) (.seq (.seq (rF [fA 48 0 4, lF 49 1 48, lT 50 3 14, m1 51 1, o1 52 (.call false 86 [t1
  49, t1 50, t1 51])]) (.cond (t1 52) (.exit 3) .skip)) (.seq (rT [m1 53 1, o1 54 (.callo 91 [t1 53]), lT 55 3 14, o1 56 (.buildSlice 3 [[.v (.int .i64 0), .v (.int .i64 0), .slice .nilS 0 []]] [(0,
  (t1 55))]), o1 57 (.append 3 (t1 54) (t1 56)), m1 15 57]) (.seq (rF [m1 58 3, o1 59 (.len false (t1 58)), o1 60 (.move (i1 0))]) (.block 4 (.loop b_c_next_l2))))))) b_c_next_r2)))
def b_c_next_l0 : ACode := (.seq (.seq (rF [m1 30 12, fA 31 1 4, lF 32 1 31, o1 33 (.len false (t1 32)), o1 34 (.arith .lss (t1 30) (t1 33))]) (.cond (t1 34) .skip (.exit 0))) (.seq (.block 1 (.seq
  (rF [fA 37 1 4, lF 38 1 37, m1 39 12, o1 40 (.indexAddr none 2 (t1 38) (t1 39)), fA 41 0 40, lF 42 1 41, o1 43 (.len false (t1 42)), o1 44 (.move (i1 0))]) (.block 2 (.loop b_c_next_l1))))
  b_c_next_r1))
def b_c_next : ACode := (.seq (rF [o1 4 (.box 2 (t1 0)), o1 8 (.alloc [.v (.int .i64 0), .v (.int .i64 0), .slice .nilS 0 []]), o1 9 (.move (.const (.v (.bool false))))]) (.seq (rF [o1 10 (.move (i1
  0))]) (.seq (.seq (rF [m1 18 1, o1 19 (.len false (t1 18)), m1 11 19]) (.seq (rF [m1 20 11, o1 21 (.arith .gtr (t1 20) (i1 0))]) (.cond (t1 21) (rF [m1 22 1, m1 23 11, o1 24 (.arith .sub (t1 23) (i1
  1)), o1 25 (.indexAddr none 3 (t1 22) (t1 24)), fA 26 0 25, lF 27 1 26, o1 28 (.arith .add (t1 27) (i1 1)), m1 10 28]) .skip))) (.seq (.seq (rF [m1 29 10, m1 12 29]) (.block 0 (.loop b_c_next_l0)))
  b_c_next_r0))))
abbrev k_c_next_2 : List K := [.blk 4, .blk 3, .c b_c_next_r2, .lp b_c_next_l1, .blk 2, .blk 1, .c b_c_next_r1, .lp b_c_next_l0, .blk 0, .c b_c_next_r0]
abbrev k_c_next_1 : List K := [.blk 2, .blk 1, .c b_c_next_r1, .lp b_c_next_l0, .blk 0, .c b_c_next_r0]
abbrev k_c_next_0 : List K := [.blk 0, .c b_c_next_r0]
abbrev f_c_next := finF [(.cell true 3 8), (.tmp 9)] false
def c_c_next : AFn := .code 4 85 b_c_next [(.cell true 3 8), (.tmp 9)] false
-- 62
def b_w_check_r0 : ACode := (.seq (rF [o1 4 (.move (i1 0)), o1 5 (.move (i1 0))]) .ret)
def b_w_check_l0 : ACode := (.seq (rF [o1 12 (.arith .lss (t1 11) (t1 10))]) (.seq (.cond (t1 12) .skip (.exit 0)) (.seq (.block 1 (.seq (rF [m1 13 11, o1 14 (.indexAddr none 3 (t1 9) (t1 11)), lT 15
  3 14, o1 7 (.alloc [.v (.int .i64 0), .v (.int .i64 0), .slice .nilS 0 []]), m1 6 13, ⟨none, none, (.store 3 (t1 7) (t1 15))⟩]) (.seq (rT [m1 16 0, lT 17 3 7, m1 18 1, m1 19 6, o1 20 (.slice (.sl 3)
  (t1 18) none (some (t1 19)) none), o1 21 (.call false 92 [t1 16, t1 17, t1 20]), m1 8 21]) (.seq (rF [m1 22 8, o1 23 (.arith .neq (t1 22) (i1 0))]) (.cond (t1 23) (.seq (rF [m1 24 6, m1 25 8, m1 4
  24, m1 5 25]) .ret) .skip))))) (rF [o1 26 (.arith .add (t1 11) (i1 1)), m1 11 26]))))
def b_w_check : ACode := (.seq (rF [o1 4 (.move (i1 0)), o1 5 (.move (i1 0))]) (.seq (.seq (rF [m1 9 1, o1 10 (.len false (t1 9)), o1 11 (.move (i1 0))]) (.block 0 (.loop b_w_check_l0)))
  b_w_check_r0))
abbrev k_w_check_0 : List K := [.blk 0, .c b_w_check_r0]
abbrev f_w_check := finF [(.tmp 4), (.tmp 5)] false
def c_w_check : AFn := .code 2 27 b_w_check [(.tmp 4), (.tmp 5)] false
-- 63
def b_z_IndexFunc_SchedulePass_r0 : ACode := (.seq (rF [o1 4 (.move (i1 (-1)))]) .ret)
def b_z_IndexFunc_SchedulePass_l0 : ACode := (.seq (rF [o1 9 (.arith .lss (t1 8) (t1 7))]) (.seq (.cond (t1 9) .skip (.exit 0)) (.seq (.block 1 (.seq (rF [m1 10 8, m1 5 10]) (.seq (rF [m1 11 1, m1 12
  0, m1 13 5, o1 14 (.indexAddr none 3 (t1 12) (t1 13)), lT 15 3 14, o1 16 (.callv false (t1 11) [t1 15])]) (.cond (t1 16) (.seq (rF [m1 17 5, m1 4 17]) .ret) .skip)))) (rF [o1 18 (.arith .add (t1 8)
  (i1 1)), m1 8 18]))))
def b_z_IndexFunc_SchedulePass : ACode := (.seq (rF [o1 4 (.move (i1 0))]) (.seq (.seq (rF [m1 6 0, o1 7 (.len false (t1 6)), o1 8 (.move (i1 0))]) (.block 0 (.loop b_z_IndexFunc_SchedulePass_l0)))
  b_z_IndexFunc_SchedulePass_r0))
abbrev k_z_IndexFunc_SchedulePass_0 : List K := [.blk 0, .c b_z_IndexFunc_SchedulePass_r0]
abbrev f_z_IndexFunc_SchedulePass := finF [(.tmp 4)] false
def c_z_IndexFunc_SchedulePass : AFn := .code 2 19 b_z_IndexFunc_SchedulePass [(.tmp 4)] false
-- 64
def b_s_passOf_1 : ACode := (.seq (rF [o1 2 (.box 3 (t1 0)), o1 3 (.move (.const (.v (.bool false))))]) (.seq (rF [fA 4 0 2, lF 5 1 4, lF 6 1 1, o1 7 (.arith .eql (t1 5) (t1 6)), m1 3 7]) .ret))
abbrev f_s_passOf_1 := finF [(.tmp 3)] false
def c_s_passOf_1 : AFn := .code 2 8 b_s_passOf_1 [(.tmp 3)] false
-- 68
def b_strings_splitSeq_1_r0 : ACode := (rF [m1 49 0, lF 50 1 2, o1 51 (.callv false (t1 49) [t1 50])])
def b_strings_splitSeq_1_l0 : ACode := (.block 3 (.seq (rF [lF 29 1 2, lF 30 1 1, o1 31 (.call false 70 [t1 29, t1 30]), m1 7 31]) (.seq (.seq (rF [m1 32 7, o1 33 (.arith .lss (t1 32) (i1 0))]) (.cond
  (t1 33) (.exit 2) .skip)) (.seq (rF [lF 34 1 2, m1 35 7, lF 36 1 3, o1 37 (.arith .add (t1 35) (t1 36)), o1 38 (.slice .str (t1 34) none (some (t1 37)) none), m1 8 38]) (.seq (.seq (rF [m1 39 0, m1
  40 8, o1 41 (.callv false (t1 39) [t1 40]), o1 42 (.un .not (t1 41))]) (.cond (t1 42) .ret .skip)) (rF [lF 43 1 2, m1 44 7, lF 45 1 1, o1 46 (.len true (t1 45)), o1 47 (.arith .add (t1 44) (t1 46)),
  o1 48 (.slice .str (t1 43) (some (t1 47)) none none), ⟨none, none, (.store 1 (t1 2) (t1 48))⟩]))))))
def b_strings_splitSeq_1_r1 : ACode := (.seq (.block 2 (.loop b_strings_splitSeq_1_l0)) b_strings_splitSeq_1_r0)
def b_strings_splitSeq_1_r2 : ACode := .ret
def b_strings_splitSeq_1_l1 : ACode := (.seq (.seq (rF [lF 12 1 2, o1 13 (.len true (t1 12)), o1 14 (.arith .gtr (t1 13) (i1 0))]) (.cond (t1 14) .skip (.exit 0))) (.block 1 (.seq (rF [lF 16 1 2, o1
  17 (.call false 69 [t1 16]), m1 15 17, o1 18 (.extract 0 (t1 15)), o1 19 (.extract 1 (t1 15)), m1 5 18, m1 6 19]) (.seq (.seq (rF [m1 20 0, lF 21 1 2, m1 22 6, o1 23 (.slice .str (t1 21) none (some
  (t1 22)) none), o1 24 (.callv false (t1 20) [t1 23]), o1 25 (.un .not (t1 24))]) (.cond (t1 25) .ret .skip)) (rF [lF 26 1 2, m1 27 6, o1 28 (.slice .str (t1 26) (some (t1 27)) none none), ⟨none,
  none, (.store 1 (t1 2) (t1 28))⟩])))))
def b_strings_splitSeq_1 : ACode := (.seq (.seq (rF [lF 9 1 1, o1 10 (.len true (t1 9)), o1 11 (.arith .eql (t1 10) (i1 0))]) (.cond (t1 11) (.seq (.block 0 (.loop b_strings_splitSeq_1_l1))
  b_strings_splitSeq_1_r2) .skip)) b_strings_splitSeq_1_r1)
abbrev k_strings_splitSeq_1_0 : List K := [.blk 2, .c b_strings_splitSeq_1_r0]
abbrev k_strings_splitSeq_1_1 : List K := [.blk 0, .c b_strings_splitSeq_1_r2, .c b_strings_splitSeq_1_r1]
abbrev f_strings_splitSeq_1 := finF [] false
def c_strings_splitSeq_1 : AFn := .code 4 52 b_strings_splitSeq_1 [] false
-- 76
def b_b_Number_r0 : ACode := (.seq (.seq (rF [m1 65 6, o1 66 (.arith .eql (t1 65) (i1 1))]) (.cond (t1 66) (rF [m1 67 7, o1 68 (.un .neg (t1 67)), m1 7 68]) .skip)) (.seq (rF [m1 69 7, m1 4 69, o1 5
  (.move (.const (.v (.bool true))))]) .ret))
def b_b_Number_l0 : ACode := (.seq (.seq (rF [m1 41 8, m1 42 0, o1 43 (.len true (t1 42)), o1 44 (.arith .lss (t1 41) (t1 43))]) (.cond (t1 44) .skip (.exit 0))) (.seq (.block 1 (.seq (.seq (rF [m1 47
  0, m1 48 8, o1 49 (.indexStr (t1 47) (t1 48)), o1 50 (.arith .lss (t1 49) (.const (.v (.int .u8 48)))), m1 51 50, gF 52 51 (.move (t1 0)), gF 53 51 (.move (t1 8)), gF 54 51 (.indexStr (t1 52) (t1
  53)), gF 55 51 (.arith .gtr (t1 54) (.const (.v (.int .u8 57)))), o1 56 (.pick (t1 51) (.const (.v (.bool true))) (t1 55))]) (.cond (t1 56) (.seq (rF [o1 4 (.move (i1 0)), o1 5 (.move (.const (.v
  (.bool false))))]) .ret) .skip)) (rF [m1 57 7, o1 58 (.arith .mul (i1 10) (t1 57)), m1 59 0, m1 60 8, o1 61 (.indexStr (t1 59) (t1 60)), o1 62 (.arith .sub (t1 61) (.const (.v (.int .u8 48)))), o1
  63 (.conv (.int .i64) (t1 62)), o1 64 (.arith .add (t1 58) (t1 63)), m1 7 64]))) (rF [m1 45 8, o1 46 (.arith .add (t1 45) (i1 1)), m1 8 46])))
def b_b_Number : ACode := (.seq (rF [o1 4 (.move (i1 0)), o1 5 (.move (.const (.v (.bool false))))]) (.seq (rF [o1 6 (.move (i1 0))]) (.seq (.seq (rF [m1 9 0, o1 10 (.len true (t1 9)), o1 11 (.arith
  .gtr (t1 10) (i1 0)), m1 12 11, gT 13 12 (.move (t1 0)), gT 14 12 (.indexStr (t1 13) (i1 0)), gT 15 12 (.arith .eql (t1 14) (.const (.v (.int .u8 45)))), o1 16 (.pick (t1 12) (t1 15) (.const (.v
  (.bool false))))]) (.cond (t1 16) (rF [o1 6 (.move (i1 1))]) .skip)) (.seq (.seq (rF [m1 17 0, o1 18 (.len true (t1 17)), m1 19 6, o1 20 (.arith .eql (t1 18) (t1 19)), m1 21 20, gF 22 21 (.move (t1
  0)), gF 23 21 (.len true (t1 22)), gF 24 21 (.move (t1 6)), gF 25 21 (.arith .sub (t1 23) (t1 24)), gF 26 21 (.move (t1 1)), gF 27 21 (.arith .gtr (t1 25) (t1 26)), o1 28 (.pick (t1 21) (.const (.v
  (.bool true))) (t1 27)), m1 29 28, gF 30 29 (.move (t1 0)), gF 31 29 (.move (t1 6)), gF 32 29 (.indexStr (t1 30) (t1 31)), gF 33 29 (.arith .eql (t1 32) (.const (.v (.int .u8 48)))), gF 34 29 (.move
  (t1 33)), gT 35 34 (.move (t1 0)), gT 36 34 (.len true (t1 35)), gT 37 34 (.arith .gtr (t1 36) (i1 1)), gF 38 29 (.pick (t1 34) (t1 37) (.const (.v (.bool false)))), o1 39 (.pick (t1 29) (.const (.v
  (.bool true))) (t1 38))]) (.cond (t1 39) (.seq (rF [o1 4 (.move (i1 0)), o1 5 (.move (.const (.v (.bool false))))]) .ret) .skip)) (.seq (rF [o1 7 (.move (i1 0))]) (.seq (.seq (rF [m1 40 6, m1 8 40])
  (.block 0 (.loop b_b_Number_l0))) b_b_Number_r0))))))
abbrev k_b_Number_0 : List K := [.blk 0, .c b_b_Number_r0]
abbrev f_b_Number := finF [(.tmp 4), (.tmp 5)] false
def c_b_Number : AFn := .code 2 70 b_b_Number [(.tmp 4), (.tmp 5)] false
-- 77
def b_b_Within : ACode := (.seq (rF [o1 6 (.move (.const (.v (.bool false))))]) (.seq (rF [m1 7 1, m1 8 0, o1 9 (.arith .leq (t1 7) (t1 8)), m1 10 9, gT 11 10 (.move (t1 0)), gT 12 10 (.move (t1 2)),
  gT 13 10 (.arith .leq (t1 11) (t1 12)), o1 14 (.pick (t1 10) (t1 13) (.const (.v (.bool false)))), m1 6 14]) .ret))
abbrev f_b_Within := finF [(.tmp 6)] false
def c_b_Within : AFn := .code 3 15 b_b_Within [(.tmp 6)] false
-- 78
def b_r_antennaErr_r0 : ACode := (.seq (rF [o1 4 (.move (i1 0))]) .ret)
def b_r_antennaErr_l0 : ACode := (.seq (.seq (rF [m1 40 7, fA 41 2 5, lF 42 1 41, o1 43 (.len false (t1 42)), o1 44 (.arith .lss (t1 40) (t1 43))]) (.cond (t1 44) .skip (.exit 2))) (.seq (.block 3
  (.seq (rT [lT 47 3 2, fA 48 2 5, lF 49 1 48, m1 50 7, o1 51 (.indexAddr none 2 (t1 49) (t1 50)), lT 52 2 51, o1 53 (.call false 112 [t1 47, t1 52]), m1 8 53]) (.seq (rF [m1 54 8, o1 55 (.arith .neq
  (t1 54) (i1 0))]) (.cond (t1 55) (.seq (rF [m1 56 8, m1 4 56]) .ret) .skip)))) (rF [m1 45 7, o1 46 (.arith .add (t1 45) (i1 1)), m1 7 46])))
def b_r_antennaErr_r1 : ACode := (.seq (.seq (rF [fA 32 1 5, lF 33 1 32, o1 34 (.call false 77 [t1 33, i1 0, i1 50]), o1 35 (.un .not (t1 34))]) (.cond (t1 35) (.seq (rF [o1 4 (.move (i1 2))]) .ret)
  .skip)) (.seq (.seq (rF [fA 36 2 5, lF 37 1 36, o1 38 (.len false (t1 37)), o1 39 (.arith .gtr (t1 38) (i1 6))]) (.cond (t1 39) (.seq (rF [o1 4 (.move (i1 8))]) .ret) .skip)) (.seq (.seq (rF [o1 7
  (.move (i1 0))]) (.block 2 (.loop b_r_antennaErr_l0))) b_r_antennaErr_r0)))
def b_r_antennaErr_l1 : ACode := (.seq (.seq (rF [m1 18 6, m1 19 1, o1 20 (.arith .lss (t1 18) (t1 19))]) (.cond (t1 20) .skip (.exit 0))) (.seq (.block 1 (.seq (rT [fA 23 1 2, lF 24 1 23, m1 25 6, o1
  26 (.indexAddr none 3 (t1 24) (t1 25)), fA 27 0 26, lF 28 1 27, fA 29 0 5, lF 30 1 29, o1 31 (.arith .eql (t1 28) (t1 30))]) (.cond (t1 31) (.seq (rF [o1 4 (.move (i1 5))]) .ret) .skip))) (rF [m1 21
  6, o1 22 (.arith .add (t1 21) (i1 1)), m1 6 22])))
def b_r_antennaErr : ACode := (.seq (rF [o1 2 (.box 3 (t1 0)), o1 4 (.move (i1 0))]) (.seq (rF [fA 9 1 2, lF 10 1 9, m1 11 1, o1 12 (.indexAddr none 3 (t1 10) (t1 11)), lT 13 3 12, o1 5 (.alloc [.v
  (.string ⟨#[]⟩), .v (.int .i64 0), .slice .nilS 0 []]), ⟨none, none, (.store 3 (t1 5) (t1 13))⟩]) (.seq (.seq (rF [fA 14 0 5, lF 15 1 14, o1 16 (.call false 111 [t1 15]), o1 17 (.un .not (t1 16))])
  (.cond (t1 17) (.seq (rF [o1 4 (.move (i1 4))]) .ret) .skip)) (.seq (.seq (rF [o1 6 (.move (i1 0))]) (.block 0 (.loop b_r_antennaErr_l1))) b_r_antennaErr_r1))))
abbrev k_r_antennaErr_0 : List K := [.blk 2, .c b_r_antennaErr_r0]
abbrev k_r_antennaErr_1 : List K := [.blk 0, .c b_r_antennaErr_r1]
abbrev f_r_antennaErr := finF [(.tmp 4)] false
def c_r_antennaErr : AFn := .code 2 57 b_r_antennaErr [(.tmp 4)] false
-- 79
def b_r_requestErr_r0 : ACode := (.seq (.seq (rF [fA 74 6 3, lF 75 1 74, fA 76 5 3, lF 77 1 76, o1 78 (.len false (t1 77)), o1 79 (.call false 77 [t1 75, i1 1, t1 78]), o1 80 (.un .not (t1 79))])
  (.cond (t1 80) (.seq (rF [o1 4 (.move (i1 2))]) .ret) .skip)) (.seq (rF [o1 4 (.move (i1 0))]) .ret))
def b_r_requestErr_l0 : ACode := (.seq (.seq (rF [m1 40 6, fA 41 5 3, lF 42 1 41, o1 43 (.len false (t1 42)), o1 44 (.arith .lss (t1 40) (t1 43))]) (.cond (t1 44) .skip (.exit 0))) (.seq (.block 1
  (.seq (.seq (rT [fA 47 5 3, lF 48 1 47, m1 49 6, o1 50 (.indexAddr none 1 (t1 48) (t1 49)), lF 51 1 50, fA 52 1 2, lF 53 1 52, o1 54 (.len false (t1 53)), o1 55 (.arith .sub (t1 54) (i1 1)), o1 56
  (.call false 77 [t1 51, i1 0, t1 55]), o1 57 (.un .not (t1 56))]) (.cond (t1 57) (.seq (rF [o1 4 (.move (i1 6))]) .ret) .skip)) (.seq (rT [m1 58 6, o1 59 (.arith .gtr (t1 58) (i1 0)), m1 60 59, gT
  61 60 (.fieldAddr 5 (t1 3)), gT 62 60 (.load false 1 (t1 61)), gT 63 60 (.move (t1 6)), gT 64 60 (.indexAddr none 1 (t1 62) (t1 63)), gT 65 60 (.load false 1 (t1 64)), gT 66 60 (.fieldAddr 5 (t1
  3)), gT 67 60 (.load false 1 (t1 66)), gT 68 60 (.move (t1 6)), gT 69 60 (.arith .sub (t1 68) (i1 1)), gT 70 60 (.indexAddr none 1 (t1 67) (t1 69)), gT 71 60 (.load false 1 (t1 70)), gT 72 60
  (.arith .leq (t1 65) (t1 71)), o1 73 (.pick (t1 60) (t1 72) (.const (.v (.bool false))))]) (.cond (t1 73) (.seq (rF [o1 4 (.move (i1 9))]) .ret) .skip)))) (rF [m1 45 6, o1 46 (.arith .add (t1 45)
  (i1 1)), m1 6 46])))
def b_r_requestErr : ACode := (.seq (rF [o1 2 (.box 3 (t1 0)), o1 3 (.box 7 (t1 1)), o1 4 (.move (i1 0))]) (.seq (.seq (rF [fA 7 0 3, lF 8 1 7, o1 9 (.call false 111 [t1 8]), o1 10 (.un .not (t1 9))])
  (.cond (t1 10) (.seq (rF [o1 4 (.move (i1 4))]) .ret) .skip)) (.seq (.seq (rF [lT 11 3 2, fA 12 1 3, lT 13 2 12, o1 14 (.call false 112 [t1 11, t1 13]), m1 5 14]) (.seq (rF [m1 15 5, o1 16 (.arith
  .neq (t1 15) (i1 0))]) (.cond (t1 16) (.seq (rF [m1 17 5, m1 4 17]) .ret) .skip))) (.seq (.seq (rF [fA 18 3 3, lF 19 1 18, fA 20 1 3, fA 21 1 20, lF 22 1 21, fA 23 1 3, fA 24 0 23, lF 25 1 24, o1 26
  (.arith .sub (t1 22) (t1 25)), o1 27 (.arith .add (t1 26) (i1 1)), o1 28 (.call false 77 [t1 19, i1 1, t1 27]), o1 29 (.un .not (t1 28)), m1 30 29, gF 31 30 (.fieldAddr 4 (t1 3)), gF 32 30 (.load
  false 1 (t1 31)), gF 33 30 (.call false 77 [t1 32, i1 0, i1 100000]), gF 34 30 (.un .not (t1 33)), o1 35 (.pick (t1 30) (.const (.v (.bool true))) (t1 34))]) (.cond (t1 35) (.seq (rF [o1 4 (.move
  (i1 2))]) .ret) .skip)) (.seq (.seq (rF [fA 36 5 3, lF 37 1 36, o1 38 (.len false (t1 37)), o1 39 (.arith .eql (t1 38) (i1 0))]) (.cond (t1 39) (.seq (rF [o1 4 (.move (i1 10))]) .ret) .skip)) (.seq
  (.seq (rF [o1 6 (.move (i1 0))]) (.block 0 (.loop b_r_requestErr_l0))) b_r_requestErr_r0))))))
abbrev k_r_requestErr_0 : List K := [.blk 0, .c b_r_requestErr_r0]
abbrev f_r_requestErr := finF [(.tmp 4)] false
def c_r_requestErr : AFn := .code 2 81 b_r_requestErr [(.tmp 4)] false
-- 80
def b_b_Has_r0 : ACode := (.seq (rF [o1 4 (.move (.const (.v (.bool false))))]) .ret)
def b_b_Has_l0 : ACode := (.seq (.seq (rF [m1 6 5, m1 7 0, o1 8 (.len false (t1 7)), o1 9 (.arith .lss (t1 6) (t1 8))]) (.cond (t1 9) .skip (.exit 0))) (.seq (.block 1 (.seq (rF [m1 12 0, m1 13 5, o1
  14 (.indexAddr none 1 (t1 12) (t1 13)), lF 15 1 14, m1 16 1, o1 17 (.arith .eql (t1 15) (t1 16))]) (.cond (t1 17) (.seq (rF [o1 4 (.move (.const (.v (.bool true))))]) .ret) .skip))) (rF [m1 10 5, o1
  11 (.arith .add (t1 10) (i1 1)), m1 5 11])))
def b_b_Has : ACode := (.seq (rF [o1 4 (.move (.const (.v (.bool false))))]) (.seq (.seq (rF [o1 5 (.move (i1 0))]) (.block 0 (.loop b_b_Has_l0))) b_b_Has_r0))
abbrev k_b_Has_0 : List K := [.blk 0, .c b_b_Has_r0]
abbrev f_b_Has := finF [(.tmp 4)] false
def c_b_Has : AFn := .code 2 18 b_b_Has [(.tmp 4)] false
-- 81
def b_r_shut_r0 : ACode := (.seq (rF [o1 4 (.move (.const (.v (.bool false))))]) .ret)
def b_r_shut_r1 : ACode := (rF [m1 12 5, o1 13 (.arith .add (t1 12) (i1 1)), m1 5 13])
def b_r_shut_l1 : ACode := (.seq (.seq (rF [m1 14 6, fA 15 2 2, lF 16 1 15, fA 17 0 3, lF 18 1 17, o1 19 (.indexAddr none 7 (t1 16) (t1 18)), fA 20 3 19, lF 21 1 20, o1 22 (.arith .lss (t1 14) (t1
  21))]) (.cond (t1 22) .skip (.exit 2))) (.seq (.block 3 (.seq (rT [fA 25 1 2, lF 26 1 25, fA 27 2 3, lF 28 1 27, m1 29 5, o1 30 (.indexAddr none 1 (t1 28) (t1 29)), lF 31 1 30, o1 32 (.indexAddr
  none 3 (t1 26) (t1 31)), lT 33 3 32, fA 34 1 3, lF 35 1 34, m1 36 6, o1 37 (.arith .add (t1 35) (t1 36)), o1 38 (.call false 113 [t1 33, t1 37])]) (.cond (t1 38) (.seq (rF [o1 4 (.move (.const (.v
  (.bool true))))]) .ret) .skip))) (rF [m1 23 6, o1 24 (.arith .add (t1 23) (i1 1)), m1 6 24])))
def b_r_shut_l0 : ACode := (.seq (.seq (rF [m1 7 5, fA 8 2 3, lF 9 1 8, o1 10 (.len false (t1 9)), o1 11 (.arith .lss (t1 7) (t1 10))]) (.cond (t1 11) .skip (.exit 0))) (.seq (.block 1 (.seq (rF [o1 6
  (.move (i1 0))]) (.block 2 (.loop b_r_shut_l1)))) b_r_shut_r1))
def b_r_shut : ACode := (.seq (rF [o1 2 (.box 3 (t1 0)), o1 3 (.box 3 (t1 1)), o1 4 (.move (.const (.v (.bool false))))]) (.seq (.seq (rF [o1 5 (.move (i1 0))]) (.block 0 (.loop b_r_shut_l0)))
  b_r_shut_r0))
abbrev k_r_shut_1 : List K := [.blk 2, .blk 1, .c b_r_shut_r1, .lp b_r_shut_l0, .blk 0, .c b_r_shut_r0]
abbrev k_r_shut_0 : List K := [.blk 0, .c b_r_shut_r0]
abbrev f_r_shut := finF [(.tmp 4)] false
def c_r_shut : AFn := .code 2 39 b_r_shut [(.tmp 4)] false
-- 82
def b_r_Conflict_r0 : ACode := (.seq (rF [o1 6 (.move (.const (.v (.bool false))))]) .ret)
def b_r_Conflict_l0 : ACode := (.seq (.seq (rF [m1 43 10, fA 44 2 4, lF 45 1 44, o1 46 (.len false (t1 45)), o1 47 (.arith .lss (t1 43) (t1 46))]) (.cond (t1 47) .skip (.exit 0))) (.seq (.block 1
  (.seq (rT [fA 50 2 5, lF 51 1 50, fA 52 2 4, lF 53 1 52, m1 54 10, o1 55 (.indexAddr none 1 (t1 53) (t1 54)), lF 56 1 55, o1 57 (.call false 80 [t1 51, t1 56]), m1 58 57, gT 59 58 (.move (t1 9)), gT
  60 58 (.arith .lss (t1 59) (i1 0)), gT 61 58 (.move (t1 60)), gF 62 61 (.fieldAddr 0 (t1 7)), gF 63 61 (.load false 1 (t1 62)), gF 64 61 (.fieldAddr 0 (t1 8)), gF 65 61 (.load false 1 (t1 64)), gF
  66 61 (.arith .neq (t1 63) (t1 65)), gF 67 61 (.move (t1 66)), gT 68 67 (.move (t1 9)), gT 69 67 (.fieldAddr 1 (t1 3)), gT 70 67 (.load false 1 (t1 69)), gT 71 67 (.fieldAddr 2 (t1 4)), gT 72 67
  (.load false 1 (t1 71)), gT 73 67 (.move (t1 10)), gT 74 67 (.indexAddr none 1 (t1 72) (t1 73)), gT 75 67 (.load false 1 (t1 74)), gT 76 67 (.indexAddr none 3 (t1 70) (t1 75)), gT 77 67 (.fieldAddr
  1 (t1 76)), gT 78 67 (.load false 1 (t1 77)), gT 79 67 (.arith .lss (t1 68) (t1 78)), gF 80 61 (.pick (t1 67) (t1 79) (.const (.v (.bool false)))), gT 81 58 (.pick (t1 61) (.const (.v (.bool true)))
  (t1 80)), o1 82 (.pick (t1 58) (t1 81) (.const (.v (.bool false))))]) (.cond (t1 82) (.seq (rF [o1 6 (.move (.const (.v (.bool true))))]) .ret) .skip))) (rF [m1 48 10, o1 49 (.arith .add (t1 48) (i1
  1)), m1 10 49])))
def b_r_Conflict : ACode := (.seq (rF [o1 3 (.box 3 (t1 0)), o1 4 (.box 3 (t1 1)), o1 5 (.box 3 (t1 2)), o1 6 (.move (.const (.v (.bool false))))]) (.seq (.seq (rF [fA 11 0 4, lF 12 1 11, fA 13 0 5,
  lF 14 1 13, o1 15 (.arith .eql (t1 12) (t1 14))]) (.cond (t1 15) (.seq (rF [o1 6 (.move (.const (.v (.bool true))))]) .ret) .skip)) (.seq (.seq (rF [fA 16 1 4, lF 17 1 16, fA 18 1 5, lF 19 1 18, o1
  20 (.arith .gtr (t1 17) (t1 19))]) (.cond (t1 20) (rF [lT 21 3 5, lT 22 3 4, ⟨none, none, (.store 3 (t1 4) (t1 21))⟩, ⟨none, none, (.store 3 (t1 5) (t1 22))⟩]) .skip)) (.seq (.seq (rF [⟨none, none,
  (.reserve 2)⟩]) (rT [fA 23 2 3, o1 24 (.loadr 2 false 1 (t1 23)), fA 25 0 4, o1 26 (.loadr 2 false 1 (t1 25)), o1 27 (.indexAddr none 7 (t1 24) (t1 26)), o1 28 (.loadr 2 true 7 (t1 27)), fA 29 2 3,
  o1 30 (.loadr 2 false 1 (t1 29)), fA 31 0 5, o1 32 (.loadr 2 false 1 (t1 31)), o1 33 (.indexAddr none 7 (t1 30) (t1 32)), o1 34 (.loadr 2 true 7 (t1 33)), o1 7 (.slot 2 [.v (.string ⟨#[]⟩), .v (.int
  .i64 0), .v (.int .i64 0), .v (.int .i64 0), .v (.int .i64 0), .slice .nilS 0 [], .v (.int .i64 0)]), o1 8 (.slot 1 [.v (.string ⟨#[]⟩), .v (.int .i64 0), .v (.int .i64 0), .v (.int .i64 0), .v
  (.int .i64 0), .slice .nilS 0 [], .v (.int .i64 0)]), ⟨none, none, (.fill 2 7 (t1 7) (t1 28))⟩, ⟨none, none, (.fill 1 7 (t1 8) (t1 34))⟩])) (.seq (rF [fA 35 1 5, lF 36 1 35, fA 37 1 4, lF 38 1 37,
  o1 39 (.arith .sub (t1 36) (t1 38)), fA 40 3 7, lF 41 1 40, o1 42 (.arith .sub (t1 39) (t1 41)), m1 9 42]) (.seq (.seq (rF [o1 10 (.move (i1 0))]) (.block 0 (.loop b_r_Conflict_l0)))
  b_r_Conflict_r0))))))
abbrev k_r_Conflict_0 : List K := [.blk 0, .c b_r_Conflict_r0]
abbrev f_r_Conflict := finF [(.tmp 6)] false
def c_r_Conflict : AFn := .code 3 83 b_r_Conflict [(.tmp 6)] false
-- 83
def b_s_CheckWeek_r0 : ACode := (.seq (rF [o1 65 (.build [.v (.int .i64 0), .v (.int .i64 0)] []), ⟨none, none, (.store 2 (t1 2) (t1 65))⟩, o1 3 (.move (i1 0))]) .ret)
def b_s_CheckWeek_l0 : ACode := (.seq (rF [o1 52 (.arith .lss (t1 51) (t1 50))]) (.seq (.cond (t1 52) .skip (.exit 2)) (.seq (.block 3 (.seq (rF [m1 53 51, o1 54 (.indexAddr none 7 (t1 49) (t1 51)),
  lT 55 7 54, o1 9 (.alloc [.v (.string ⟨#[]⟩), .v (.int .i64 0), .v (.int .i64 0), .v (.int .i64 0), .v (.int .i64 0), .slice .nilS 0 [], .v (.int .i64 0)]), m1 8 53, ⟨none, none, (.store 7 (t1 9)
  (t1 55))⟩]) (.seq (rF [lT 56 3 1, lT 57 7 9, o1 58 (.call false 117 [t1 56, t1 57]), m1 10 58]) (.seq (rF [m1 59 10, o1 60 (.arith .neq (t1 59) (i1 0))]) (.cond (t1 60) (.seq (rF [m1 61 8, o1 62
  (.build [.v (.int .i64 0), .v (.int .i64 0)] [(0, (1, (i1 2))), (1, (1, (t1 61)))]), m1 63 10, ⟨none, none, (.store 2 (t1 2) (t1 62))⟩, m1 3 63]) .ret) .skip))))) (rF [o1 64 (.arith .add (t1 51) (i1
  1)), m1 51 64]))))
def b_s_CheckWeek_r1 : ACode := (.seq (.seq (rF [fA 48 2 1, lF 49 1 48, o1 50 (.len false (t1 49)), o1 51 (.move (i1 0))]) (.block 2 (.loop b_s_CheckWeek_l0))) b_s_CheckWeek_r0)
def b_s_CheckWeek_l1 : ACode := (.seq (rF [o1 37 (.arith .lss (t1 36) (t1 35))]) (.seq (.cond (t1 37) .skip (.exit 0)) (.seq (.block 1 (.seq (rF [m1 38 36, m1 6 38]) (.seq (rF [lT 39 3 1, m1 40 6, o1
  41 (.call false 116 [t1 39, t1 40]), m1 7 41]) (.seq (rF [m1 42 7, o1 43 (.arith .neq (t1 42) (i1 0))]) (.cond (t1 43) (.seq (rF [m1 44 6, o1 45 (.build [.v (.int .i64 0), .v (.int .i64 0)] [(0, (1,
  (i1 1))), (1, (1, (t1 44)))]), m1 46 7, ⟨none, none, (.store 2 (t1 2) (t1 45))⟩, m1 3 46]) .ret) .skip))))) (rF [o1 47 (.arith .add (t1 36) (i1 1)), m1 36 47]))))
def b_s_CheckWeek : ACode := (.seq (rF [o1 1 (.box 3 (t1 0)), o1 2 (.alloc [.v (.int .i64 0), .v (.int .i64 0)]), o1 3 (.move (i1 0))]) (.seq (rF [fA 11 1 1, lF 12 1 11, o1 13 (.len false (t1 12)), o1
  14 (.arith .leq (t1 13) (i1 4)), m1 15 14, gT 16 15 (.fieldAddr 2 (t1 1)), gT 17 15 (.load false 1 (t1 16)), gT 18 15 (.len false (t1 17)), gT 19 15 (.arith .leq (t1 18) (i1 12)), o1 20 (.pick (t1
  15) (t1 19) (.const (.v (.bool false)))), m1 4 20]) (.seq (.seq (rF [fA 21 0 1, lF 22 1 21, o1 23 (.call false 115 [t1 22, i1 1, i1 200]), o1 24 (.call false 55 [t1 23, i1 2]), m1 25 4, o1 26 (.call
  false 55 [t1 25, i1 8]), o1 27 (.buildSlice 1 [[.v (.int .i64 0)], [.v (.int .i64 0)]] [(0, (t1 24)), (1, (t1 26))]), o1 28 (.call false 114 [t1 27]), m1 5 28]) (.seq (rF [m1 29 5, o1 30 (.arith
  .neq (t1 29) (i1 0))]) (.cond (t1 30) (.seq (rF [o1 31 (.build [.v (.int .i64 0), .v (.int .i64 0)] []), m1 32 5, ⟨none, none, (.store 2 (t1 2) (t1 31))⟩, m1 3 32]) .ret) .skip))) (.seq (.seq (rF
  [fA 33 1 1, lF 34 1 33, o1 35 (.len false (t1 34)), o1 36 (.move (i1 0))]) (.block 0 (.loop b_s_CheckWeek_l1))) b_s_CheckWeek_r1))))
abbrev k_s_CheckWeek_0 : List K := [.blk 2, .c b_s_CheckWeek_r0]
abbrev k_s_CheckWeek_1 : List K := [.blk 0, .c b_s_CheckWeek_r1]
abbrev f_s_CheckWeek := finF [(.cell true 2 2), (.tmp 3)] false
def c_s_CheckWeek : AFn := .code 1 66 b_s_CheckWeek [(.cell true 2 2), (.tmp 3)] false
-- 84
def b_z_IndexFunc_ScheduleRequest_r0 : ACode := (.seq (rF [o1 4 (.move (i1 (-1)))]) .ret)
def b_z_IndexFunc_ScheduleRequest_l0 : ACode := (.seq (rF [o1 9 (.arith .lss (t1 8) (t1 7))]) (.seq (.cond (t1 9) .skip (.exit 0)) (.seq (.block 1 (.seq (rF [m1 10 8, m1 5 10]) (.seq (rF [m1 11 1, m1
  12 0, m1 13 5, o1 14 (.indexAddr none 7 (t1 12) (t1 13)), lT 15 7 14, o1 16 (.callv false (t1 11) [t1 15])]) (.cond (t1 16) (.seq (rF [m1 17 5, m1 4 17]) .ret) .skip)))) (rF [o1 18 (.arith .add (t1
  8) (i1 1)), m1 8 18]))))
def b_z_IndexFunc_ScheduleRequest : ACode := (.seq (rF [o1 4 (.move (i1 0))]) (.seq (.seq (rF [m1 6 0, o1 7 (.len false (t1 6)), o1 8 (.move (i1 0))]) (.block 0 (.loop
  b_z_IndexFunc_ScheduleRequest_l0))) b_z_IndexFunc_ScheduleRequest_r0))
abbrev k_z_IndexFunc_ScheduleRequest_0 : List K := [.blk 0, .c b_z_IndexFunc_ScheduleRequest_r0]
abbrev f_z_IndexFunc_ScheduleRequest := finF [(.tmp 4)] false
def c_z_IndexFunc_ScheduleRequest : AFn := .code 2 19 b_z_IndexFunc_ScheduleRequest [(.tmp 4)] false
-- 85
def b_w_possible : ACode := (.seq (rF [o1 2 (.box 1 (t1 0)), o1 3 (.box 1 (t1 1)), o1 4 (.move (.const (.v .nilFunc)))]) (.seq (rF [o1 5 (.mkFn 118 [] [t1 2, t1 3]), m1 4 5]) .ret))
abbrev f_w_possible := finF [(.tmp 4)] false
def c_w_possible : AFn := .code 2 6 b_w_possible [(.tmp 4)] false
-- 86
def b_w_conflicts : ACode := (.seq (rF [o1 3 (.box 1 (t1 0)), o1 4 (.box 3 (t1 1)), o1 6 (.move (.const (.v (.bool false))))]) (.seq (rF [m1 7 2, o1 8 (.mkFn 122 [] [t1 3, t1 4]), o1 9 (.call false
  121 [t1 7, t1 8]), m1 6 9]) .ret))
abbrev f_w_conflicts := finF [(.tmp 6)] false
def c_w_conflicts : AFn := .code 3 10 b_w_conflicts [(.tmp 6)] false
-- 87
def b_s_members_r0 : ACode := (.seq (rF [m1 20 3, m1 2 20]) .ret)
def b_s_members_l0 : ACode := (.seq (.seq (rF [m1 5 0, m1 6 4, o1 7 (.arith .shr (t1 5) (t1 6)), o1 8 (.arith .gtr (t1 7) (i1 0))]) (.cond (t1 8) .skip (.exit 0))) (.seq (.block 1 (.seq (rF [m1 11 0,
  m1 12 4, o1 13 (.arith .shr (t1 11) (t1 12)), o1 14 (.arith .and (t1 13) (i1 1)), o1 15 (.arith .eql (t1 14) (i1 1))]) (.cond (t1 15) (rF [m1 16 3, m1 17 4, o1 18 (.buildSlice 1 [[.v (.int .i64 0)]]
  [(0, (t1 17))]), o1 19 (.append 1 (t1 16) (t1 18)), m1 3 19]) .skip))) (rF [m1 9 4, o1 10 (.arith .add (t1 9) (i1 1)), m1 4 10])))
def b_s_members : ACode := (.seq (rF [o1 2 (.move (.const (.slice .nilS 0 [])))]) (.seq (rF [o1 3 (.move (.const (.slice .nilS 0 [])))]) (.seq (.seq (rF [o1 4 (.move (i1 0))]) (.block 0 (.loop
  b_s_members_l0))) b_s_members_r0)))
abbrev k_s_members_0 : List K := [.blk 0, .c b_s_members_r0]
abbrev f_s_members := finF [(.tmp 2)] false
def c_s_members : AFn := .code 1 21 b_s_members [(.tmp 2)] false
-- 88
def b_w_without_r0 : ACode := (.seq (rF [m1 26 7, m1 6 26]) .ret)
def b_w_without_l0 : ACode := (.seq (rF [o1 13 (.arith .lss (t1 12) (t1 11))]) (.seq (.cond (t1 13) .skip (.exit 0)) (.seq (.block 1 (.seq (rF [o1 14 (.indexAddr none 3 (t1 10) (t1 12)), lT 15 3 14,
  o1 9 (.alloc [.v (.int .i64 0), .v (.int .i64 0), .slice .nilS 0 []]), ⟨none, none, (.store 3 (t1 9) (t1 15))⟩]) (.seq (rF [m1 16 0, lT 17 3 9, lT 18 3 5, o1 19 (.call false 123 [t1 16, t1 17, t1
  18]), o1 20 (.un .not (t1 19))]) (.cond (t1 20) (rF [m1 21 7, lT 22 3 9, o1 23 (.buildSlice 3 [[.v (.int .i64 0), .v (.int .i64 0), .slice .nilS 0 []]] [(0, (t1 22))]), o1 24 (.append 3 (t1 21) (t1
  23)), m1 7 24]) .skip)))) (rF [o1 25 (.arith .add (t1 12) (i1 1)), m1 12 25]))))
def b_w_without : ACode := (.seq (rF [o1 5 (.box 3 (t1 2)), o1 6 (.move (.const (.slice .nilS 0 [])))]) (.seq (rF [o1 7 (.move (.const (.slice .nilS 0 [])))]) (.seq (.seq (rF [m1 10 1, o1 11 (.len
  false (t1 10)), o1 12 (.move (i1 0))]) (.block 0 (.loop b_w_without_l0))) b_w_without_r0)))
abbrev k_w_without_0 : List K := [.blk 0, .c b_w_without_r0]
abbrev f_w_without := finF [(.tmp 6)] false
def c_w_without : AFn := .code 3 27 b_w_without [(.tmp 6)] false
-- 89
def b_w_fit_r0 : ACode := (.seq (rF [o1 4 (.move (.const (.v (.bool false))))]) .ret)
def b_w_fit_r1 : ACode := (rF [o1 63 (.arith .add (t1 38) (i1 1)), m1 38 63])
def b_w_fit_r2 : ACode := (.seq (rF [m1 60 0, m1 61 10, o1 62 (.call false 89 [t1 60, t1 61])]) (.cond (t1 62) (.seq (rF [o1 4 (.move (.const (.v (.bool true))))]) .ret) .skip))
def b_w_fit_l1 : ACode := (.seq (rF [o1 45 (.arith .lss (t1 44) (t1 43))]) (.seq (.cond (t1 45) .skip (.exit 4)) (.seq (.block 5 (.seq (rF [m1 46 44, o1 47 (.indexAddr none 1 (t1 42) (t1 44)), lF 48 1
  47, m1 11 46, m1 12 48]) (.seq (rF [m1 49 11, m1 50 5, o1 51 (.arith .neq (t1 49) (t1 50))]) (.cond (t1 51) (rF [m1 52 10, m1 53 0, m1 54 12, lT 55 3 9, o1 56 (.call false 88 [t1 53, t1 54, t1 55]),
  o1 57 (.buildSlice 1 [[.slice .nilS 0 []]] [(0, (t1 56))]), o1 58 (.append 1 (t1 52) (t1 57)), m1 10 58]) .skip)))) (rF [o1 59 (.arith .add (t1 44) (i1 1)), m1 44 59]))))
def b_w_fit_l0 : ACode := (.seq (rF [o1 39 (.arith .lss (t1 38) (t1 37))]) (.seq (.cond (t1 39) .skip (.exit 2)) (.seq (.block 3 (.seq (rF [o1 40 (.indexAddr none 3 (t1 36) (t1 38)), lT 41 3 40, o1 9
  (.alloc [.v (.int .i64 0), .v (.int .i64 0), .slice .nilS 0 []]), ⟨none, none, (.store 3 (t1 9) (t1 41))⟩]) (.seq (rF [o1 10 (.move (.const (.slice .nilS 0 [])))]) (.seq (.seq (rF [m1 42 1, o1 43
  (.len false (t1 42)), o1 44 (.move (i1 0))]) (.block 4 (.loop b_w_fit_l1))) b_w_fit_r2)))) b_w_fit_r1)))
def b_w_fit_r3 : ACode := (.seq (.seq (rF [m1 33 1, m1 34 5, o1 35 (.indexAddr none 1 (t1 33) (t1 34)), lF 36 1 35, o1 37 (.len false (t1 36)), o1 38 (.move (i1 0))]) (.block 2 (.loop b_w_fit_l0)))
  b_w_fit_r0)
def b_w_fit_l2 : ACode := (.seq (rF [o1 19 (.arith .lss (t1 18) (t1 17))]) (.seq (.cond (t1 19) .skip (.exit 0)) (.seq (.block 1 (.seq (rF [m1 20 18, o1 21 (.indexAddr none 1 (t1 16) (t1 18)), lF 22 1
  21, m1 6 20, m1 7 22]) (.seq (rF [m1 23 7, o1 24 (.len false (t1 23)), m1 25 1, m1 26 5, o1 27 (.indexAddr none 1 (t1 25) (t1 26)), lF 28 1 27, o1 29 (.len false (t1 28)), o1 30 (.arith .lss (t1 24)
  (t1 29))]) (.cond (t1 30) (rF [m1 31 6, m1 5 31]) .skip)))) (rF [o1 32 (.arith .add (t1 18) (i1 1)), m1 18 32]))))
def b_w_fit : ACode := (.seq (rF [o1 4 (.move (.const (.v (.bool false))))]) (.seq (.seq (rF [m1 13 1, o1 14 (.len false (t1 13)), o1 15 (.arith .eql (t1 14) (i1 0))]) (.cond (t1 15) (.seq (rF [o1 4
  (.move (.const (.v (.bool true))))]) .ret) .skip)) (.seq (rF [o1 5 (.move (i1 0))]) (.seq (.seq (rF [m1 16 1, o1 17 (.len false (t1 16)), o1 18 (.move (i1 0))]) (.block 0 (.loop b_w_fit_l2)))
  b_w_fit_r3))))
abbrev k_w_fit_1 : List K := [.blk 4, .c b_w_fit_r2, .blk 3, .c b_w_fit_r1, .lp b_w_fit_l0, .blk 2, .c b_w_fit_r0]
abbrev k_w_fit_0 : List K := [.blk 2, .c b_w_fit_r0]
abbrev k_w_fit_2 : List K := [.blk 0, .c b_w_fit_r3]
abbrev f_w_fit := finF [(.tmp 4)] false
def c_w_fit : AFn := .code 2 64 b_w_fit [(.tmp 4)] false
-- 90
def b_z_Index_int_r0 : ACode := (.seq (rF [o1 4 (.move (i1 (-1)))]) .ret)
def b_z_Index_int_l0 : ACode := (.seq (rF [o1 9 (.arith .lss (t1 8) (t1 7))]) (.seq (.cond (t1 9) .skip (.exit 0)) (.seq (.block 1 (.seq (rF [m1 10 8, m1 5 10]) (.seq (rF [m1 11 1, m1 12 0, m1 13 5,
  o1 14 (.indexAddr none 1 (t1 12) (t1 13)), lF 15 1 14, o1 16 (.arith .eql (t1 11) (t1 15))]) (.cond (t1 16) (.seq (rF [m1 17 5, m1 4 17]) .ret) .skip)))) (rF [o1 18 (.arith .add (t1 8) (i1 1)), m1 8
  18]))))
def b_z_Index_int : ACode := (.seq (rF [o1 4 (.move (i1 0))]) (.seq (.seq (rF [m1 6 0, o1 7 (.len false (t1 6)), o1 8 (.move (i1 0))]) (.block 0 (.loop b_z_Index_int_l0))) b_z_Index_int_r0))
abbrev k_z_Index_int_0 : List K := [.blk 0, .c b_z_Index_int_r0]
abbrev f_z_Index_int := finF [(.tmp 4)] false
def c_z_Index_int : AFn := .code 2 19 b_z_Index_int [(.tmp 4)] false
-- 91
def b_z_Clone_SchedulePass : ACode := (.seq (rF [o1 2 (.move (.const (.slice .nilS 0 [])))]) (.seq (.seq (rF [m1 3 0, o1 4 (.eqv false .slice (t1 3) (.const (.slice .nilS 0 [])))]) (.cond (t1 4) (.seq
  (rF [o1 2 (.move (.const (.slice .nilS 0 [])))]) .ret) .skip)) (.seq (rF [o1 5 (.buildSlice 3 [] []), m1 6 0, o1 7 (.append 3 (t1 5) (t1 6)), m1 2 7]) .ret)))
abbrev f_z_Clone_SchedulePass := finF [(.tmp 2)] true
def c_z_Clone_SchedulePass : AFn := .code 1 8 b_z_Clone_SchedulePass [(.tmp 2)] true
-- 92
def b_w_passErr_r0 : ACode := (.seq (rT [m1 109 12, o1 110 (.un .not (t1 109)), o1 111 (.call true 55 [t1 110, i1 21]), m1 112 0, lT 113 3 4, m1 114 2, o1 115 (.call false 86 [t1 112, t1 113, t1
  114]), o1 116 (.un .not (t1 115)), o1 117 (.call false 55 [t1 116, i1 13]), o1 118 (.buildSlice 1 [[.v (.int .i64 0)], [.v (.int .i64 0)]] [(0, (t1 111)), (1, (t1 117))]), o1 119 (.call false 114
  [t1 118]), m1 6 119]) .ret)
def b_w_passErr_l0 : ACode := (.seq (rF [o1 79 (.arith .lss (t1 78) (t1 77))]) (.seq (.cond (t1 79) .skip (.exit 0)) (.seq (.block 1 (.seq (rF [o1 80 (.indexAddr none 1 (t1 76) (t1 78)), lF 81 1 80,
  m1 14 81]) (.seq (.seq (rF [fA 82 5 10, lF 83 1 82, m1 84 14, o1 85 (.call false 60 [t1 83, t1 84]), o1 86 (.call false 55 [t1 85, i1 6]), m1 87 14, m1 88 7, o1 89 (.arith .gtr (t1 87) (t1 88)), o1
  90 (.call false 55 [t1 89, i1 9]), o1 91 (.buildSlice 1 [[.v (.int .i64 0)], [.v (.int .i64 0)]] [(0, (t1 86)), (1, (t1 90))]), o1 92 (.call false 114 [t1 91]), m1 15 92]) (.seq (rF [m1 93 15, o1 94
  (.arith .neq (t1 93) (i1 0))]) (.cond (t1 94) (.seq (rF [m1 95 15, m1 6 95]) .ret) .skip))) (rF [m1 96 14, m1 97 12, m1 98 97, gF 99 98 (.move (t1 0)), gF 100 98 (.move (t1 14)), gF 101 98
  (.fieldAddr 1 (t1 4)), gF 102 98 (.load false 1 (t1 101)), gF 103 98 (.fieldAddr 3 (t1 10)), gF 104 98 (.load false 1 (t1 103)), gF 105 98 (.call false 119 [t1 99, t1 100, t1 102, t1 104]), gF 106
  98 (.un .not (t1 105)), o1 107 (.pick (t1 98) (.const (.v (.bool true))) (t1 106)), m1 7 96, m1 12 107])))) (rF [o1 108 (.arith .add (t1 78) (i1 1)), m1 78 108]))))
def b_w_passErr : ACode := (.seq (rF [o1 4 (.box 3 (t1 1)), o1 6 (.move (i1 0))]) (.seq (rF [o1 7 (.move (i1 (-1)))]) (.seq (.seq (rF [m1 16 2, o1 17 (.len false (t1 16)), m1 8 17]) (.seq (rF [m1 18
  8, o1 19 (.arith .gtr (t1 18) (i1 0))]) (.cond (t1 19) (rF [m1 20 2, m1 21 8, o1 22 (.arith .sub (t1 21) (i1 1)), o1 23 (.indexAddr none 3 (t1 20) (t1 22)), fA 24 0 23, lF 25 1 24, m1 7 25])
  .skip))) (.seq (.seq (rT [m1 26 0, fA 27 0 4, lF 28 1 27, o1 29 (.call true 124 [t1 26, t1 28]), fA 30 0 4, lF 31 1 30, m1 32 7, o1 33 (.arith .gtr (t1 31) (t1 32)), o1 34 (.call false 55 [t1 33, i1
  9]), o1 35 (.buildSlice 1 [[.v (.int .i64 0)], [.v (.int .i64 0)]] [(0, (t1 29)), (1, (t1 34))]), o1 36 (.call false 114 [t1 35]), m1 9 36]) (.seq (rF [m1 37 9, o1 38 (.arith .neq (t1 37) (i1 0))])
  (.cond (t1 38) (.seq (rF [m1 39 9, m1 6 39]) .ret) .skip))) (.seq (rT [m1 40 0, o1 41 (.nilCheck (t1 40)), fA 42 0 41, fA 43 2 42, lF 44 1 43, fA 45 0 4, lF 46 1 45, o1 47 (.indexAddr none 7 (t1 44)
  (t1 46)), lT 48 7 47, o1 10 (.alloc [.v (.string ⟨#[]⟩), .v (.int .i64 0), .v (.int .i64 0), .v (.int .i64 0), .v (.int .i64 0), .slice .nilS 0 [], .v (.int .i64 0)]), ⟨none, none, (.store 7 (t1 10)
  (t1 48))⟩]) (.seq (rT [fA 49 1 4, lF 50 1 49, fA 51 1 10, fA 52 0 51, lF 53 1 52, fA 54 1 10, fA 55 1 54, lF 56 1 55, o1 57 (.arith .add (t1 56) (i1 1)), fA 58 3 10, lF 59 1 58, o1 60 (.arith .sub
  (t1 57) (t1 59)), o1 61 (.call true 115 [t1 50, t1 53, t1 60]), o1 62 (.call true 55 [t1 61, i1 2]), fA 63 2 4, lF 64 1 63, o1 65 (.len false (t1 64)), fA 66 6 10, lF 67 1 66, o1 68 (.arith .eql (t1
  65) (t1 67)), o1 69 (.call false 55 [t1 68, i1 10]), o1 70 (.buildSlice 1 [[.v (.int .i64 0)], [.v (.int .i64 0)]] [(0, (t1 62)), (1, (t1 69))]), o1 71 (.call false 114 [t1 70]), m1 11 71]) (.seq
  (.seq (rF [m1 72 11, o1 73 (.arith .neq (t1 72) (i1 0))]) (.cond (t1 73) (.seq (rF [m1 74 11, m1 6 74]) .ret) .skip)) (.seq (rF [o1 7 (.move (i1 (-1)))]) (.seq (rF [o1 12 (.move (.const (.v (.bool
  false))))]) (.seq (.seq (rF [fA 75 2 4, lF 76 1 75, o1 77 (.len false (t1 76)), o1 78 (.move (i1 0))]) (.block 0 (.loop b_w_passErr_l0))) b_w_passErr_r0))))))))))
abbrev k_w_passErr_0 : List K := [.blk 0, .c b_w_passErr_r0]
abbrev f_w_passErr := finF [(.tmp 6)] false
def c_w_passErr : AFn := .code 3 120 b_w_passErr [(.tmp 6)] false
-- 111
def b_b_IsName_r0 : ACode := (.seq (rF [o1 2 (.move (.const (.v (.bool true))))]) .ret)
def b_b_IsName_l0 : ACode := (.seq (.seq (rF [m1 14 3, m1 15 0, o1 16 (.len true (t1 15)), o1 17 (.arith .lss (t1 14) (t1 16))]) (.cond (t1 17) .skip (.exit 0))) (.seq (.block 1 (.seq (rF [m1 20 0, m1
  21 3, o1 22 (.indexStr (t1 20) (t1 21)), m1 4 22]) (.seq (rF [m1 23 4, o1 24 (.arith .geq (t1 23) (.const (.v (.int .u8 97)))), m1 25 24, gT 26 25 (.move (t1 4)), gT 27 25 (.arith .leq (t1 26)
  (.const (.v (.int .u8 122)))), o1 28 (.pick (t1 25) (t1 27) (.const (.v (.bool false)))), m1 29 28, gF 30 29 (.move (t1 4)), gF 31 29 (.arith .geq (t1 30) (.const (.v (.int .u8 65)))), gF 32 29
  (.move (t1 31)), gT 33 32 (.move (t1 4)), gT 34 32 (.arith .leq (t1 33) (.const (.v (.int .u8 90)))), gF 35 29 (.pick (t1 32) (t1 34) (.const (.v (.bool false)))), o1 36 (.pick (t1 29) (.const (.v
  (.bool true))) (t1 35)), m1 5 36]) (.seq (rF [m1 37 5, o1 38 (.un .not (t1 37)), m1 39 38, gT 40 39 (.move (t1 3)), gT 41 39 (.arith .eql (t1 40) (i1 0)), gT 42 39 (.move (t1 41)), gF 43 42 (.move
  (t1 4)), gF 44 42 (.arith .neq (t1 43) (.const (.v (.int .u8 45)))), gF 45 42 (.move (t1 44)), gT 46 45 (.move (t1 4)), gT 47 45 (.arith .lss (t1 46) (.const (.v (.int .u8 48)))), gT 48 45 (.move
  (t1 47)), gF 49 48 (.move (t1 4)), gF 50 48 (.arith .gtr (t1 49) (.const (.v (.int .u8 57)))), gT 51 45 (.pick (t1 48) (.const (.v (.bool true))) (t1 50)), gF 52 42 (.pick (t1 45) (t1 51) (.const
  (.v (.bool false)))), gT 53 39 (.pick (t1 42) (.const (.v (.bool true))) (t1 52)), o1 54 (.pick (t1 39) (t1 53) (.const (.v (.bool false))))]) (.cond (t1 54) (.seq (rF [o1 2 (.move (.const (.v
  (.bool false))))]) .ret) .skip))))) (rF [m1 18 3, o1 19 (.arith .add (t1 18) (i1 1)), m1 3 19])))
def b_b_IsName : ACode := (.seq (rF [o1 2 (.move (.const (.v (.bool false))))]) (.seq (.seq (rF [m1 6 0, o1 7 (.len true (t1 6)), o1 8 (.arith .lss (t1 7) (i1 1)), m1 9 8, gF 10 9 (.move (t1 0)), gF
  11 9 (.len true (t1 10)), gF 12 9 (.arith .gtr (t1 11) (i1 12)), o1 13 (.pick (t1 9) (.const (.v (.bool true))) (t1 12))]) (.cond (t1 13) (.seq (rF [o1 2 (.move (.const (.v (.bool false))))]) .ret)
  .skip)) (.seq (.seq (rF [o1 3 (.move (i1 0))]) (.block 0 (.loop b_b_IsName_l0))) b_b_IsName_r0)))
abbrev k_b_IsName_0 : List K := [.blk 0, .c b_b_IsName_r0]
abbrev f_b_IsName := finF [(.tmp 2)] false
def c_b_IsName : AFn := .code 1 55 b_b_IsName [(.tmp 2)] false
-- 112
def b_r_slotsErr : ACode := (.seq (rF [o1 2 (.box 3 (t1 0)), o1 3 (.box 2 (t1 1)), o1 4 (.move (i1 0))]) (.seq (.seq (rF [fA 5 0 3, lF 6 1 5, fA 7 0 2, lF 8 1 7, o1 9 (.arith .sub (t1 8) (i1 1)), o1
  10 (.call false 77 [t1 6, i1 0, t1 9]), o1 11 (.un .not (t1 10)), m1 12 11, gF 13 12 (.fieldAddr 1 (t1 3)), gF 14 12 (.load false 1 (t1 13)), gF 15 12 (.fieldAddr 0 (t1 2)), gF 16 12 (.load false 1
  (t1 15)), gF 17 12 (.arith .sub (t1 16) (i1 1)), gF 18 12 (.call false 77 [t1 14, i1 0, t1 17]), gF 19 12 (.un .not (t1 18)), o1 20 (.pick (t1 12) (.const (.v (.bool true))) (t1 19))]) (.cond (t1
  20) (.seq (rF [o1 4 (.move (i1 2))]) .ret) .skip)) (.seq (.seq (rF [fA 21 0 3, lF 22 1 21, fA 23 1 3, lF 24 1 23, o1 25 (.arith .gtr (t1 22) (t1 24))]) (.cond (t1 25) (.seq (rF [o1 4 (.move (i1
  9))]) .ret) .skip)) (.seq (rF [o1 4 (.move (i1 0))]) .ret))))
abbrev f_r_slotsErr := finF [(.tmp 4)] false
def c_r_slotsErr : AFn := .code 2 26 b_r_slotsErr [(.tmp 4)] false
-- 113
def b_r_closed_r0 : ACode := (.seq (rF [o1 4 (.move (.const (.v (.bool false))))]) .ret)
def b_r_closed_l0 : ACode := (.seq (.seq (rF [m1 6 5, fA 7 2 2, lF 8 1 7, o1 9 (.len false (t1 8)), o1 10 (.arith .lss (t1 6) (t1 9))]) (.cond (t1 10) .skip (.exit 0))) (.seq (.block 1 (.seq (rT [m1
  13 1, fA 14 2 2, lF 15 1 14, m1 16 5, o1 17 (.indexAddr none 2 (t1 15) (t1 16)), fA 18 0 17, lF 19 1 18, fA 20 2 2, lF 21 1 20, m1 22 5, o1 23 (.indexAddr none 2 (t1 21) (t1 22)), fA 24 1 23, lF 25
  1 24, o1 26 (.call false 77 [t1 13, t1 19, t1 25])]) (.cond (t1 26) (.seq (rF [o1 4 (.move (.const (.v (.bool true))))]) .ret) .skip))) (rF [m1 11 5, o1 12 (.arith .add (t1 11) (i1 1)), m1 5 12])))
def b_r_closed : ACode := (.seq (rF [o1 2 (.box 3 (t1 0)), o1 4 (.move (.const (.v (.bool false))))]) (.seq (.seq (rF [o1 5 (.move (i1 0))]) (.block 0 (.loop b_r_closed_l0))) b_r_closed_r0))
abbrev k_r_closed_0 : List K := [.blk 0, .c b_r_closed_r0]
abbrev f_r_closed := finF [(.tmp 4)] false
def c_r_closed : AFn := .code 2 27 b_r_closed [(.tmp 4)] false
-- 114
def b_s_first_r0 : ACode := (.seq (rF [o1 2 (.move (i1 0))]) .ret)
def b_s_first_l0 : ACode := (.seq (rF [o1 8 (.arith .lss (t1 7) (t1 6))]) (.seq (.cond (t1 8) .skip (.exit 0)) (.seq (.block 1 (.seq (rF [o1 9 (.indexAddr none 1 (t1 5) (t1 7)), lF 10 1 9, m1 4 10])
  (.seq (rF [m1 11 4, o1 12 (.arith .neq (t1 11) (i1 0))]) (.cond (t1 12) (.seq (rF [m1 13 4, m1 2 13]) .ret) .skip)))) (rF [o1 14 (.arith .add (t1 7) (i1 1)), m1 7 14]))))
def b_s_first : ACode := (.seq (rF [o1 2 (.move (i1 0))]) (.seq (.seq (rF [m1 5 0, o1 6 (.len false (t1 5)), o1 7 (.move (i1 0))]) (.block 0 (.loop b_s_first_l0))) b_s_first_r0))
abbrev k_s_first_0 : List K := [.blk 0, .c b_s_first_r0]
abbrev f_s_first := finF [(.tmp 2)] false
def c_s_first : AFn := .code 1 15 b_s_first [(.tmp 2)] false
-- 115
def b_s_within : ACode := (.seq (rF [o1 6 (.move (.const (.v (.bool false))))]) (.seq (rF [m1 7 1, m1 8 0, o1 9 (.arith .leq (t1 7) (t1 8)), m1 10 9, gT 11 10 (.move (t1 0)), gT 12 10 (.move (t1 2)),
  gT 13 10 (.arith .leq (t1 11) (t1 12)), o1 14 (.pick (t1 10) (t1 13) (.const (.v (.bool false)))), m1 6 14]) .ret))
abbrev f_s_within := finF [(.tmp 6)] false
def c_s_within : AFn := .code 3 15 b_s_within [(.tmp 6)] false
-- 116
def b_s_antennaErr_r0 : ACode := (.seq (rF [m1 53 7, m1 4 53]) .ret)
def b_s_antennaErr_l0 : ACode := (.seq (rF [o1 43 (.arith .lss (t1 42) (t1 41))]) (.seq (.cond (t1 43) .skip (.exit 0)) (.seq (.block 1 (.seq (rF [o1 44 (.indexAddr none 2 (t1 40) (t1 42)), lT 45 2
  44, o1 9 (.alloc [.v (.int .i64 0), .v (.int .i64 0)]), ⟨none, none, (.store 2 (t1 9) (t1 45))⟩]) (rF [m1 46 7, lT 47 3 2, lT 48 2 9, o1 49 (.call false 138 [t1 47, t1 48]), o1 50 (.buildSlice 1
  [[.v (.int .i64 0)], [.v (.int .i64 0)]] [(0, (t1 46)), (1, (t1 49))]), o1 51 (.call false 114 [t1 50]), m1 7 51]))) (rF [o1 52 (.arith .add (t1 42) (i1 1)), m1 42 52]))))
def b_s_antennaErr : ACode := (.seq (rF [o1 2 (.box 3 (t1 0)), o1 4 (.move (i1 0))]) (.seq (rF [fA 10 1 2, lF 11 1 10, m1 12 1, o1 13 (.indexAddr none 3 (t1 11) (t1 12)), lT 14 3 13, o1 5 (.alloc [.v
  (.string ⟨#[]⟩), .v (.int .i64 0), .slice .nilS 0 []]), ⟨none, none, (.store 3 (t1 5) (t1 14))⟩]) (.seq (rF [fA 15 1 2, lF 16 1 15, m1 17 1, o1 18 (.slice (.sl 3) (t1 16) none (some (t1 17)) none),
  o1 19 (.mkFn 136 [] [t1 5]), o1 20 (.call false 135 [t1 18, t1 19]), m1 6 20]) (.seq (rT [fA 21 0 5, lF 22 1 21, o1 23 (.call true 137 [t1 22]), o1 24 (.call true 55 [t1 23, i1 4]), m1 25 6, o1 26
  (.un .not (t1 25)), o1 27 (.call true 55 [t1 26, i1 5]), fA 28 1 5, lF 29 1 28, o1 30 (.call true 115 [t1 29, i1 0, i1 50]), o1 31 (.call true 55 [t1 30, i1 2]), fA 32 2 5, lF 33 1 32, o1 34 (.len
  false (t1 33)), o1 35 (.arith .leq (t1 34) (i1 6)), o1 36 (.call false 55 [t1 35, i1 8]), o1 37 (.buildSlice 1 [[.v (.int .i64 0)], [.v (.int .i64 0)], [.v (.int .i64 0)], [.v (.int .i64 0)]] [(0,
  (t1 24)), (1, (t1 27)), (2, (t1 31)), (3, (t1 36))]), o1 38 (.call false 114 [t1 37]), m1 7 38]) (.seq (.seq (rF [fA 39 2 5, lF 40 1 39, o1 41 (.len false (t1 40)), o1 42 (.move (i1 0))]) (.block 0
  (.loop b_s_antennaErr_l0))) b_s_antennaErr_r0)))))
abbrev k_s_antennaErr_0 : List K := [.blk 0, .c b_s_antennaErr_r0]
abbrev f_s_antennaErr := finF [(.tmp 4)] false
def c_s_antennaErr : AFn := .code 2 54 b_s_antennaErr [(.tmp 4)] false
-- 117
def b_s_requestErr_r0 : ACode := (.seq (rF [m1 71 5, fA 72 6 3, lF 73 1 72, fA 74 5 3, lF 75 1 74, o1 76 (.len false (t1 75)), o1 77 (.call false 115 [t1 73, i1 1, t1 76]), o1 78 (.call false 55 [t1
  77, i1 2]), o1 79 (.buildSlice 1 [[.v (.int .i64 0)], [.v (.int .i64 0)]] [(0, (t1 71)), (1, (t1 78))]), o1 80 (.call false 114 [t1 79]), m1 4 80]) .ret)
def b_s_requestErr_l0 : ACode := (.seq (rF [o1 52 (.arith .lss (t1 51) (t1 50))]) (.seq (.cond (t1 52) .skip (.exit 0)) (.seq (.block 1 (.seq (rF [o1 53 (.indexAddr none 1 (t1 49) (t1 51)), lF 54 1
  53, m1 9 54]) (.seq (rF [m1 55 5, m1 56 9, fA 57 1 2, lF 58 1 57, o1 59 (.len false (t1 58)), o1 60 (.arith .sub (t1 59) (i1 1)), o1 61 (.call false 115 [t1 56, i1 0, t1 60]), o1 62 (.call false 55
  [t1 61, i1 6]), m1 63 9, m1 64 7, o1 65 (.arith .gtr (t1 63) (t1 64)), o1 66 (.call false 55 [t1 65, i1 9]), o1 67 (.buildSlice 1 [[.v (.int .i64 0)], [.v (.int .i64 0)], [.v (.int .i64 0)]] [(0,
  (t1 55)), (1, (t1 62)), (2, (t1 66))]), o1 68 (.call false 114 [t1 67]), m1 5 68]) (rF [m1 69 9, m1 7 69])))) (rF [o1 70 (.arith .add (t1 51) (i1 1)), m1 51 70]))))
def b_s_requestErr : ACode := (.seq (rF [o1 2 (.box 3 (t1 0)), o1 3 (.box 7 (t1 1)), o1 4 (.move (i1 0))]) (.seq (rT [fA 10 0 3, lF 11 1 10, o1 12 (.call true 137 [t1 11]), o1 13 (.call true 55 [t1
  12, i1 4]), lT 14 3 2, fA 15 1 3, lT 16 2 15, o1 17 (.call false 138 [t1 14, t1 16]), o1 18 (.buildSlice 1 [[.v (.int .i64 0)], [.v (.int .i64 0)]] [(0, (t1 13)), (1, (t1 17))]), o1 19 (.call false
  114 [t1 18]), m1 5 19]) (.seq (.seq (rF [m1 20 5, o1 21 (.arith .neq (t1 20) (i1 0))]) (.cond (t1 21) (.seq (rF [m1 22 5, m1 4 22]) .ret) .skip)) (.seq (rF [fA 23 3 3, lF 24 1 23, fA 25 1 3, fA 26 1
  25, lF 27 1 26, fA 28 1 3, fA 29 0 28, lF 30 1 29, o1 31 (.arith .sub (t1 27) (t1 30)), o1 32 (.arith .add (t1 31) (i1 1)), o1 33 (.call false 115 [t1 24, i1 1, t1 32]), m1 34 33, gT 35 34
  (.fieldAddr 4 (t1 3)), gT 36 34 (.load false 1 (t1 35)), gT 37 34 (.call false 115 [t1 36, i1 0, i1 100000]), o1 38 (.pick (t1 34) (t1 37) (.const (.v (.bool false)))), m1 6 38]) (.seq (rT [m1 39 6,
  o1 40 (.call true 55 [t1 39, i1 2]), fA 41 5 3, lF 42 1 41, o1 43 (.len false (t1 42)), o1 44 (.arith .gtr (t1 43) (i1 0)), o1 45 (.call false 55 [t1 44, i1 10]), o1 46 (.buildSlice 1 [[.v (.int
  .i64 0)], [.v (.int .i64 0)]] [(0, (t1 40)), (1, (t1 45))]), o1 47 (.call false 114 [t1 46]), m1 5 47]) (.seq (rF [o1 7 (.move (i1 (-1)))]) (.seq (.seq (rF [fA 48 5 3, lF 49 1 48, o1 50 (.len false
  (t1 49)), o1 51 (.move (i1 0))]) (.block 0 (.loop b_s_requestErr_l0))) b_s_requestErr_r0)))))))
abbrev k_s_requestErr_0 : List K := [.blk 0, .c b_s_requestErr_r0]
abbrev f_s_requestErr := finF [(.tmp 4)] false
def c_s_requestErr : AFn := .code 2 81 b_s_requestErr [(.tmp 4)] false
-- 118
def b_w_possible_1_r0 : ACode := (.seq (.seq (rF [lF 62 1 5]) (rF [o1 5 (.alloc [.v (.int .i64 0)]), ⟨none, none, (.store 1 (t1 5) (t1 62))⟩])) (rF [lF 30 1 5, o1 31 (.arith .add (t1 30) (i1 1)),
  ⟨none, none, (.store 1 (t1 5) (t1 31))⟩]))
def b_w_possible_1_y1 : ACode := (.block 5 (.seq (rF [lF 55 1 3, lF 56 1 2, lF 57 1 5, m1 58 9, o1 59 (.build [.v (.int .i64 0), .v (.int .i64 0), .slice .nilS 0 []] [(0, (1, (t1 56))), (1, (1, (t1
  57))), (2, (1, (t1 58)))]), o1 60 (.callv false (t1 55) [t1 59]), o1 61 (.un .not (t1 60))]) (.cond (t1 61) .ret .skip)))
def b_w_possible_1_a1 : ACode := (rF [m1 9 54])
def b_w_possible_1_r1 : ACode := (.seq (rF [m1 50 6, fA 51 6 4, lF 52 1 51, o1 53 (.call false 120 [t1 50, t1 52])]) (.block 4 (.rangeFunc (t1 53) [54] b_w_possible_1_a1 b_w_possible_1_y1)))
def b_w_possible_1_l2 : ACode := (.seq (rF [o1 36 (.arith .lss (t1 35) (t1 34))]) (.seq (.cond (t1 36) .skip (.exit 2)) (.seq (.block 3 (.seq (rF [o1 37 (.indexAddr none 1 (t1 33) (t1 35)), lF 38 1
  37, m1 8 38]) (.seq (rF [lF 39 1 1, m1 40 8, lF 41 1 5, fA 42 3 4, lF 43 1 42, o1 44 (.call false 119 [t1 39, t1 40, t1 41, t1 43])]) (.cond (t1 44) (rF [m1 45 6, m1 46 8, o1 47 (.buildSlice 1 [[.v
  (.int .i64 0)]] [(0, (t1 46))]), o1 48 (.append 1 (t1 45) (t1 47)), m1 6 48]) .skip)))) (rF [o1 49 (.arith .add (t1 35) (i1 1)), m1 35 49]))))
def b_w_possible_1_l0 : ACode := (.seq (.seq (rF [lF 21 1 5, fA 22 3 4, lF 23 1 22, o1 24 (.arith .add (t1 21) (t1 23)), o1 25 (.arith .sub (t1 24) (i1 1)), fA 26 1 4, fA 27 1 26, lF 28 1 27, o1 29
  (.arith .leq (t1 25) (t1 28))]) (.cond (t1 29) .skip (.exit 0))) (.seq (.block 1 (.seq (rF [o1 6 (.move (.const (.slice .nilS 0 [])))]) (.seq (.seq (rF [fA 32 5 4, lF 33 1 32, o1 34 (.len false (t1
  33)), o1 35 (.move (i1 0))]) (.block 2 (.loop b_w_possible_1_l2))) b_w_possible_1_r1))) b_w_possible_1_r0))
def b_w_possible_1 : ACode := (.seq (rF [o1 3 (.box 1 (t1 0))]) (.seq (rT [lF 10 1 1, o1 11 (.nilCheck (t1 10)), fA 12 0 11, fA 13 2 12, lF 14 1 13, lF 15 1 2, o1 16 (.indexAddr none 7 (t1 14) (t1
  15)), lT 17 7 16, o1 4 (.alloc [.v (.string ⟨#[]⟩), .v (.int .i64 0), .v (.int .i64 0), .v (.int .i64 0), .v (.int .i64 0), .slice .nilS 0 [], .v (.int .i64 0)]), ⟨none, none, (.store 7 (t1 4) (t1
  17))⟩]) (.seq (rF [fA 18 1 4, fA 19 0 18, lF 20 1 19, o1 5 (.alloc [.v (.int .i64 0)]), ⟨none, none, (.store 1 (t1 5) (t1 20))⟩]) (.block 0 (.loop b_w_possible_1_l0)))))
abbrev k_w_possible_1_1 : List K := [.blk 4, .blk 1, .c b_w_possible_1_r0, .lp b_w_possible_1_l0, .blk 0]
abbrev k_w_possible_1_2 : List K := [.blk 2, .c b_w_possible_1_r1, .blk 1, .c b_w_possible_1_r0, .lp b_w_possible_1_l0, .blk 0]
abbrev k_w_possible_1_0 : List K := [.blk 0]
abbrev f_w_possible_1 := finF [] false
def c_w_possible_1 : AFn := .code 3 63 b_w_possible_1 [] false
-- 119
def b_w_isOpen : ACode := (.seq (rF [o1 8 (.move (.const (.v (.bool false))))]) (.seq (rF [m1 9 0, m1 10 1, o1 11 (.nilCheck (t1 9)), fA 12 3 11, o1 13 (.indexAddr (some 4) 200 (t1 12) (t1 10)), m1 14
  2, m1 15 2, m1 16 3, o1 17 (.arith .add (t1 15) (t1 16)), o1 18 (.slice (.arr 200 1) (t1 13) (some (t1 14)) (some (t1 17)) none), o1 19 (.call false 25 [t1 18, .const (.v (.bool true))]), o1 20 (.un
  .not (t1 19)), m1 8 20]) .ret))
abbrev f_w_isOpen := finF [(.tmp 8)] false
def c_w_isOpen : AFn := .code 4 21 b_w_isOpen [(.tmp 8)] false
-- 120
def b_s_groups : ACode := (.seq (rF [o1 2 (.box 1 (t1 0)), o1 3 (.box 1 (t1 1)), o1 4 (.move (.const (.v .nilFunc)))]) (.seq (rF [o1 5 (.mkFn 139 [] [t1 3, t1 2]), m1 4 5]) .ret))
abbrev f_s_groups := finF [(.tmp 4)] false
def c_s_groups : AFn := .code 2 6 b_s_groups [(.tmp 4)] false
-- 121
def b_z_ContainsFunc_SchedulePass : ACode := (.seq (rF [o1 4 (.move (.const (.v (.bool false))))]) (.seq (rF [m1 5 0, m1 6 1, o1 7 (.call false 63 [t1 5, t1 6]), o1 8 (.arith .geq (t1 7) (i1 0)), m1 4
  8]) .ret))
abbrev f_z_ContainsFunc_SchedulePass := finF [(.tmp 4)] false
def c_z_ContainsFunc_SchedulePass : AFn := .code 2 9 b_z_ContainsFunc_SchedulePass [(.tmp 4)] false
-- 122
def b_w_conflicts_1 : ACode := (.seq (rF [o1 3 (.box 3 (t1 0)), o1 4 (.move (.const (.v (.bool false))))]) (.seq (rF [lF 5 1 1, lT 6 3 3, lT 7 3 2, o1 8 (.call false 123 [t1 5, t1 6, t1 7]), m1 4 8])
  .ret))
abbrev f_w_conflicts_1 := finF [(.tmp 4)] false
def c_w_conflicts_1 : AFn := .code 3 9 b_w_conflicts_1 [(.tmp 4)] false
-- 123
def b_w_conflict : ACode := (.seq (rF [o1 3 (.box 1 (t1 0)), o1 4 (.box 3 (t1 1)), o1 5 (.box 3 (t1 2)), o1 6 (.move (.const (.v (.bool false))))]) (.seq (.seq (rF [fA 8 0 4, lF 9 1 8, fA 10 0 5, lF
  11 1 10, o1 12 (.arith .eql (t1 9) (t1 11))]) (.cond (t1 12) (.seq (rF [o1 6 (.move (.const (.v (.bool true))))]) .ret) .skip)) (.seq (.seq (rF [fA 13 1 5, lF 14 1 13, fA 15 1 4, lF 16 1 15, o1 17
  (.arith .lss (t1 14) (t1 16))]) (.cond (t1 17) (rF [lT 18 3 5, lT 19 3 4, ⟨none, none, (.store 3 (t1 4) (t1 18))⟩, ⟨none, none, (.store 3 (t1 5) (t1 19))⟩]) .skip)) (.seq (rT [lF 20 1 3, o1 21
  (.nilCheck (t1 20)), fA 22 0 21, fA 23 2 22, lF 24 1 23, fA 25 0 4, lF 26 1 25, o1 27 (.indexAddr none 7 (t1 24) (t1 26)), fA 28 0 27, lF 29 1 28, lF 30 1 3, o1 31 (.nilCheck (t1 30)), fA 32 0 31,
  fA 33 2 32, lF 34 1 33, fA 35 0 5, lF 36 1 35, o1 37 (.indexAddr none 7 (t1 34) (t1 36)), fA 38 0 37, lF 39 1 38, o1 40 (.arith .eql (t1 29) (t1 39)), o1 7 (.alloc [.v (.bool false)]), ⟨none, none,
  (.store 1 (t1 7) (t1 40))⟩]) (.seq (rF [fA 41 2 4, lF 42 1 41, o1 43 (.mkFn 143 [] [t1 3, t1 7, t1 5, t1 4]), o1 44 (.call false 142 [t1 42, t1 43]), m1 6 44]) .ret)))))
abbrev f_w_conflict := finF [(.tmp 6)] false
def c_w_conflict : AFn := .code 3 45 b_w_conflict [(.tmp 6)] false
-- 124
def b_w_requestErr : ACode := (.seq (rF [o1 4 (.move (i1 0))]) (.seq (rF [m1 5 1, m1 6 0, o1 7 (.nilCheck (t1 6)), fA 8 0 7, fA 9 2 8, lF 10 1 9, o1 11 (.len false (t1 10)), o1 12 (.arith .sub (t1 11)
  (i1 1)), o1 13 (.call false 115 [t1 5, i1 0, t1 12]), o1 14 (.call false 55 [t1 13, i1 6]), m1 4 14]) .ret))
abbrev f_w_requestErr := finF [(.tmp 4)] false
def c_w_requestErr : AFn := .code 2 15 b_w_requestErr [(.tmp 4)] false
-- 135
def b_z_ContainsFunc_ScheduleAntenna : ACode := (.seq (rF [o1 4 (.move (.const (.v (.bool false))))]) (.seq (rF [m1 5 0, m1 6 1, o1 7 (.call false 149 [t1 5, t1 6]), o1 8 (.arith .geq (t1 7) (i1 0)),
  m1 4 8]) .ret))
abbrev f_z_ContainsFunc_ScheduleAntenna := finF [(.tmp 4)] false
def c_z_ContainsFunc_ScheduleAntenna : AFn := .code 2 9 b_z_ContainsFunc_ScheduleAntenna [(.tmp 4)] false
-- 136
def b_s_antennaErr_1 : ACode := (.seq (rF [o1 2 (.box 3 (t1 0)), o1 3 (.move (.const (.v (.bool false))))]) (.seq (rF [fA 4 0 2, lF 5 1 4, fA 6 0 1, lF 7 1 6, o1 8 (.arith .eql (t1 5) (t1 7)), m1 3
  8]) .ret))
abbrev f_s_antennaErr_1 := finF [(.tmp 3)] false
def c_s_antennaErr_1 : AFn := .code 2 9 b_s_antennaErr_1 [(.tmp 3)] false
-- 137
def b_s_isName_r0 : ACode := (.seq (rF [m1 47 0, o1 48 (.arith .neq (t1 47) (.const (.v (.string ⟨#[]⟩)))), m1 49 48, gT 50 49 (.move (t1 0)), gT 51 49 (.len true (t1 50)), gT 52 49 (.arith .leq (t1
  51) (i1 12)), o1 53 (.pick (t1 49) (t1 52) (.const (.v (.bool false)))), m1 2 53]) .ret)
def b_s_isName_l0 : ACode := (.seq (rF [o1 10 (.arith .lss (t1 9) (t1 8))]) (.seq (.cond (t1 10) .skip (.exit 0)) (.seq (.block 1 (.seq (rF [m1 11 9, o1 12 (.indexAddr none 1 (t1 7) (t1 9)), lF 13 1
  12, m1 3 11, m1 4 13]) (.seq (rF [m1 14 4, o1 15 (.arith .geq (t1 14) (.const (.v (.int .u8 97)))), m1 16 15, gT 17 16 (.move (t1 4)), gT 18 16 (.arith .leq (t1 17) (.const (.v (.int .u8 122)))), o1
  19 (.pick (t1 16) (t1 18) (.const (.v (.bool false)))), m1 20 19, gF 21 20 (.move (t1 4)), gF 22 20 (.arith .geq (t1 21) (.const (.v (.int .u8 65)))), gF 23 20 (.move (t1 22)), gT 24 23 (.move (t1
  4)), gT 25 23 (.arith .leq (t1 24) (.const (.v (.int .u8 90)))), gF 26 20 (.pick (t1 23) (t1 25) (.const (.v (.bool false)))), o1 27 (.pick (t1 20) (.const (.v (.bool true))) (t1 26)), m1 5 27])
  (.seq (rF [m1 28 5, o1 29 (.un .not (t1 28)), m1 30 29, gT 31 30 (.move (t1 3)), gT 32 30 (.arith .eql (t1 31) (i1 0)), gT 33 30 (.move (t1 32)), gF 34 33 (.move (t1 4)), gF 35 33 (.arith .neq (t1
  34) (.const (.v (.int .u8 45)))), gF 36 33 (.move (t1 35)), gT 37 36 (.move (t1 4)), gT 38 36 (.arith .lss (t1 37) (.const (.v (.int .u8 48)))), gT 39 36 (.move (t1 38)), gF 40 39 (.move (t1 4)), gF
  41 39 (.arith .gtr (t1 40) (.const (.v (.int .u8 57)))), gT 42 36 (.pick (t1 39) (.const (.v (.bool true))) (t1 41)), gF 43 33 (.pick (t1 36) (t1 42) (.const (.v (.bool false)))), gT 44 30 (.pick
  (t1 33) (.const (.v (.bool true))) (t1 43)), o1 45 (.pick (t1 30) (t1 44) (.const (.v (.bool false))))]) (.cond (t1 45) (.seq (rF [o1 2 (.move (.const (.v (.bool false))))]) .ret) .skip))))) (rF [o1
  46 (.arith .add (t1 9) (i1 1)), m1 9 46]))))
def b_s_isName : ACode := (.seq (rF [o1 2 (.move (.const (.v (.bool false))))]) (.seq (.seq (rF [m1 6 0, o1 7 (.conv .bytes (t1 6)), o1 8 (.len false (t1 7)), o1 9 (.move (i1 0))]) (.block 0 (.loop
  b_s_isName_l0))) b_s_isName_r0))
abbrev k_s_isName_0 : List K := [.blk 0, .c b_s_isName_r0]
abbrev f_s_isName := finF [(.tmp 2)] false
def c_s_isName : AFn := .code 1 54 b_s_isName [(.tmp 2)] false
-- 138
def b_s_slotsErr : ACode := (.seq (rF [o1 2 (.box 3 (t1 0)), o1 3 (.box 2 (t1 1)), o1 4 (.move (i1 0))]) (.seq (rF [o1 6 (.mkFn 150 [] [t1 2]), m1 5 6]) (.seq (rT [m1 7 5, fA 8 0 3, lF 9 1 8, o1 10
  (.callv true (t1 7) [t1 9]), m1 11 10, gT 12 11 (.move (t1 5)), gT 13 11 (.fieldAddr 1 (t1 3)), gT 14 11 (.load false 1 (t1 13)), gT 15 11 (.callv true (t1 12) [t1 14]), o1 16 (.pick (t1 11) (t1 15)
  (.const (.v (.bool false)))), o1 17 (.call true 55 [t1 16, i1 2]), fA 18 0 3, lF 19 1 18, fA 20 1 3, lF 21 1 20, o1 22 (.arith .leq (t1 19) (t1 21)), o1 23 (.call false 55 [t1 22, i1 9]), o1 24
  (.buildSlice 1 [[.v (.int .i64 0)], [.v (.int .i64 0)]] [(0, (t1 17)), (1, (t1 23))]), o1 25 (.call false 114 [t1 24]), m1 4 25]) .ret)))
abbrev f_s_slotsErr := finF [(.tmp 4)] false
def c_s_slotsErr : AFn := .code 2 26 b_s_slotsErr [(.tmp 4)] false
-- 139
def b_s_groups_1 : ACode := (.seq (rF [o1 3 (.box 1 (t1 0))]) (.seq (rF [o1 4 (.alloc [.v .nilFunc])]) (.seq (rF [o1 5 (.mkFn 140 [] [t1 1, t1 3, t1 4]), ⟨none, none, (.store 1 (t1 4) (t1 5))⟩]) (rF
  [lF 6 1 4, lF 7 1 2, o1 8 (.callv false (t1 6) [.const (.slice .nilS 0 []), t1 7])]))))
abbrev f_s_groups_1 := finF [] false
def c_s_groups_1 : AFn := .code 3 9 b_s_groups_1 [] false
-- 140
def b_s_groups_1_1_r0 : ACode := (.seq (rF [o1 7 (.move (.const (.v (.bool true))))]) .ret)
def b_s_groups_1_1_l0 : ACode := (.seq (rF [o1 21 (.arith .lss (t1 20) (t1 19))]) (.seq (.cond (t1 21) .skip (.exit 0)) (.seq (.block 1 (.seq (rF [m1 22 20, o1 23 (.indexAddr none 1 (t1 18) (t1 20)),
  lF 24 1 23, m1 8 22, m1 9 24]) (.seq (rT [lF 25 1 4, m1 26 0, m1 27 0, o1 28 (.len false (t1 27)), m1 29 0, o1 30 (.len false (t1 29)), o1 31 (.slice (.sl 1) (t1 26) none (some (t1 28)) (some (t1
  30))), m1 32 9, o1 33 (.buildSlice 1 [[.v (.int .i64 0)]] [(0, (t1 32))]), o1 34 (.append 1 (t1 31) (t1 33)), m1 35 1, m1 36 8, o1 37 (.arith .add (t1 36) (i1 1)), o1 38 (.slice (.sl 1) (t1 35)
  (some (t1 37)) none none), o1 39 (.callv false (t1 25) [t1 34, t1 38]), o1 40 (.un .not (t1 39))]) (.cond (t1 40) (.seq (rF [o1 7 (.move (.const (.v (.bool false))))]) .ret) .skip)))) (rF [o1 41
  (.arith .add (t1 20) (i1 1)), m1 20 41]))))
def b_s_groups_1_1 : ACode := (.seq (rF [o1 7 (.move (.const (.v (.bool false))))]) (.seq (.seq (rF [m1 10 0, o1 11 (.len false (t1 10)), lF 12 1 2, o1 13 (.arith .eql (t1 11) (t1 12))]) (.cond (t1
  13) (.seq (rT [lF 14 1 3, m1 15 0, o1 16 (.call true 141 [t1 15]), o1 17 (.callv false (t1 14) [t1 16]), m1 7 17]) .ret) .skip)) (.seq (.seq (rF [m1 18 1, o1 19 (.len false (t1 18)), o1 20 (.move
  (i1 0))]) (.block 0 (.loop b_s_groups_1_1_l0))) b_s_groups_1_1_r0)))
abbrev k_s_groups_1_1_0 : List K := [.blk 0, .c b_s_groups_1_1_r0]
abbrev f_s_groups_1_1 := finF [(.tmp 7)] false
def c_s_groups_1_1 : AFn := .code 5 42 b_s_groups_1_1 [(.tmp 7)] false
-- 141
def b_z_Clone_int : ACode := (.seq (rF [o1 2 (.move (.const (.slice .nilS 0 [])))]) (.seq (.seq (rF [m1 3 0, o1 4 (.eqv false .slice (t1 3) (.const (.slice .nilS 0 [])))]) (.cond (t1 4) (.seq (rF [o1
  2 (.move (.const (.slice .nilS 0 [])))]) .ret) .skip)) (.seq (rF [o1 5 (.buildSlice 1 [] []), m1 6 0, o1 7 (.append 1 (t1 5) (t1 6)), m1 2 7]) .ret)))
abbrev f_z_Clone_int := finF [(.tmp 2)] true
def c_z_Clone_int : AFn := .code 1 8 b_z_Clone_int [(.tmp 2)] true
-- 142
def b_z_ContainsFunc_int : ACode := (.seq (rF [o1 4 (.move (.const (.v (.bool false))))]) (.seq (rF [m1 5 0, m1 6 1, o1 7 (.call false 151 [t1 5, t1 6]), o1 8 (.arith .geq (t1 7) (i1 0)), m1 4 8])
  .ret))
abbrev f_z_ContainsFunc_int := finF [(.tmp 4)] false
def c_z_ContainsFunc_int : AFn := .code 2 9 b_z_ContainsFunc_int [(.tmp 4)] false
-- 143
def b_w_conflict_1 : ACode := (.seq (rF [o1 6 (.move (.const (.v (.bool false))))]) (.seq (rF [lF 8 1 1, o1 9 (.nilCheck (t1 8)), fA 10 0 9, fA 11 1 10, lF 12 1 11, m1 13 0, o1 14 (.indexAddr none 3
  (t1 12) (t1 13)), fA 15 1 14, lF 16 1 15, m1 7 16]) (.seq (.seq (rF [lF 17 1 2]) (.cond (t1 17) (rF [o1 7 (.move (i1 0))]) .skip)) (.seq (rT [fA 18 2 3, lF 19 1 18, m1 20 0, o1 21 (.call false 60
  [t1 19, t1 20]), m1 22 21, gT 23 22 (.fieldAddr 1 (t1 3)), gT 24 22 (.load false 1 (t1 23)), gT 25 22 (.load false 1 (t1 1)), gT 26 22 (.load true 3 (t1 4)), gT 27 22 (.call true 144 [t1 25, t1
  26]), gT 28 22 (.arith .sub (t1 24) (t1 27)), gT 29 22 (.move (t1 7)), gT 30 22 (.arith .lss (t1 28) (t1 29)), o1 31 (.pick (t1 22) (t1 30) (.const (.v (.bool false)))), m1 6 31]) .ret))))
abbrev f_w_conflict_1 := finF [(.tmp 6)] false
def c_w_conflict_1 : AFn := .code 5 32 b_w_conflict_1 [(.tmp 6)] false
-- 144
def b_w_end : ACode := (.seq (rF [o1 3 (.box 3 (t1 1)), o1 4 (.move (i1 0))]) (.seq (rT [fA 5 1 3, lF 6 1 5, m1 7 0, o1 8 (.nilCheck (t1 7)), fA 9 0 8, fA 10 2 9, lF 11 1 10, fA 12 0 3, lF 13 1 12, o1
  14 (.indexAddr none 7 (t1 11) (t1 13)), fA 15 3 14, lF 16 1 15, o1 17 (.arith .add (t1 6) (t1 16)), m1 4 17]) .ret))
abbrev f_w_end := finF [(.tmp 4)] false
def c_w_end : AFn := .code 2 18 b_w_end [(.tmp 4)] false
-- 149
def b_z_IndexFunc_ScheduleAntenna_r0 : ACode := (.seq (rF [o1 4 (.move (i1 (-1)))]) .ret)
def b_z_IndexFunc_ScheduleAntenna_l0 : ACode := (.seq (rF [o1 9 (.arith .lss (t1 8) (t1 7))]) (.seq (.cond (t1 9) .skip (.exit 0)) (.seq (.block 1 (.seq (rF [m1 10 8, m1 5 10]) (.seq (rF [m1 11 1, m1
  12 0, m1 13 5, o1 14 (.indexAddr none 3 (t1 12) (t1 13)), lT 15 3 14, o1 16 (.callv false (t1 11) [t1 15])]) (.cond (t1 16) (.seq (rF [m1 17 5, m1 4 17]) .ret) .skip)))) (rF [o1 18 (.arith .add (t1
  8) (i1 1)), m1 8 18]))))
def b_z_IndexFunc_ScheduleAntenna : ACode := (.seq (rF [o1 4 (.move (i1 0))]) (.seq (.seq (rF [m1 6 0, o1 7 (.len false (t1 6)), o1 8 (.move (i1 0))]) (.block 0 (.loop
  b_z_IndexFunc_ScheduleAntenna_l0))) b_z_IndexFunc_ScheduleAntenna_r0))
abbrev k_z_IndexFunc_ScheduleAntenna_0 : List K := [.blk 0, .c b_z_IndexFunc_ScheduleAntenna_r0]
abbrev f_z_IndexFunc_ScheduleAntenna := finF [(.tmp 4)] false
def c_z_IndexFunc_ScheduleAntenna : AFn := .code 2 19 b_z_IndexFunc_ScheduleAntenna [(.tmp 4)] false
-- 150
def b_s_slotsErr_1 : ACode := (.seq (rF [o1 3 (.move (.const (.v (.bool false))))]) (.seq (rF [m1 4 0, fA 5 0 1, lF 6 1 5, o1 7 (.arith .sub (t1 6) (i1 1)), o1 8 (.call false 115 [t1 4, i1 0, t1 7]),
  m1 3 8]) .ret))
abbrev f_s_slotsErr_1 := finF [(.tmp 3)] false
def c_s_slotsErr_1 : AFn := .code 2 9 b_s_slotsErr_1 [(.tmp 3)] false
-- 151
def b_z_IndexFunc_int_r0 : ACode := (.seq (rF [o1 4 (.move (i1 (-1)))]) .ret)
def b_z_IndexFunc_int_l0 : ACode := (.seq (rF [o1 9 (.arith .lss (t1 8) (t1 7))]) (.seq (.cond (t1 9) .skip (.exit 0)) (.seq (.block 1 (.seq (rF [m1 10 8, m1 5 10]) (.seq (rF [m1 11 1, m1 12 0, m1 13
  5, o1 14 (.indexAddr none 1 (t1 12) (t1 13)), lF 15 1 14, o1 16 (.callv false (t1 11) [t1 15])]) (.cond (t1 16) (.seq (rF [m1 17 5, m1 4 17]) .ret) .skip)))) (rF [o1 18 (.arith .add (t1 8) (i1 1)),
  m1 8 18]))))
def b_z_IndexFunc_int : ACode := (.seq (rF [o1 4 (.move (i1 0))]) (.seq (.seq (rF [m1 6 0, o1 7 (.len false (t1 6)), o1 8 (.move (i1 0))]) (.block 0 (.loop b_z_IndexFunc_int_l0)))
  b_z_IndexFunc_int_r0))
abbrev k_z_IndexFunc_int_0 : List K := [.blk 0, .c b_z_IndexFunc_int_r0]
abbrev f_z_IndexFunc_int := finF [(.tmp 4)] false
def c_z_IndexFunc_int : AFn := .code 2 19 b_z_IndexFunc_int [(.tmp 4)] false

def tab : List (Option AFn) := [none, none, none, some c_l_ScheduleStrings, some c_l_awake, some c_l_Few, some c_l_short, some c_s_FormatPlan, some c_r_Copy, some c_s_ParsePlan, some c_r_ParsePlan,
  some c_r_FormatPlan, some c_r_Same, some c_r_PlanErr, some c_s_Best, some c_l_Week, some c_s_ShareOf, some c_b_Whole, some pItoaA, some pJoin, some c_b_CopyInts, some c_strings_SplitSeq, some pCut,
  some pSplit, some c_s_number, some c_z_Contains_bool, some c_b_Cut, some c_r_passOf, some c_b_Decimal, some c_r_compare, some c_r_WeekErr, some c_r_CheckPlan, some c_s_openSmall, some c_w_free, some
  c_c_best, some c_s_openPlan, some c_s_passOf, some c_s_share, none, none, none, none, some c_strings_splitSeq, none, none, some pAtoi, some c_z_Index_bool, some c_r_number, some c_b_Size, some
  c_b_Before, some c_r_CheckWeek, some c_r_passErr, some c_s_open, some c_s_openSmall_1, some c_z_ContainsFunc_ScheduleRequest, some c_s_unless, some c_w_placements, some c_c_worth, some
  c_c_isPermitted, some c_c_fits, some c_z_Contains_int, some c_c_next, some c_w_check, some c_z_IndexFunc_SchedulePass, some c_s_passOf_1, none, none, none, some c_strings_splitSeq_1, none, some
  pIndex, none, none, none, none, none, some c_b_Number, some c_b_Within, some c_r_antennaErr, some c_r_requestErr, some c_b_Has, some c_r_shut, some c_r_Conflict, some c_s_CheckWeek, some
  c_z_IndexFunc_ScheduleRequest, some c_w_possible, some c_w_conflicts, some c_s_members, some c_w_without, some c_w_fit, some c_z_Index_int, some c_z_Clone_SchedulePass, some c_w_passErr, none, none,
  none, none, none, none, none, none, none, none, none, none, none, none, none, none, none, none, some c_b_IsName, some c_r_slotsErr, some c_r_closed, some c_s_first, some c_s_within, some
  c_s_antennaErr, some c_s_requestErr, some c_w_possible_1, some c_w_isOpen, some c_s_groups, some c_z_ContainsFunc_SchedulePass, some c_w_conflicts_1, some c_w_conflict, some c_w_requestErr, none,
  none, none, none, none, none, none, none, none, none, some c_z_ContainsFunc_ScheduleAntenna, some c_s_antennaErr_1, some c_s_isName, some c_s_slotsErr, some c_s_groups_1, some c_s_groups_1_1, some
  c_z_Clone_int, some c_z_ContainsFunc_int, some c_w_conflict_1, some c_w_end, none, none, none, none, some c_z_IndexFunc_ScheduleAntenna, some c_s_slotsErr_1, some c_z_IndexFunc_int]
def AP : FuncId → Option AFn := fun f => (tab[f]?).join

end Go.Ax.Sx.Sc
