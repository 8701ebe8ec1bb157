/- The codes that are computed with are those of the program: each one is what compFn gives; what is taken from the library is what the shelf says of it. -/
import Derived.Test.YtdopccjokmnccaaT8
import Derived.Test.YtdopccjokmnccaaT7
import Derived.Test.YtdopccjokmnccaaProg
import Derived.KernelRfl
import Derived.Test.YtdopccjokmnccaaT10
namespace Go.Proofs.Ytdopccjokmnccaa.AxOk
open Go.Ax Go.Ax.Sx Go.Ax.Sx.Lt
set_option maxRecDepth 100000
theorem k3 : compFn Try.prog false ⟨false, [], [62], false, false⟩ Try.f3 = some c_t_TopPathLightTimes := by kernel_rfl
theorem k4 : compFn Try.prog false ⟨false, [], [62], false, false⟩ Try.f4 = some c_t_pathAwake := by kernel_rfl
theorem k5 : compFn Try.prog false ⟨true, [], [62], false, false⟩ Try.f5 = some c_r_Copy := by kernel_rfl
theorem k6 : compFn Try.prog false ⟨false, [], [62], false, false⟩ Try.f6 = some c_l_Few := by kernel_rfl
theorem k7 : compFn Try.prog false ⟨false, [], [62], false, false⟩ Try.f7 = some c_r_BothErr := by kernel_rfl
theorem k8 : compFn Try.prog false ⟨false, [], [62], false, false⟩ Try.f8 = some c_b_Within := by kernel_rfl
theorem k9 : compFn Try.prog false ⟨false, [], [62], false, false⟩ Try.f9 = some c_t_pathWithin := by kernel_rfl
theorem k10 : compFn Try.prog false ⟨false, [], [62], false, false⟩ Try.f10 = some   c_r_TimesErr := by kernel_rfl
theorem k11 : compFn Try.prog false ⟨true, [5], [62], false, false⟩ Try.f11 = some c_t_pathShifted := by kernel_rfl
theorem k12 : compFn Try.prog false ⟨false, [], [62], false, false⟩ Try.f12 = some c_path_DistanceAt := by kernel_rfl
theorem k13 : compFn Try.prog false ⟨false, [], [62], false, false⟩ Try.f13 = some c_path_ReceivedAt := by kernel_rfl
theorem k14 : compFn Try.prog false ⟨false, [], [62], false, false⟩ Try.f14 = some c_path_RoundTrip := by kernel_rfl
theorem k15 : compFn Try.prog false ⟨false, [], [62], false, false⟩ Try.f15 = some c_l_Station := by kernel_rfl
theorem k16 : compFn Try.prog false ⟨false, [], [62], false, false⟩ Try.f16 = some c_l_Probe := by kernel_rfl
theorem k17 : compFn Try.prog false ⟨false, [], [62], false, false⟩ Try.f17 = some c_r_TrackErr := by kernel_rfl
theorem k18 : compFn Try.prog false ⟨false, [], [62], false, false⟩ Try.f18 = some c_r_TimeErr := by kernel_rfl
theorem k19 : compFn Try.prog false ⟨false, [], [62], false, false⟩ Try.f19 = some   c_path_trackErr := by kernel_rfl
theorem k20 : compFn Try.prog false ⟨false, [], [62], false, false⟩ Try.f20 = some c_path_timeErr := by kernel_rfl
theorem k21 : compFn Try.prog false ⟨false, [], [62], false, false⟩ Try.f21 = some c_path_between := by kernel_rfl
theorem k22 : compFn Try.prog false ⟨false, [], [62], false, false⟩ Try.f22 = some c_path_gap_distances := by kernel_rfl
theorem k23 : compFn Try.prog false ⟨false, [], [62], false, false⟩ Try.f23 = some c_path_received := by kernel_rfl
theorem k24 : compFn Try.prog false ⟨false, [], [62], false, false⟩ Try.f24 = some c_path_first := by kernel_rfl
theorem k25 : compFn Try.prog false ⟨false, [], [62], false, false⟩ Try.f25 = some c_r_CheckTrack := by kernel_rfl
theorem k26 : compFn Try.prog false ⟨false, [], [62], false, false⟩ Try.f26 = some c_r_First := by kernel_rfl
theorem k27 : compFn Try.prog false ⟨false, [], [62], false, false⟩ Try.f27 = some c_r_Last := by kernel_rfl
theorem k28 : compFn Try.prog false ⟨false, [], [62], false, false⟩ Try.f28 = some   c_path_CheckTrack := by kernel_rfl
theorem k29 : compFn Try.prog false ⟨false, [], [62], false, false⟩ Try.f29 = some c_path_within := by kernel_rfl
theorem k30 : compFn Try.prog false ⟨false, [], [62], false, false⟩ Try.f30 = some c_path_last := by kernel_rfl
theorem k31 : compFn Try.prog false ⟨false, [], [62], false, false⟩ Try.f31 = some c_path_at := by kernel_rfl
theorem k32 : compFn Try.prog false ⟨false, [], [62], false, false⟩ Try.f32 = some c_path_gap_nearest := by kernel_rfl
theorem k33 : compFn Try.prog false ⟨false, [], [62], false, false⟩ Try.f33 = some c_path_gap_farthest := by kernel_rfl
theorem k34 : compFn Try.prog false ⟨false, [], [62], false, false⟩ Try.f34 = some c_sort_Search := by kernel_rfl
theorem k35 : compFn Try.prog false ⟨false, [], [62], false, false⟩ Try.f35 = some c_path_gap_distances_1 := by kernel_rfl
theorem k36 : compFn Try.prog false ⟨false, [], [62], false, false⟩ Try.f36 = some c_path_wide_less := by kernel_rfl
theorem k37 : compFn Try.prog false ⟨false, [], [62], false, false⟩ Try.f37 = some c_path_squared := by kernel_rfl
theorem k38 : compFn Try.prog false ⟨false, [], [62], false, false⟩ Try.f38 = some c_path_gap_distances_2 := by kernel_rfl
theorem k39 : compFn Try.prog false ⟨false, [], [62], false, false⟩ Try.f39 = some c_path_arrived := by kernel_rfl
theorem k40 : compFn Try.prog false ⟨false, [], [62], false, false⟩ Try.f40 = some c_path_received_1 := by kernel_rfl
theorem k41 : compFn Try.prog false ⟨false, [], [62], false, false⟩ Try.f41 = some c_path_received_2 := by kernel_rfl
theorem k42 : compFn Try.prog false ⟨false, [], [62], false, false⟩ Try.f42 = some c_path_missing := by kernel_rfl
theorem k43 : compFn Try.prog false ⟨false, [], [62], false, false⟩ Try.f43 = some c_r_knotErr := by kernel_rfl
theorem k44 : compFn Try.prog false ⟨false, [], [62], false, false⟩ Try.f44 = some c_path_unless := by kernel_rfl
theorem k45 : compFn Try.prog false ⟨false, [], [62], false, false⟩ Try.f45 = some c_path_knotErr := by kernel_rfl
theorem k46 : compFn Try.prog false ⟨false, [], [62], false, false⟩ Try.f46 = some c_path_at_1 := by kernel_rfl
theorem k47 : compFn Try.prog false ⟨false, [], [62], false, false⟩ Try.f47 = some c_path_ofPoint := by kernel_rfl
theorem k48 : compFn Try.prog false ⟨false, [], [62], false, false⟩ Try.f48 = some c_path_triple_minus := by kernel_rfl
theorem k49 : compFn Try.prog false ⟨false, [], [62], false, false⟩ Try.f49 = some c_path_gap_sum := by kernel_rfl
theorem k50 : compFn Try.prog false ⟨false, [], [62], false, false⟩ Try.f50 = some c_path_gap_nearest_1 := by kernel_rfl
theorem k51 : compFn Try.prog false ⟨false, [], [62], false, false⟩ Try.f51 = some c_path_gap_farthest_1 := by kernel_rfl
theorem k52 : compFn Try.prog false ⟨false, [], [62], false, false⟩ Try.f52 = some c_math_bits_Mul64 := by kernel_rfl
theorem k53 : compFn Try.prog false ⟨false, [], [62], false, false⟩ Try.f53 = some c_b_IsTick := by kernel_rfl
theorem k54 : compFn Try.prog false ⟨false, [], [62], false, false⟩ Try.f54 = some c_b_Square := by kernel_rfl
theorem k55 : compFn Try.prog false ⟨false, [], [62], false, false⟩ Try.f55 = some c_b_Minus := by kernel_rfl
theorem k56 : compFn Try.prog false ⟨false, [], [62], false, false⟩ Try.f56 = some c_path_knotErr_1 := by kernel_rfl
theorem k57 : compFn Try.prog false ⟨false, [], [62], false, false⟩ Try.f57 = some c_path_small := by kernel_rfl
theorem k58 : compFn Try.prog false ⟨false, [], [62], false, false⟩ Try.f58 = some c_path_triple_all := by kernel_rfl
theorem k59 : compFn Try.prog false ⟨false, [], [62], false, false⟩ Try.f59 = some c_path_triple_dot := by kernel_rfl
theorem k60 : compFn Try.prog false ⟨false, [], [62], false, false⟩ Try.f60 = some c_path_wide_plus := by kernel_rfl
theorem k61 : compFn Try.prog false ⟨false, [], [62], false, false⟩ Try.f61 = some c_b_Dot := by kernel_rfl
theorem code_ok (f : FuncId) (np nt : Nat) (b : ACode) (rs : List ARes) (own : Bool) (h : AP f = some (.code np nt b rs own)) : ∃ fn mu, Try.prog.funcs[f]? = some fn ∧ compFn Try.prog own mu fn = some (.code np nt b rs own) := by
 match f, h with
 | 0, h => have e : AP 0 = none := rfl; rw [e] at h; cases h
 | 1, h => have e : AP 1 = none := rfl; rw [e] at h; cases h
 | 2, h => have e : AP 2 = none := rfl; rw [e] at h; cases h
 | 3, h => have e : c_t_TopPathLightTimes = .code np nt b rs own := Option.some.inj h; unfold c_t_TopPathLightTimes at e; cases e; exact ⟨_, _, Try.func3, k3⟩
 | 4, h => have e : c_t_pathAwake = .code np nt b rs own := Option.some.inj h; unfold c_t_pathAwake at e; cases e; exact ⟨_, _, Try.func4, k4⟩
 | 5, h => have e : c_r_Copy = .code np nt b rs own := Option.some.inj h; unfold c_r_Copy at e; cases e; exact ⟨_, _, Try.func5, k5⟩
 | 6, h => have e : c_l_Few = .code np nt b rs own := Option.some.inj h; unfold c_l_Few at e; cases e; exact ⟨_, _, Try.func6, k6⟩
 | 7, h => have e : c_r_BothErr = .code np nt b rs own := Option.some.inj h; unfold c_r_BothErr at e; cases e; exact ⟨_, _, Try.func7, k7⟩
 | 8, h => have e : c_b_Within = .code np nt b rs own := Option.some.inj h; unfold c_b_Within at e; cases e; exact ⟨_, _, Try.func8, k8⟩
 | 9, h => have e : c_t_pathWithin = .code np nt b rs own := Option.some.inj h; unfold c_t_pathWithin at e; cases e; exact ⟨_, _, Try.func9, k9⟩
 | 10, h => have e :   c_r_TimesErr = .code np nt b rs own := Option.some.inj h; unfold   c_r_TimesErr at e; cases e; exact ⟨_, _, Try.func10, k10⟩
 | 11, h => have e : c_t_pathShifted = .code np nt b rs own := Option.some.inj h; unfold c_t_pathShifted at e; cases e; exact ⟨_, _, Try.func11, k11⟩
 | 12, h => have e : c_path_DistanceAt = .code np nt b rs own := Option.some.inj h; unfold c_path_DistanceAt at e; cases e; exact ⟨_, _, Try.func12, k12⟩
 | 13, h => have e : c_path_ReceivedAt = .code np nt b rs own := Option.some.inj h; unfold c_path_ReceivedAt at e; cases e; exact ⟨_, _, Try.func13, k13⟩
 | 14, h => have e : c_path_RoundTrip = .code np nt b rs own := Option.some.inj h; unfold c_path_RoundTrip at e; cases e; exact ⟨_, _, Try.func14, k14⟩
 | 15, h => have e : c_l_Station = .code np nt b rs own := Option.some.inj h; unfold c_l_Station at e; cases e; exact ⟨_, _, Try.func15, k15⟩
 | 16, h => have e : c_l_Probe = .code np nt b rs own := Option.some.inj h; unfold c_l_Probe at e; cases e; exact ⟨_, _, Try.func16, k16⟩
 | 17, h => have e : c_r_TrackErr = .code np nt b rs own := Option.some.inj h; unfold c_r_TrackErr at e; cases e; exact ⟨_, _, Try.func17, k17⟩
 | 18, h => have e : c_r_TimeErr = .code np nt b rs own := Option.some.inj h; unfold c_r_TimeErr at e; cases e; exact ⟨_, _, Try.func18, k18⟩
 | 19, h => have e :   c_path_trackErr = .code np nt b rs own := Option.some.inj h; unfold   c_path_trackErr at e; cases e; exact ⟨_, _, Try.func19, k19⟩
 | 20, h => have e : c_path_timeErr = .code np nt b rs own := Option.some.inj h; unfold c_path_timeErr at e; cases e; exact ⟨_, _, Try.func20, k20⟩
 | 21, h => have e : c_path_between = .code np nt b rs own := Option.some.inj h; unfold c_path_between at e; cases e; exact ⟨_, _, Try.func21, k21⟩
 | 22, h => have e : c_path_gap_distances = .code np nt b rs own := Option.some.inj h; unfold c_path_gap_distances at e; cases e; exact ⟨_, _, Try.func22, k22⟩
 | 23, h => have e : c_path_received = .code np nt b rs own := Option.some.inj h; unfold c_path_received at e; cases e; exact ⟨_, _, Try.func23, k23⟩
 | 24, h => have e : c_path_first = .code np nt b rs own := Option.some.inj h; unfold c_path_first at e; cases e; exact ⟨_, _, Try.func24, k24⟩
 | 25, h => have e : c_r_CheckTrack = .code np nt b rs own := Option.some.inj h; unfold c_r_CheckTrack at e; cases e; exact ⟨_, _, Try.func25, k25⟩
 | 26, h => have e : c_r_First = .code np nt b rs own := Option.some.inj h; unfold c_r_First at e; cases e; exact ⟨_, _, Try.func26, k26⟩
 | 27, h => have e : c_r_Last = .code np nt b rs own := Option.some.inj h; unfold c_r_Last at e; cases e; exact ⟨_, _, Try.func27, k27⟩
 | 28, h => have e :   c_path_CheckTrack = .code np nt b rs own := Option.some.inj h; unfold   c_path_CheckTrack at e; cases e; exact ⟨_, _, Try.func28, k28⟩
 | 29, h => have e : c_path_within = .code np nt b rs own := Option.some.inj h; unfold c_path_within at e; cases e; exact ⟨_, _, Try.func29, k29⟩
 | 30, h => have e : c_path_last = .code np nt b rs own := Option.some.inj h; unfold c_path_last at e; cases e; exact ⟨_, _, Try.func30, k30⟩
 | 31, h => have e : c_path_at = .code np nt b rs own := Option.some.inj h; unfold c_path_at at e; cases e; exact ⟨_, _, Try.func31, k31⟩
 | 32, h => have e : c_path_gap_nearest = .code np nt b rs own := Option.some.inj h; unfold c_path_gap_nearest at e; cases e; exact ⟨_, _, Try.func32, k32⟩
 | 33, h => have e : c_path_gap_farthest = .code np nt b rs own := Option.some.inj h; unfold c_path_gap_farthest at e; cases e; exact ⟨_, _, Try.func33, k33⟩
 | 34, h => have e : c_sort_Search = .code np nt b rs own := Option.some.inj h; unfold c_sort_Search at e; cases e; exact ⟨_, _, Try.func34, k34⟩
 | 35, h => have e : c_path_gap_distances_1 = .code np nt b rs own := Option.some.inj h; unfold c_path_gap_distances_1 at e; cases e; exact ⟨_, _, Try.func35, k35⟩
 | 36, h => have e : c_path_wide_less = .code np nt b rs own := Option.some.inj h; unfold c_path_wide_less at e; cases e; exact ⟨_, _, Try.func36, k36⟩
 | 37, h => have e : c_path_squared = .code np nt b rs own := Option.some.inj h; unfold c_path_squared at e; cases e; exact ⟨_, _, Try.func37, k37⟩
 | 38, h => have e : c_path_gap_distances_2 = .code np nt b rs own := Option.some.inj h; unfold c_path_gap_distances_2 at e; cases e; exact ⟨_, _, Try.func38, k38⟩
 | 39, h => have e : c_path_arrived = .code np nt b rs own := Option.some.inj h; unfold c_path_arrived at e; cases e; exact ⟨_, _, Try.func39, k39⟩
 | 40, h => have e : c_path_received_1 = .code np nt b rs own := Option.some.inj h; unfold c_path_received_1 at e; cases e; exact ⟨_, _, Try.func40, k40⟩
 | 41, h => have e : c_path_received_2 = .code np nt b rs own := Option.some.inj h; unfold c_path_received_2 at e; cases e; exact ⟨_, _, Try.func41, k41⟩
 | 42, h => have e : c_path_missing = .code np nt b rs own := Option.some.inj h; unfold c_path_missing at e; cases e; exact ⟨_, _, Try.func42, k42⟩
 | 43, h => have e : c_r_knotErr = .code np nt b rs own := Option.some.inj h; unfold c_r_knotErr at e; cases e; exact ⟨_, _, Try.func43, k43⟩
 | 44, h => have e : c_path_unless = .code np nt b rs own := Option.some.inj h; unfold c_path_unless at e; cases e; exact ⟨_, _, Try.func44, k44⟩
 | 45, h => have e : c_path_knotErr = .code np nt b rs own := Option.some.inj h; unfold c_path_knotErr at e; cases e; exact ⟨_, _, Try.func45, k45⟩
 | 46, h => have e : c_path_at_1 = .code np nt b rs own := Option.some.inj h; unfold c_path_at_1 at e; cases e; exact ⟨_, _, Try.func46, k46⟩
 | 47, h => have e : c_path_ofPoint = .code np nt b rs own := Option.some.inj h; unfold c_path_ofPoint at e; cases e; exact ⟨_, _, Try.func47, k47⟩
 | 48, h => have e : c_path_triple_minus = .code np nt b rs own := Option.some.inj h; unfold c_path_triple_minus at e; cases e; exact ⟨_, _, Try.func48, k48⟩
 | 49, h => have e : c_path_gap_sum = .code np nt b rs own := Option.some.inj h; unfold c_path_gap_sum at e; cases e; exact ⟨_, _, Try.func49, k49⟩
 | 50, h => have e : c_path_gap_nearest_1 = .code np nt b rs own := Option.some.inj h; unfold c_path_gap_nearest_1 at e; cases e; exact ⟨_, _, Try.func50, k50⟩
 | 51, h => have e : c_path_gap_farthest_1 = .code np nt b rs own := Option.some.inj h; unfold c_path_gap_farthest_1 at e; cases e; exact ⟨_, _, Try.func51, k51⟩
 | 52, h => have e : c_math_bits_Mul64 = .code np nt b rs own := Option.some.inj h; unfold c_math_bits_Mul64 at e; cases e; exact ⟨_, _, Try.func52, k52⟩
 | 53, h => have e : c_b_IsTick = .code np nt b rs own := Option.some.inj h; unfold c_b_IsTick at e; cases e; exact ⟨_, _, Try.func53, k53⟩
 | 54, h => have e : c_b_Square = .code np nt b rs own := Option.some.inj h; unfold c_b_Square at e; cases e; exact ⟨_, _, Try.func54, k54⟩
 | 55, h => have e : c_b_Minus = .code np nt b rs own := Option.some.inj h; unfold c_b_Minus at e; cases e; exact ⟨_, _, Try.func55, k55⟩
 | 56, h => have e : c_path_knotErr_1 = .code np nt b rs own := Option.some.inj h; unfold c_path_knotErr_1 at e; cases e; exact ⟨_, _, Try.func56, k56⟩
 | 57, h => have e : c_path_small = .code np nt b rs own := Option.some.inj h; unfold c_path_small at e; cases e; exact ⟨_, _, Try.func57, k57⟩
 | 58, h => have e : c_path_triple_all = .code np nt b rs own := Option.some.inj h; unfold c_path_triple_all at e; cases e; exact ⟨_, _, Try.func58, k58⟩
 | 59, h => have e : c_path_triple_dot = .code np nt b rs own := Option.some.inj h; unfold c_path_triple_dot at e; cases e; exact ⟨_, _, Try.func59, k59⟩
 | 60, h => have e : c_path_wide_plus = .code np nt b rs own := Option.some.inj h; unfold c_path_wide_plus at e; cases e; exact ⟨_, _, Try.func60, k60⟩
 | 61, h => have e : c_b_Dot = .code np nt b rs own := Option.some.inj h; unfold c_b_Dot at e; cases e; exact ⟨_, _, Try.func61, k61⟩
 | 62, h => have e : pAdd64 = .code np nt b rs own := Option.some.inj h; unfold pAdd64 at e; cases e
 | m + 63, h => have e : AP (m + 63) = none := rfl; rw [e] at h; cases h
theorem prim_ok (f : FuncId) (F : List AV → Option AV) (h : AP f = some (.prim F)) : HasBody Try.prog f ∧ PrimOk Try.prog f F := by
 match f, h with
 | 0, h => have e : AP 0 = none := rfl; rw [e] at h; cases h
 | 1, h => have e : AP 1 = none := rfl; rw [e] at h; cases h
 | 2, h => have e : AP 2 = none := rfl; rw [e] at h; cases h
 | 3, h => have e : c_t_TopPathLightTimes = .prim F := Option.some.inj h; unfold c_t_TopPathLightTimes at e; cases e
 | 4, h => have e : c_t_pathAwake = .prim F := Option.some.inj h; unfold c_t_pathAwake at e; cases e
 | 5, h => have e : c_r_Copy = .prim F := Option.some.inj h; unfold c_r_Copy at e; cases e
 | 6, h => have e : c_l_Few = .prim F := Option.some.inj h; unfold c_l_Few at e; cases e
 | 7, h => have e : c_r_BothErr = .prim F := Option.some.inj h; unfold c_r_BothErr at e; cases e
 | 8, h => have e : c_b_Within = .prim F := Option.some.inj h; unfold c_b_Within at e; cases e
 | 9, h => have e : c_t_pathWithin = .prim F := Option.some.inj h; unfold c_t_pathWithin at e; cases e
 | 10, h => have e :   c_r_TimesErr = .prim F := Option.some.inj h; unfold   c_r_TimesErr at e; cases e
 | 11, h => have e : c_t_pathShifted = .prim F := Option.some.inj h; unfold c_t_pathShifted at e; cases e
 | 12, h => have e : c_path_DistanceAt = .prim F := Option.some.inj h; unfold c_path_DistanceAt at e; cases e
 | 13, h => have e : c_path_ReceivedAt = .prim F := Option.some.inj h; unfold c_path_ReceivedAt at e; cases e
 | 14, h => have e : c_path_RoundTrip = .prim F := Option.some.inj h; unfold c_path_RoundTrip at e; cases e
 | 15, h => have e : c_l_Station = .prim F := Option.some.inj h; unfold c_l_Station at e; cases e
 | 16, h => have e : c_l_Probe = .prim F := Option.some.inj h; unfold c_l_Probe at e; cases e
 | 17, h => have e : c_r_TrackErr = .prim F := Option.some.inj h; unfold c_r_TrackErr at e; cases e
 | 18, h => have e : c_r_TimeErr = .prim F := Option.some.inj h; unfold c_r_TimeErr at e; cases e
 | 19, h => have e :   c_path_trackErr = .prim F := Option.some.inj h; unfold   c_path_trackErr at e; cases e
 | 20, h => have e : c_path_timeErr = .prim F := Option.some.inj h; unfold c_path_timeErr at e; cases e
 | 21, h => have e : c_path_between = .prim F := Option.some.inj h; unfold c_path_between at e; cases e
 | 22, h => have e : c_path_gap_distances = .prim F := Option.some.inj h; unfold c_path_gap_distances at e; cases e
 | 23, h => have e : c_path_received = .prim F := Option.some.inj h; unfold c_path_received at e; cases e
 | 24, h => have e : c_path_first = .prim F := Option.some.inj h; unfold c_path_first at e; cases e
 | 25, h => have e : c_r_CheckTrack = .prim F := Option.some.inj h; unfold c_r_CheckTrack at e; cases e
 | 26, h => have e : c_r_First = .prim F := Option.some.inj h; unfold c_r_First at e; cases e
 | 27, h => have e : c_r_Last = .prim F := Option.some.inj h; unfold c_r_Last at e; cases e
 | 28, h => have e :   c_path_CheckTrack = .prim F := Option.some.inj h; unfold   c_path_CheckTrack at e; cases e
 | 29, h => have e : c_path_within = .prim F := Option.some.inj h; unfold c_path_within at e; cases e
 | 30, h => have e : c_path_last = .prim F := Option.some.inj h; unfold c_path_last at e; cases e
 | 31, h => have e : c_path_at = .prim F := Option.some.inj h; unfold c_path_at at e; cases e
 | 32, h => have e : c_path_gap_nearest = .prim F := Option.some.inj h; unfold c_path_gap_nearest at e; cases e
 | 33, h => have e : c_path_gap_farthest = .prim F := Option.some.inj h; unfold c_path_gap_farthest at e; cases e
 | 34, h => have e : c_sort_Search = .prim F := Option.some.inj h; unfold c_sort_Search at e; cases e
 | 35, h => have e : c_path_gap_distances_1 = .prim F := Option.some.inj h; unfold c_path_gap_distances_1 at e; cases e
 | 36, h => have e : c_path_wide_less = .prim F := Option.some.inj h; unfold c_path_wide_less at e; cases e
 | 37, h => have e : c_path_squared = .prim F := Option.some.inj h; unfold c_path_squared at e; cases e
 | 38, h => have e : c_path_gap_distances_2 = .prim F := Option.some.inj h; unfold c_path_gap_distances_2 at e; cases e
 | 39, h => have e : c_path_arrived = .prim F := Option.some.inj h; unfold c_path_arrived at e; cases e
 | 40, h => have e : c_path_received_1 = .prim F := Option.some.inj h; unfold c_path_received_1 at e; cases e
 | 41, h => have e : c_path_received_2 = .prim F := Option.some.inj h; unfold c_path_received_2 at e; cases e
 | 42, h => have e : c_path_missing = .prim F := Option.some.inj h; unfold c_path_missing at e; cases e
 | 43, h => have e : c_r_knotErr = .prim F := Option.some.inj h; unfold c_r_knotErr at e; cases e
 | 44, h => have e : c_path_unless = .prim F := Option.some.inj h; unfold c_path_unless at e; cases e
 | 45, h => have e : c_path_knotErr = .prim F := Option.some.inj h; unfold c_path_knotErr at e; cases e
 | 46, h => have e : c_path_at_1 = .prim F := Option.some.inj h; unfold c_path_at_1 at e; cases e
 | 47, h => have e : c_path_ofPoint = .prim F := Option.some.inj h; unfold c_path_ofPoint at e; cases e
 | 48, h => have e : c_path_triple_minus = .prim F := Option.some.inj h; unfold c_path_triple_minus at e; cases e
 | 49, h => have e : c_path_gap_sum = .prim F := Option.some.inj h; unfold c_path_gap_sum at e; cases e
 | 50, h => have e : c_path_gap_nearest_1 = .prim F := Option.some.inj h; unfold c_path_gap_nearest_1 at e; cases e
 | 51, h => have e : c_path_gap_farthest_1 = .prim F := Option.some.inj h; unfold c_path_gap_farthest_1 at e; cases e
 | 52, h => have e : c_math_bits_Mul64 = .prim F := Option.some.inj h; unfold c_math_bits_Mul64 at e; cases e
 | 53, h => have e : c_b_IsTick = .prim F := Option.some.inj h; unfold c_b_IsTick at e; cases e
 | 54, h => have e : c_b_Square = .prim F := Option.some.inj h; unfold c_b_Square at e; cases e
 | 55, h => have e : c_b_Minus = .prim F := Option.some.inj h; unfold c_b_Minus at e; cases e
 | 56, h => have e : c_path_knotErr_1 = .prim F := Option.some.inj h; unfold c_path_knotErr_1 at e; cases e
 | 57, h => have e : c_path_small = .prim F := Option.some.inj h; unfold c_path_small at e; cases e
 | 58, h => have e : c_path_triple_all = .prim F := Option.some.inj h; unfold c_path_triple_all at e; cases e
 | 59, h => have e : c_path_triple_dot = .prim F := Option.some.inj h; unfold c_path_triple_dot at e; cases e
 | 60, h => have e : c_path_wide_plus = .prim F := Option.some.inj h; unfold c_path_wide_plus at e; cases e
 | 61, h => have e : c_b_Dot = .prim F := Option.some.inj h; unfold c_b_Dot at e; cases e
 | 62, h => have e : pAdd64 = .prim F := Option.some.inj h; unfold pAdd64 at e; cases e
 | m + 63, h => have e : AP (m + 63) = none := rfl; rw [e] at h; cases h
theorem nat62 : NatOk Try.prog 62 pAdd64F := add64_ok Try.func62 (by kernel_rfl) (by kernel_rfl) (by kernel_rfl) (by kernel_rfl)
theorem nat_ok (f : FuncId) (F : List AV → Option AV) (h : AP f = some (.nat F)) : NatOk Try.prog f F := by
 match f, h with
 | 0, h => have e : AP 0 = none := rfl; rw [e] at h; cases h
 | 1, h => have e : AP 1 = none := rfl; rw [e] at h; cases h
 | 2, h => have e : AP 2 = none := rfl; rw [e] at h; cases h
 | 3, h => have e : c_t_TopPathLightTimes = .nat F := Option.some.inj h; unfold c_t_TopPathLightTimes at e; cases e
 | 4, h => have e : c_t_pathAwake = .nat F := Option.some.inj h; unfold c_t_pathAwake at e; cases e
 | 5, h => have e : c_r_Copy = .nat F := Option.some.inj h; unfold c_r_Copy at e; cases e
 | 6, h => have e : c_l_Few = .nat F := Option.some.inj h; unfold c_l_Few at e; cases e
 | 7, h => have e : c_r_BothErr = .nat F := Option.some.inj h; unfold c_r_BothErr at e; cases e
 | 8, h => have e : c_b_Within = .nat F := Option.some.inj h; unfold c_b_Within at e; cases e
 | 9, h => have e : c_t_pathWithin = .nat F := Option.some.inj h; unfold c_t_pathWithin at e; cases e
 | 10, h => have e :   c_r_TimesErr = .nat F := Option.some.inj h; unfold   c_r_TimesErr at e; cases e
 | 11, h => have e : c_t_pathShifted = .nat F := Option.some.inj h; unfold c_t_pathShifted at e; cases e
 | 12, h => have e : c_path_DistanceAt = .nat F := Option.some.inj h; unfold c_path_DistanceAt at e; cases e
 | 13, h => have e : c_path_ReceivedAt = .nat F := Option.some.inj h; unfold c_path_ReceivedAt at e; cases e
 | 14, h => have e : c_path_RoundTrip = .nat F := Option.some.inj h; unfold c_path_RoundTrip at e; cases e
 | 15, h => have e : c_l_Station = .nat F := Option.some.inj h; unfold c_l_Station at e; cases e
 | 16, h => have e : c_l_Probe = .nat F := Option.some.inj h; unfold c_l_Probe at e; cases e
 | 17, h => have e : c_r_TrackErr = .nat F := Option.some.inj h; unfold c_r_TrackErr at e; cases e
 | 18, h => have e : c_r_TimeErr = .nat F := Option.some.inj h; unfold c_r_TimeErr at e; cases e
 | 19, h => have e :   c_path_trackErr = .nat F := Option.some.inj h; unfold   c_path_trackErr at e; cases e
 | 20, h => have e : c_path_timeErr = .nat F := Option.some.inj h; unfold c_path_timeErr at e; cases e
 | 21, h => have e : c_path_between = .nat F := Option.some.inj h; unfold c_path_between at e; cases e
 | 22, h => have e : c_path_gap_distances = .nat F := Option.some.inj h; unfold c_path_gap_distances at e; cases e
 | 23, h => have e : c_path_received = .nat F := Option.some.inj h; unfold c_path_received at e; cases e
 | 24, h => have e : c_path_first = .nat F := Option.some.inj h; unfold c_path_first at e; cases e
 | 25, h => have e : c_r_CheckTrack = .nat F := Option.some.inj h; unfold c_r_CheckTrack at e; cases e
 | 26, h => have e : c_r_First = .nat F := Option.some.inj h; unfold c_r_First at e; cases e
 | 27, h => have e : c_r_Last = .nat F := Option.some.inj h; unfold c_r_Last at e; cases e
 | 28, h => have e :   c_path_CheckTrack = .nat F := Option.some.inj h; unfold   c_path_CheckTrack at e; cases e
 | 29, h => have e : c_path_within = .nat F := Option.some.inj h; unfold c_path_within at e; cases e
 | 30, h => have e : c_path_last = .nat F := Option.some.inj h; unfold c_path_last at e; cases e
 | 31, h => have e : c_path_at = .nat F := Option.some.inj h; unfold c_path_at at e; cases e
 | 32, h => have e : c_path_gap_nearest = .nat F := Option.some.inj h; unfold c_path_gap_nearest at e; cases e
 | 33, h => have e : c_path_gap_farthest = .nat F := Option.some.inj h; unfold c_path_gap_farthest at e; cases e
 | 34, h => have e : c_sort_Search = .nat F := Option.some.inj h; unfold c_sort_Search at e; cases e
 | 35, h => have e : c_path_gap_distances_1 = .nat F := Option.some.inj h; unfold c_path_gap_distances_1 at e; cases e
 | 36, h => have e : c_path_wide_less = .nat F := Option.some.inj h; unfold c_path_wide_less at e; cases e
 | 37, h => have e : c_path_squared = .nat F := Option.some.inj h; unfold c_path_squared at e; cases e
 | 38, h => have e : c_path_gap_distances_2 = .nat F := Option.some.inj h; unfold c_path_gap_distances_2 at e; cases e
 | 39, h => have e : c_path_arrived = .nat F := Option.some.inj h; unfold c_path_arrived at e; cases e
 | 40, h => have e : c_path_received_1 = .nat F := Option.some.inj h; unfold c_path_received_1 at e; cases e
 | 41, h => have e : c_path_received_2 = .nat F := Option.some.inj h; unfold c_path_received_2 at e; cases e
 | 42, h => have e : c_path_missing = .nat F := Option.some.inj h; unfold c_path_missing at e; cases e
 | 43, h => have e : c_r_knotErr = .nat F := Option.some.inj h; unfold c_r_knotErr at e; cases e
 | 44, h => have e : c_path_unless = .nat F := Option.some.inj h; unfold c_path_unless at e; cases e
 | 45, h => have e : c_path_knotErr = .nat F := Option.some.inj h; unfold c_path_knotErr at e; cases e
 | 46, h => have e : c_path_at_1 = .nat F := Option.some.inj h; unfold c_path_at_1 at e; cases e
 | 47, h => have e : c_path_ofPoint = .nat F := Option.some.inj h; unfold c_path_ofPoint at e; cases e
 | 48, h => have e : c_path_triple_minus = .nat F := Option.some.inj h; unfold c_path_triple_minus at e; cases e
 | 49, h => have e : c_path_gap_sum = .nat F := Option.some.inj h; unfold c_path_gap_sum at e; cases e
 | 50, h => have e : c_path_gap_nearest_1 = .nat F := Option.some.inj h; unfold c_path_gap_nearest_1 at e; cases e
 | 51, h => have e : c_path_gap_farthest_1 = .nat F := Option.some.inj h; unfold c_path_gap_farthest_1 at e; cases e
 | 52, h => have e : c_math_bits_Mul64 = .nat F := Option.some.inj h; unfold c_math_bits_Mul64 at e; cases e
 | 53, h => have e : c_b_IsTick = .nat F := Option.some.inj h; unfold c_b_IsTick at e; cases e
 | 54, h => have e : c_b_Square = .nat F := Option.some.inj h; unfold c_b_Square at e; cases e
 | 55, h => have e : c_b_Minus = .nat F := Option.some.inj h; unfold c_b_Minus at e; cases e
 | 56, h => have e : c_path_knotErr_1 = .nat F := Option.some.inj h; unfold c_path_knotErr_1 at e; cases e
 | 57, h => have e : c_path_small = .nat F := Option.some.inj h; unfold c_path_small at e; cases e
 | 58, h => have e : c_path_triple_all = .nat F := Option.some.inj h; unfold c_path_triple_all at e; cases e
 | 59, h => have e : c_path_triple_dot = .nat F := Option.some.inj h; unfold c_path_triple_dot at e; cases e
 | 60, h => have e : c_path_wide_plus = .nat F := Option.some.inj h; unfold c_path_wide_plus at e; cases e
 | 61, h => have e : c_b_Dot = .nat F := Option.some.inj h; unfold c_b_Dot at e; cases e
 | 62, h => have e : pAdd64 = .nat F := Option.some.inj h; unfold pAdd64 at e; cases e; exact nat62
 | m + 63, h => have e : AP (m + 63) = none := rfl; rw [e] at h; cases h
theorem prog_ok : ProgOk Try.prog AP := ⟨by kernel_rfl, code_ok, prim_ok, nat_ok⟩
end Go.Proofs.Ytdopccjokmnccaa.AxOk
