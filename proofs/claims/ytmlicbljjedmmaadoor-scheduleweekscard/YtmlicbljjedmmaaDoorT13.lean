/-
  What is taken from the library's shelf, said in the executor's words.
-/
import Derived.Test.YtmlicbljjedmmaaDoorT7
import Derived.Test.YtmlicbljjedmmaaDoorT5
import Derived.Shelf.Strings.OnBuilder
import Derived.Shelf.Strconv.Itoa3
import Derived.Test.YtmlicbljjedmmaaDoorT8
import Derived.Test.YtmlicbljjedmmaaDoorProg
import Derived.KernelRfl
import Derived.Test.YtmlicbljjedmmaaDoorT12
namespace Go.Ax.Sx.Sc
open Go.Ax Go.Proofs Go.Shelf Go.RowKit

variable {P : Program} {ρ : Ren}

theorem dig2_dec {n : Nat} (h : n < 100) : dig2 n = Lib.decDigits n := by
  unfold dig2
  rw [Lib.decDigits]
  by_cases h1 : n < 10
  · rw [if_pos h1, dif_pos h1]
  · rw [if_neg h1, dif_neg h1, Lib.decDigits, dif_pos (by omega)]; rfl

theorem relC_v {I : IMap} {x y : Value} (h : RelC I (.v x) y) : y = x := by cases h; rfl

theorem one_arg {xs : Array Value} (hl : xs.size = 1) : xs = #[xs.getD 0 Go.undef] := by
  apply Array.ext
  · simp [hl]
  · intro i h1 h2
    have : i = 0 := by omega
    subst this
    simp [Array.getD, hl]
theorem two_args {xs : Array Value} (hl : xs.size = 2) : xs = #[xs.getD 0 Go.undef, xs.getD 1 Go.undef] := by
  apply Array.ext
  · simp [hl]
  · intro i h1 h2
    have : i = 0 ∨ i = 1 := by omega
    rcases this with rfl | rfl <;> simp [Array.getD, hl]

theorem pItoa_ok (L : Lays.n171 P ρ) : PrimOk P (ρ.f 171) itoaF := by
  intro I w ys xs r hI hl hR hF
  unfold itoaF at hF
  split at hF
  · rename_i n
    split at hF
    · rename_i hn
      injection hF with hF
      subst hF
      have h0 := relC_v (hR 0 (by simp))
      have hx : xs = #[.int .i64 (n.toNat : Int)] := by
        rw [one_arg hl, h0, show ((n.toNat : Nat) : Int) = n by omega]
      rw [hx]
      refine (Any.strconv_Itoa_small L n.toNat (by omega) w).mono fun e w' ⟨he, hw⟩ => ?_
      subst hw
      refine ⟨_, I, he, fun _ _ _ h => h, fun _ _ _ h => .inl h, hI, Below.refl _ _, ?_⟩
      rw [dig2_dec (by omega)]
      exact .v rfl
    · cases hF
  · cases hF

theorem stringsOf_spec : ∀ {rows : List (List AV)} {ls : List (List UInt8)}, stringsOf rows = some ls → ∃ bs : List ByteArray, rows = bs.map (fun b => [.v (.string b)]) ∧ ls = bs.map (·.data.toList)
  | [], ls, h => by
    simp only [stringsOf] at h
    injection h with h
    exact ⟨[], rfl, h.symm⟩
  | row :: r, ls, h => by
    unfold stringsOf at h
    split at h
    · cases ‹_ :: _ = []›
    · rename_i s r' e
      injection e with e1 e2
      subst e1 e2
      obtain ⟨ls', h1, h2⟩ := Option.map_eq_some_iff.1 h
      obtain ⟨bs, b1, b2⟩ := stringsOf_spec h1
      exact ⟨s :: bs, by rw [b1]; rfl, by rw [← h2, b2]; rfl⟩
    · cases h

theorem pJoin_ok (L : Lays.n156 P ρ) (X : Builder.Extra P ρ) : PrimOk P (ρ.f 156) joinF := by
  intro I w ys xs r hI hl hR hF
  unfold joinF at hF
  split at hF
  · rename_i o es rows sep
    obtain ⟨ls, hs, hF⟩ := Option.bind_eq_some_iff.1 hF
    split at hF
    · rename_i hlim
      injection hF with hF
      subst hF
      obtain ⟨bs, hb1, hb2⟩ := stringsOf_spec hs
      have h1 := relC_v (hR 1 (by simp))
      have h0 : RelC I (.slice o es rows) (xs.getD 0 Go.undef) := hR 0 (by simp)
      have hx : xs = #[xs.getD 0 Go.undef, .string sep] := by
        rw [two_args hl]; simp only [h1]; rfl
      have none_case : ∀ a c, rows = [] → xs.getD 0 Go.undef = .slice a 0 c → Calls P (ρ.f 156) xs w fun e w' => ∃ z I', e = .returned z ∧ (∀ b i v, I b i = some v → I' b i = some v) ∧ (∀ b i v, I' b i = some v → I b i = some v ∨ w.heap.size ≤ b) ∧ (∀ b i v, I' b i = some v → w'.cell? ⟨b, i, none⟩ = some v) ∧
          Below w.heap.size w w' ∧ RelC I' (.v (.string ⟨(sep.data.toList.intercalate ls).toArray⟩)) z := by
        intro a c hr0 hv
        have hl0 : ls = [] := by
          rw [hr0] at hs; simp only [stringsOf] at hs; injection hs with hs; exact hs.symm
        rw [hx, hv]
        refine (Any.strings_Join_none L X a c sep w).mono fun e w' ⟨he, hw⟩ => ?_
        subst hw
        refine ⟨_, I, he, fun _ _ _ h => h, fun _ _ _ h => .inl h, hI, Below.refl _ _, ?_⟩
        rw [hl0]
        exact .v rfl
      generalize hv : xs.getD 0 Go.undef = v at *
      cases h0 with
      | nilS => exact none_case _ _ rfl rfl
      | empty ho => exact none_case _ _ rfl rfl
      | slice f ho hc hes hcell hIc hRc =>
        rename_i blk off cap
        by_cases hne : rows = []
        · subst hne
          exact none_case _ _ rfl rfl
        · have hrl : rows.length = bs.length := by rw [hb1]; simp
          have hes1 : es = 1 := by
            cases hbs : bs with
            | nil => rw [hbs] at hb1; exact absurd hb1 hne
            | cons b t =>
              have h3 := hes [.v (.string b)] (by rw [hb1, hbs]; simp)
              rw [← h3]; rfl
          subst hes1
          have hcells : ∀ (j : Nat) x, bs[j]? = some x → w.cell? ⟨blk, off + j, none⟩ = some (.string x) := by
            intro j x hj
            have hjl : j < rows.length := by rw [hrl]; exact (List.getElem?_eq_some_iff.1 hj).1
            have hrow : rows[j] = [.v (.string x)] := by
              have : rows[j]? = some [.v (.string x)] := by rw [hb1, List.getElem?_map, hj]; rfl
              rw [List.getElem?_eq_getElem hjl] at this
              injection this
            have hl1 : 0 < rows[j].length := by rw [hrow]; simp
            have hi := hIc j hjl 0 hl1
            have hrr := hRc j hjl 0 hl1
            have e1 : rows[j][0] = .v (.string x) := by simp only [hrow]; rfl
            rw [e1] at hrr
            rw [relC_v hrr] at hi
            have := hI _ _ _ hi
            rw [show off + j * 1 + 0 = off + j by omega] at this
            exact this
          have hbk : blk < w.heap.size := by
            have hbl : 0 < bs.length := by rw [← hrl]; exact List.length_pos_iff.2 hne
            exact World.block_lt_of_cell? _ _ (hcells 0 _ (List.getElem?_eq_getElem hbl))
          have hjoin : Lib.join (bs.map (·.data.toList)) sep.data.toList = sep.data.toList.intercalate ls := by rw [hb2]; rfl
          have hlsl : ls.length = bs.length := by rw [hb2]; simp
          rw [hx]
          have hrl' : rows.length = bs.length := hrl
          rw [hrl'] at hc ⊢
          refine (Any.strings_Join L X blk off cap bs sep w hcells hbk (by omega) hc (by rw [hjoin]; omega)).mono fun e w' ⟨he, hw⟩ => ?_
          refine ⟨_, I, he, fun _ _ _ h => h, fun _ _ _ h => .inl h, fun b i v h => ?_, hw, ?_⟩
          · have h1 := hI b i v h
            have hb := World.block_lt_of_cell? _ _ h1
            have hh := hw.block b hb
            rw [← h1]
            exact cells_congr hh rfl
          · rw [hjoin]; exact .v rfl
    · cases hF
  · cases hF
end Go.Ax.Sx.Sc

/- The codes that are computed with are those of the program: each one is what compFn gives; what is taken from the library is what the shelf says of it. -/
namespace Go.Proofs.YtmlicbljjedmmaaDoor.AxOk
open Go.Ax Go.Ax.Sx Go.Ax.Sx.Sc Go.Shelf
set_option maxRecDepth 100000

theorem k3 : compFn Tryd.prog false Tryd.f3 = some c_l_ScheduleWeeks := by kernel_rfl
theorem k4 : compFn Tryd.prog false Tryd.f4 = some c_l_awake := by kernel_rfl
theorem k5 : compFn Tryd.prog false Tryd.f5 = some c_l_Few := by kernel_rfl
theorem k6 : compFn Tryd.prog false Tryd.f6 = some c_s_CheckWeek := by kernel_rfl
theorem k7 : compFn Tryd.prog false Tryd.f7 = some c_r_CopyWeek := by kernel_rfl
theorem k8 : compFn Tryd.prog false Tryd.f8 = some c_r_CheckWeek := by kernel_rfl
theorem k9 : compFn Tryd.prog false Tryd.f9 = some c_s_Best := by kernel_rfl
theorem k10 : compFn Tryd.prog false Tryd.f10 = some c_l_Week := by kernel_rfl
theorem k11 : compFn Tryd.prog false Tryd.f11 = some   c_s_ShareOf := by kernel_rfl
theorem k12 : compFn Tryd.prog false Tryd.f12 = some c_s_FormatPlan := by kernel_rfl
theorem k13 : compFn Tryd.prog false Tryd.f13 = some c_b_Whole := by kernel_rfl
theorem k14 : compFn Tryd.prog false Tryd.f14 = some c_s_first := by kernel_rfl
theorem k15 : compFn Tryd.prog false Tryd.f15 = some c_s_unless := by kernel_rfl
theorem k16 : compFn Tryd.prog false Tryd.f16 = some c_s_within := by kernel_rfl
theorem k17 : compFn Tryd.prog false Tryd.f17 = some c_s_antennaErr := by kernel_rfl
theorem k18 : compFn Tryd.prog false Tryd.f18 = some c_s_requestErr := by kernel_rfl
theorem k19 : compFn Tryd.prog false Tryd.f19 = some c_b_CopyRanges := by kernel_rfl
theorem k20 : compFn Tryd.prog true Tryd.f20 = some c_b_CopyInts := by kernel_rfl
theorem k21 : compFn Tryd.prog false Tryd.f21 = some c_b_Within := by kernel_rfl
theorem k22 : compFn Tryd.prog false Tryd.f22 = some c_r_antennaErr := by kernel_rfl
theorem k23 : compFn Tryd.prog false Tryd.f23 = some c_r_requestErr := by kernel_rfl
theorem k24 : compFn Tryd.prog false Tryd.f24 = some c_s_openSmall := by kernel_rfl
theorem k25 : compFn Tryd.prog false Tryd.f25 = some c_w_free := by kernel_rfl
theorem k26 : compFn Tryd.prog false Tryd.f26 = some c_c_best := by kernel_rfl
theorem k27 : compFn Tryd.prog false Tryd.f27 = some c_s_openPlan := by kernel_rfl
theorem k28 : compFn Tryd.prog false Tryd.f28 = some c_s_passOf := by kernel_rfl
theorem k29 : compFn Tryd.prog false Tryd.f29 = some c_s_share := by kernel_rfl
theorem k32 : compFn Tryd.prog false Tryd.f32 = some   c_z_ContainsFunc_ScheduleAntenna := by kernel_rfl
theorem k33 : compFn Tryd.prog false Tryd.f33 = some c_s_antennaErr_1 := by kernel_rfl
theorem k34 : compFn Tryd.prog false Tryd.f34 = some c_s_isName := by kernel_rfl
theorem k35 : compFn Tryd.prog false Tryd.f35 = some c_s_slotsErr := by kernel_rfl
theorem k36 : compFn Tryd.prog false Tryd.f36 = some c_b_IsName := by kernel_rfl
theorem k37 : compFn Tryd.prog false Tryd.f37 = some c_r_slotsErr := by kernel_rfl
theorem k38 : compFn Tryd.prog false Tryd.f38 = some c_s_open := by kernel_rfl
theorem k39 : compFn Tryd.prog false Tryd.f39 = some c_s_openSmall_1 := by kernel_rfl
theorem k40 : compFn Tryd.prog false Tryd.f40 = some   c_z_ContainsFunc_ScheduleRequest := by kernel_rfl
theorem k41 : compFn Tryd.prog false Tryd.f41 = some c_w_placements := by kernel_rfl
theorem k42 : compFn Tryd.prog false Tryd.f42 = some c_c_worth := by kernel_rfl
theorem k43 : compFn Tryd.prog false Tryd.f43 = some c_c_isPermitted := by kernel_rfl
theorem k44 : compFn Tryd.prog false Tryd.f44 = some c_c_fits := by kernel_rfl
theorem k45 : compFn Tryd.prog false Tryd.f45 = some c_z_Contains_int := by kernel_rfl
theorem k46 : compFn Tryd.prog false Tryd.f46 = some c_c_next := by kernel_rfl
theorem k47 : compFn Tryd.prog false Tryd.f47 = some c_w_check := by kernel_rfl
theorem k48 : compFn Tryd.prog false Tryd.f48 = some c_z_IndexFunc_SchedulePass := by kernel_rfl
theorem k49 : compFn Tryd.prog false Tryd.f49 = some c_s_passOf_1 := by kernel_rfl
theorem k54 : compFn Tryd.prog false Tryd.f54 = some c_z_IndexFunc_ScheduleAntenna := by kernel_rfl
theorem k55 : compFn Tryd.prog false Tryd.f55 = some c_s_slotsErr_1 := by kernel_rfl
theorem k56 : compFn Tryd.prog false Tryd.f56 = some c_z_IndexFunc_ScheduleRequest := by kernel_rfl
theorem k57 : compFn Tryd.prog false Tryd.f57 = some c_w_possible := by kernel_rfl
theorem k58 : compFn Tryd.prog false Tryd.f58 = some c_w_conflicts := by kernel_rfl
theorem k59 : compFn Tryd.prog false Tryd.f59 = some c_s_members := by kernel_rfl
theorem k60 : compFn Tryd.prog false Tryd.f60 = some   c_w_without := by kernel_rfl
theorem k61 : compFn Tryd.prog false Tryd.f61 = some c_w_fit := by kernel_rfl
theorem k62 : compFn Tryd.prog false Tryd.f62 = some c_z_Index_int := by kernel_rfl
theorem k63 : compFn Tryd.prog true Tryd.f63 = some c_z_Clone_SchedulePass := by kernel_rfl
theorem k64 : compFn Tryd.prog false Tryd.f64 = some c_w_passErr := by kernel_rfl
theorem k68 : compFn Tryd.prog false Tryd.f68 = some c_w_possible_1 := by kernel_rfl
theorem k69 : compFn Tryd.prog false Tryd.f69 = some c_w_isOpen := by kernel_rfl
theorem k70 : compFn Tryd.prog false Tryd.f70 = some c_s_groups := by kernel_rfl
theorem k71 : compFn Tryd.prog false Tryd.f71 = some   c_z_ContainsFunc_SchedulePass := by kernel_rfl
theorem k72 : compFn Tryd.prog false Tryd.f72 = some c_w_conflicts_1 := by kernel_rfl
theorem k73 : compFn Tryd.prog false Tryd.f73 = some c_w_conflict := by kernel_rfl
theorem k74 : compFn Tryd.prog false Tryd.f74 = some c_w_requestErr := by kernel_rfl
theorem k81 : compFn Tryd.prog false Tryd.f81 = some c_z_Contains_bool := by kernel_rfl
theorem k82 : compFn Tryd.prog false Tryd.f82 = some c_s_groups_1 := by kernel_rfl
theorem k83 : compFn Tryd.prog false Tryd.f83 = some c_s_groups_1_1 := by kernel_rfl
theorem k84 : compFn Tryd.prog true Tryd.f84 = some   c_z_Clone_int := by kernel_rfl
theorem k85 : compFn Tryd.prog false Tryd.f85 = some c_z_ContainsFunc_int := by kernel_rfl
theorem k86 : compFn Tryd.prog false Tryd.f86 = some c_w_conflict_1 := by kernel_rfl
theorem k87 : compFn Tryd.prog false Tryd.f87 = some c_w_end := by kernel_rfl
theorem k93 : compFn Tryd.prog false Tryd.f93 = some c_z_Index_bool := by kernel_rfl
theorem k94 : compFn Tryd.prog false Tryd.f94 = some c_z_IndexFunc_int := by kernel_rfl

theorem code_ok (f : FuncId) (np nt : Nat) (b : ACode) (rs : List ARes) (own : Bool) (h : AP f = some (.code np nt b rs own)) : ∃ fn, Tryd.prog.funcs[f]? = some fn ∧ compFn Tryd.prog own fn = some (.code np nt b rs own) := by
  match f, h with
  | 0, h => have e : AP 0 = none := rfl; rw [e] at h; cases h
  | 1, h => have e : AP 1 = none := rfl; rw [e] at h; cases h
  | 2, h => have e : AP 2 = none := rfl; rw [e] at h; cases h
  | 3, h => have e : c_l_ScheduleWeeks = .code np nt b rs own := Option.some.inj h; unfold c_l_ScheduleWeeks at e; cases e; exact ⟨_, Tryd.func3, k3⟩
  | 4, h => have e : c_l_awake = .code np nt b rs own := Option.some.inj h; unfold c_l_awake at e; cases e; exact ⟨_, Tryd.func4, k4⟩
  | 5, h => have e : c_l_Few = .code np nt b rs own := Option.some.inj h; unfold c_l_Few at e; cases e; exact ⟨_, Tryd.func5, k5⟩
  | 6, h => have e : c_s_CheckWeek = .code np nt b rs own := Option.some.inj h; unfold c_s_CheckWeek at e; cases e; exact ⟨_, Tryd.func6, k6⟩
  | 7, h => have e : c_r_CopyWeek = .code np nt b rs own := Option.some.inj h; unfold c_r_CopyWeek at e; cases e; exact ⟨_, Tryd.func7, k7⟩
  | 8, h => have e : c_r_CheckWeek = .code np nt b rs own := Option.some.inj h; unfold c_r_CheckWeek at e; cases e; exact ⟨_, Tryd.func8, k8⟩
  | 9, h => have e : c_s_Best = .code np nt b rs own := Option.some.inj h; unfold c_s_Best at e; cases e; exact ⟨_, Tryd.func9, k9⟩
  | 10, h => have e : c_l_Week = .code np nt b rs own := Option.some.inj h; unfold c_l_Week at e; cases e; exact ⟨_, Tryd.func10, k10⟩
  | 11, h => have e :   c_s_ShareOf = .code np nt b rs own := Option.some.inj h; unfold   c_s_ShareOf at e; cases e; exact ⟨_, Tryd.func11, k11⟩
  | 12, h => have e : c_s_FormatPlan = .code np nt b rs own := Option.some.inj h; unfold c_s_FormatPlan at e; cases e; exact ⟨_, Tryd.func12, k12⟩
  | 13, h => have e : c_b_Whole = .code np nt b rs own := Option.some.inj h; unfold c_b_Whole at e; cases e; exact ⟨_, Tryd.func13, k13⟩
  | 14, h => have e : c_s_first = .code np nt b rs own := Option.some.inj h; unfold c_s_first at e; cases e; exact ⟨_, Tryd.func14, k14⟩
  | 15, h => have e : c_s_unless = .code np nt b rs own := Option.some.inj h; unfold c_s_unless at e; cases e; exact ⟨_, Tryd.func15, k15⟩
  | 16, h => have e : c_s_within = .code np nt b rs own := Option.some.inj h; unfold c_s_within at e; cases e; exact ⟨_, Tryd.func16, k16⟩
  | 17, h => have e : c_s_antennaErr = .code np nt b rs own := Option.some.inj h; unfold c_s_antennaErr at e; cases e; exact ⟨_, Tryd.func17, k17⟩
  | 18, h => have e : c_s_requestErr = .code np nt b rs own := Option.some.inj h; unfold c_s_requestErr at e; cases e; exact ⟨_, Tryd.func18, k18⟩
  | 19, h => have e : c_b_CopyRanges = .code np nt b rs own := Option.some.inj h; unfold c_b_CopyRanges at e; cases e; exact ⟨_, Tryd.func19, k19⟩
  | 20, h => have e : c_b_CopyInts = .code np nt b rs own := Option.some.inj h; unfold c_b_CopyInts at e; cases e; exact ⟨_, Tryd.func20, k20⟩
  | 21, h => have e : c_b_Within = .code np nt b rs own := Option.some.inj h; unfold c_b_Within at e; cases e; exact ⟨_, Tryd.func21, k21⟩
  | 22, h => have e : c_r_antennaErr = .code np nt b rs own := Option.some.inj h; unfold c_r_antennaErr at e; cases e; exact ⟨_, Tryd.func22, k22⟩
  | 23, h => have e : c_r_requestErr = .code np nt b rs own := Option.some.inj h; unfold c_r_requestErr at e; cases e; exact ⟨_, Tryd.func23, k23⟩
  | 24, h => have e : c_s_openSmall = .code np nt b rs own := Option.some.inj h; unfold c_s_openSmall at e; cases e; exact ⟨_, Tryd.func24, k24⟩
  | 25, h => have e : c_w_free = .code np nt b rs own := Option.some.inj h; unfold c_w_free at e; cases e; exact ⟨_, Tryd.func25, k25⟩
  | 26, h => have e : c_c_best = .code np nt b rs own := Option.some.inj h; unfold c_c_best at e; cases e; exact ⟨_, Tryd.func26, k26⟩
  | 27, h => have e : c_s_openPlan = .code np nt b rs own := Option.some.inj h; unfold c_s_openPlan at e; cases e; exact ⟨_, Tryd.func27, k27⟩
  | 28, h => have e : c_s_passOf = .code np nt b rs own := Option.some.inj h; unfold c_s_passOf at e; cases e; exact ⟨_, Tryd.func28, k28⟩
  | 29, h => have e : c_s_share = .code np nt b rs own := Option.some.inj h; unfold c_s_share at e; cases e; exact ⟨_, Tryd.func29, k29⟩
  | 30, h => have e : pItoa = .code np nt b rs own := Option.some.inj h; unfold pItoa at e; cases e
  | 31, h => have e : pJoin = .code np nt b rs own := Option.some.inj h; unfold pJoin at e; cases e
  | 32, h => have e :   c_z_ContainsFunc_ScheduleAntenna = .code np nt b rs own := Option.some.inj h; unfold   c_z_ContainsFunc_ScheduleAntenna at e; cases e; exact ⟨_, Tryd.func32, k32⟩
  | 33, h => have e : c_s_antennaErr_1 = .code np nt b rs own := Option.some.inj h; unfold c_s_antennaErr_1 at e; cases e; exact ⟨_, Tryd.func33, k33⟩
  | 34, h => have e : c_s_isName = .code np nt b rs own := Option.some.inj h; unfold c_s_isName at e; cases e; exact ⟨_, Tryd.func34, k34⟩
  | 35, h => have e : c_s_slotsErr = .code np nt b rs own := Option.some.inj h; unfold c_s_slotsErr at e; cases e; exact ⟨_, Tryd.func35, k35⟩
  | 36, h => have e : c_b_IsName = .code np nt b rs own := Option.some.inj h; unfold c_b_IsName at e; cases e; exact ⟨_, Tryd.func36, k36⟩
  | 37, h => have e : c_r_slotsErr = .code np nt b rs own := Option.some.inj h; unfold c_r_slotsErr at e; cases e; exact ⟨_, Tryd.func37, k37⟩
  | 38, h => have e : c_s_open = .code np nt b rs own := Option.some.inj h; unfold c_s_open at e; cases e; exact ⟨_, Tryd.func38, k38⟩
  | 39, h => have e : c_s_openSmall_1 = .code np nt b rs own := Option.some.inj h; unfold c_s_openSmall_1 at e; cases e; exact ⟨_, Tryd.func39, k39⟩
  | 40, h => have e :   c_z_ContainsFunc_ScheduleRequest = .code np nt b rs own := Option.some.inj h; unfold   c_z_ContainsFunc_ScheduleRequest at e; cases e; exact ⟨_, Tryd.func40, k40⟩
  | 41, h => have e : c_w_placements = .code np nt b rs own := Option.some.inj h; unfold c_w_placements at e; cases e; exact ⟨_, Tryd.func41, k41⟩
  | 42, h => have e : c_c_worth = .code np nt b rs own := Option.some.inj h; unfold c_c_worth at e; cases e; exact ⟨_, Tryd.func42, k42⟩
  | 43, h => have e : c_c_isPermitted = .code np nt b rs own := Option.some.inj h; unfold c_c_isPermitted at e; cases e; exact ⟨_, Tryd.func43, k43⟩
  | 44, h => have e : c_c_fits = .code np nt b rs own := Option.some.inj h; unfold c_c_fits at e; cases e; exact ⟨_, Tryd.func44, k44⟩
  | 45, h => have e : c_z_Contains_int = .code np nt b rs own := Option.some.inj h; unfold c_z_Contains_int at e; cases e; exact ⟨_, Tryd.func45, k45⟩
  | 46, h => have e : c_c_next = .code np nt b rs own := Option.some.inj h; unfold c_c_next at e; cases e; exact ⟨_, Tryd.func46, k46⟩
  | 47, h => have e : c_w_check = .code np nt b rs own := Option.some.inj h; unfold c_w_check at e; cases e; exact ⟨_, Tryd.func47, k47⟩
  | 48, h => have e : c_z_IndexFunc_SchedulePass = .code np nt b rs own := Option.some.inj h; unfold c_z_IndexFunc_SchedulePass at e; cases e; exact ⟨_, Tryd.func48, k48⟩
  | 49, h => have e : c_s_passOf_1 = .code np nt b rs own := Option.some.inj h; unfold c_s_passOf_1 at e; cases e; exact ⟨_, Tryd.func49, k49⟩
  | 50, h => have e : AP 50 = none := rfl; rw [e] at h; cases h
  | 51, h => have e : AP 51 = none := rfl; rw [e] at h; cases h
  | 52, h => have e : AP 52 = none := rfl; rw [e] at h; cases h
  | 53, h => have e : AP 53 = none := rfl; rw [e] at h; cases h
  | 54, h => have e : c_z_IndexFunc_ScheduleAntenna = .code np nt b rs own := Option.some.inj h; unfold c_z_IndexFunc_ScheduleAntenna at e; cases e; exact ⟨_, Tryd.func54, k54⟩
  | 55, h => have e : c_s_slotsErr_1 = .code np nt b rs own := Option.some.inj h; unfold c_s_slotsErr_1 at e; cases e; exact ⟨_, Tryd.func55, k55⟩
  | 56, h => have e : c_z_IndexFunc_ScheduleRequest = .code np nt b rs own := Option.some.inj h; unfold c_z_IndexFunc_ScheduleRequest at e; cases e; exact ⟨_, Tryd.func56, k56⟩
  | 57, h => have e : c_w_possible = .code np nt b rs own := Option.some.inj h; unfold c_w_possible at e; cases e; exact ⟨_, Tryd.func57, k57⟩
  | 58, h => have e : c_w_conflicts = .code np nt b rs own := Option.some.inj h; unfold c_w_conflicts at e; cases e; exact ⟨_, Tryd.func58, k58⟩
  | 59, h => have e : c_s_members = .code np nt b rs own := Option.some.inj h; unfold c_s_members at e; cases e; exact ⟨_, Tryd.func59, k59⟩
  | 60, h => have e :   c_w_without = .code np nt b rs own := Option.some.inj h; unfold   c_w_without at e; cases e; exact ⟨_, Tryd.func60, k60⟩
  | 61, h => have e : c_w_fit = .code np nt b rs own := Option.some.inj h; unfold c_w_fit at e; cases e; exact ⟨_, Tryd.func61, k61⟩
  | 62, h => have e : c_z_Index_int = .code np nt b rs own := Option.some.inj h; unfold c_z_Index_int at e; cases e; exact ⟨_, Tryd.func62, k62⟩
  | 63, h => have e : c_z_Clone_SchedulePass = .code np nt b rs own := Option.some.inj h; unfold c_z_Clone_SchedulePass at e; cases e; exact ⟨_, Tryd.func63, k63⟩
  | 64, h => have e : c_w_passErr = .code np nt b rs own := Option.some.inj h; unfold c_w_passErr at e; cases e; exact ⟨_, Tryd.func64, k64⟩
  | 65, h => have e : AP 65 = none := rfl; rw [e] at h; cases h
  | 66, h => have e : AP 66 = none := rfl; rw [e] at h; cases h
  | 67, h => have e : AP 67 = none := rfl; rw [e] at h; cases h
  | 68, h => have e : c_w_possible_1 = .code np nt b rs own := Option.some.inj h; unfold c_w_possible_1 at e; cases e; exact ⟨_, Tryd.func68, k68⟩
  | 69, h => have e : c_w_isOpen = .code np nt b rs own := Option.some.inj h; unfold c_w_isOpen at e; cases e; exact ⟨_, Tryd.func69, k69⟩
  | 70, h => have e : c_s_groups = .code np nt b rs own := Option.some.inj h; unfold c_s_groups at e; cases e; exact ⟨_, Tryd.func70, k70⟩
  | 71, h => have e :   c_z_ContainsFunc_SchedulePass = .code np nt b rs own := Option.some.inj h; unfold   c_z_ContainsFunc_SchedulePass at e; cases e; exact ⟨_, Tryd.func71, k71⟩
  | 72, h => have e : c_w_conflicts_1 = .code np nt b rs own := Option.some.inj h; unfold c_w_conflicts_1 at e; cases e; exact ⟨_, Tryd.func72, k72⟩
  | 73, h => have e : c_w_conflict = .code np nt b rs own := Option.some.inj h; unfold c_w_conflict at e; cases e; exact ⟨_, Tryd.func73, k73⟩
  | 74, h => have e : c_w_requestErr = .code np nt b rs own := Option.some.inj h; unfold c_w_requestErr at e; cases e; exact ⟨_, Tryd.func74, k74⟩
  | 75, h => have e : AP 75 = none := rfl; rw [e] at h; cases h
  | 76, h => have e : AP 76 = none := rfl; rw [e] at h; cases h
  | 77, h => have e : AP 77 = none := rfl; rw [e] at h; cases h
  | 78, h => have e : AP 78 = none := rfl; rw [e] at h; cases h
  | 79, h => have e : AP 79 = none := rfl; rw [e] at h; cases h
  | 80, h => have e : AP 80 = none := rfl; rw [e] at h; cases h
  | 81, h => have e : c_z_Contains_bool = .code np nt b rs own := Option.some.inj h; unfold c_z_Contains_bool at e; cases e; exact ⟨_, Tryd.func81, k81⟩
  | 82, h => have e : c_s_groups_1 = .code np nt b rs own := Option.some.inj h; unfold c_s_groups_1 at e; cases e; exact ⟨_, Tryd.func82, k82⟩
  | 83, h => have e : c_s_groups_1_1 = .code np nt b rs own := Option.some.inj h; unfold c_s_groups_1_1 at e; cases e; exact ⟨_, Tryd.func83, k83⟩
  | 84, h => have e :   c_z_Clone_int = .code np nt b rs own := Option.some.inj h; unfold   c_z_Clone_int at e; cases e; exact ⟨_, Tryd.func84, k84⟩
  | 85, h => have e : c_z_ContainsFunc_int = .code np nt b rs own := Option.some.inj h; unfold c_z_ContainsFunc_int at e; cases e; exact ⟨_, Tryd.func85, k85⟩
  | 86, h => have e : c_w_conflict_1 = .code np nt b rs own := Option.some.inj h; unfold c_w_conflict_1 at e; cases e; exact ⟨_, Tryd.func86, k86⟩
  | 87, h => have e : c_w_end = .code np nt b rs own := Option.some.inj h; unfold c_w_end at e; cases e; exact ⟨_, Tryd.func87, k87⟩
  | 88, h => have e : AP 88 = none := rfl; rw [e] at h; cases h
  | 89, h => have e : AP 89 = none := rfl; rw [e] at h; cases h
  | 90, h => have e : AP 90 = none := rfl; rw [e] at h; cases h
  | 91, h => have e : AP 91 = none := rfl; rw [e] at h; cases h
  | 92, h => have e : AP 92 = none := rfl; rw [e] at h; cases h
  | 93, h => have e : c_z_Index_bool = .code np nt b rs own := Option.some.inj h; unfold c_z_Index_bool at e; cases e; exact ⟨_, Tryd.func93, k93⟩
  | 94, h => have e : c_z_IndexFunc_int = .code np nt b rs own := Option.some.inj h; unfold c_z_IndexFunc_int at e; cases e; exact ⟨_, Tryd.func94, k94⟩
  | m + 95, h => have e : AP (m + 95) = none := rfl; rw [e] at h; cases h

def lays171_ren : Ren where
  f := fun x => match x with | 171 => 30 | 243 => 50 | 246 => 65 | 283 => 75 | 284 => 76 | 285 => 77 | 286 => 78 | 129 => 89 | 317 => 88 | 318 => 90 | 319 => 91 | 320 => 92 | 337 => 95 | 338 => 96 | n => n
  t := fun x => match x with | 3 => 3 | 9 => 9 | 2 => 2 | 4 => 4 | 171 => 135 | 0 => 0 | 53 => 136 | 37 => 107 | 5 => 5 | 173 => 139 | 212 => 151 | 51 => 152 | 20 => 20 | 213 => 153 | 46 => 154 | 232 => 159 | 233 => 160 | n => n
  g := fun x => match x with | 17 => 0 | 18 => 2 | 19 => 3 | n => n
theorem lays171 : Lays.n171 Tryd.prog lays171_ren where
  mixed := by kernel_rfl
  f129 := Eq.trans Tryd.func89 (by kernel_rfl)
  f171 := Eq.trans Tryd.func30 (by kernel_rfl)
  f243 := Eq.trans Tryd.func50 (by kernel_rfl)
  f246 := Eq.trans Tryd.func65 (by kernel_rfl)
  f283 := Eq.trans Tryd.func75 (by kernel_rfl)
  f284 := Eq.trans Tryd.func76 (by kernel_rfl)
  f285 := Eq.trans Tryd.func77 (by kernel_rfl)
  f286 := Eq.trans Tryd.func78 (by kernel_rfl)
  f317 := Eq.trans Tryd.func88 (by kernel_rfl)
  f318 := Eq.trans Tryd.func90 (by kernel_rfl)
  f319 := Eq.trans Tryd.func91 (by kernel_rfl)
  f320 := Eq.trans Tryd.func92 (by kernel_rfl)
  f337 := Eq.trans Tryd.func95 (by kernel_rfl)
  f338 := Eq.trans Tryd.func96 (by kernel_rfl)
  t0 := Tryd.underlying0
  a0 := Tryd.isAgg0
  z0 := Tryd.sizeOf0
  v0 := Tryd.zeroValue0
  t2 := Tryd.underlying2
  a2 := Tryd.isAgg2
  z2 := Tryd.sizeOf2
  v2 := Tryd.zeroValue2
  t3 := Tryd.underlying3
  a3 := Tryd.isAgg3
  z3 := Tryd.sizeOf3
  v3 := Tryd.zeroValue3
  t4 := Tryd.underlying4
  a4 := Tryd.isAgg4
  z4 := Tryd.sizeOf4
  v4 := Tryd.zeroValue4
  t5 := Tryd.underlying5
  a5 := Tryd.isAgg5
  z5 := Tryd.sizeOf5
  v5 := Tryd.zeroValue5
  t9 := Tryd.underlying9
  a9 := Tryd.isAgg9
  z9 := Tryd.sizeOf9
  v9 := Tryd.zeroValue9
  t20 := Tryd.underlying20
  a20 := Tryd.isAgg20
  z20 := Tryd.sizeOf20
  v20 := Tryd.zeroValue20
  t37 := Tryd.underlying107
  a37 := Tryd.isAgg107
  z37 := Tryd.sizeOf107
  v37 := Tryd.zeroValue107
  t46 := Tryd.underlying154
  a46 := Tryd.isAgg154
  z46 := Tryd.sizeOf154
  v46 := Tryd.zeroValue154
  t51 := Tryd.underlying152
  a51 := Tryd.isAgg152
  z51 := Tryd.sizeOf152
  v51 := Tryd.zeroValue152
  t53 := Tryd.underlying136
  a53 := Tryd.isAgg136
  z53 := Tryd.sizeOf136
  v53 := Tryd.zeroValue136
  t171 := Tryd.underlying135
  a171 := Tryd.isAgg135
  z171 := Tryd.sizeOf135
  v171 := Tryd.zeroValue135
  t173 := Tryd.underlying139
  a173 := Tryd.isAgg139
  z173 := Tryd.sizeOf139
  v173 := Tryd.zeroValue139
  t212 := Tryd.underlying151
  a212 := Tryd.isAgg151
  z212 := Tryd.sizeOf151
  v212 := Tryd.zeroValue151
  t213 := Tryd.underlying153
  a213 := Tryd.isAgg153
  z213 := Tryd.sizeOf153
  t232 := Tryd.underlying159
  a232 := Tryd.isAgg159
  z232 := Tryd.sizeOf159
  v232 := Tryd.zeroValue159
  t233 := Tryd.underlying160
  a233 := Tryd.isAgg160
  z233 := Tryd.sizeOf160
  v233 := Tryd.zeroValue160
  g17 := by kernel_rfl
  g18 := by kernel_rfl
  g19 := by kernel_rfl
def lays156_ren : Ren where
  f := fun x => match x with | 156 => 31 | 165 => 51 | 166 => 52 | 169 => 53 | 240 => 66 | 241 => 67 | 276 => 79 | 277 => 80 | n => n
  t := fun x => match x with | 31 => 79 | 9 => 9 | 3 => 3 | 4 => 4 | 0 => 0 | 20 => 20 | 72 => 109 | 76 => 113 | 70 => 106 | 37 => 107 | 75 => 112 | 127 => 129 | 164 => 141 | 5 => 5 | 80 => 115 | n => n
  g := fun n => n
theorem lays156 : Lays.n156 Tryd.prog lays156_ren where
  mixed := by kernel_rfl
  f156 := Eq.trans Tryd.func31 (by kernel_rfl)
  f165 := Eq.trans Tryd.func51 (by kernel_rfl)
  f166 := Eq.trans Tryd.func52 (by kernel_rfl)
  f169 := Eq.trans Tryd.func53 (by kernel_rfl)
  f240 := Eq.trans Tryd.func66 (by kernel_rfl)
  f241 := Eq.trans Tryd.func67 (by kernel_rfl)
  f276 := Eq.trans Tryd.func79 (by kernel_rfl)
  f277 := Eq.trans Tryd.func80 (by kernel_rfl)
  t0 := Tryd.underlying0
  a0 := Tryd.isAgg0
  z0 := Tryd.sizeOf0
  v0 := Tryd.zeroValue0
  t3 := Tryd.underlying3
  a3 := Tryd.isAgg3
  z3 := Tryd.sizeOf3
  v3 := Tryd.zeroValue3
  t4 := Tryd.underlying4
  a4 := Tryd.isAgg4
  z4 := Tryd.sizeOf4
  v4 := Tryd.zeroValue4
  t9 := Tryd.underlying9
  a9 := Tryd.isAgg9
  z9 := Tryd.sizeOf9
  v9 := Tryd.zeroValue9
  t20 := Tryd.underlying20
  a20 := Tryd.isAgg20
  z20 := Tryd.sizeOf20
  v20 := Tryd.zeroValue20
  t31 := Tryd.underlying79
  a31 := Tryd.isAgg79
  z31 := Tryd.sizeOf79
  v31 := Tryd.zeroValue79
  t37 := Tryd.underlying107
  a37 := Tryd.isAgg107
  z37 := Tryd.sizeOf107
  v37 := Tryd.zeroValue107
  t70 := Tryd.underlying106
  a70 := Tryd.isAgg106
  z70 := Tryd.sizeOf106
  v70 := Tryd.zeroValue106
  t72 := Tryd.underlying109
  a72 := Tryd.isAgg109
  z72 := Tryd.sizeOf109
  v72 := Tryd.zeroValue109
  t75 := Tryd.underlying112
  a75 := Tryd.isAgg112
  z75 := Tryd.sizeOf112
  v75 := Tryd.zeroValue112
  t76 := Tryd.underlying113
  a76 := Tryd.isAgg113
  z76 := Tryd.sizeOf113
  v76 := Tryd.zeroValue113
  t127 := Tryd.underlying129
  a127 := Tryd.isAgg129
  z127 := Tryd.sizeOf129
  v127 := Tryd.zeroValue129
  t164 := Tryd.underlying141
  a164 := Tryd.isAgg141
  z164 := Tryd.sizeOf141
  v164 := Tryd.zeroValue141
theorem extra : Builder.Extra Tryd.prog lays156_ren where
  sizeBuilder := by kernel_rfl
  liesBuilder := by kernel_rfl
  t5 := Tryd.underlying5
  a5 := Tryd.isAgg5
  z5 := Tryd.sizeOf5
  v5 := Tryd.zeroValue5
  infoByte := by kernel_rfl
  cellsByte := by kernel_rfl
  sizeByte := by kernel_rfl
  neB5 := by decide

theorem has30 : HasBody Tryd.prog 30 := ⟨Tryd.f30, _, Tryd.func30, rfl, by kernel_rfl⟩
theorem has31 : HasBody Tryd.prog 31 := ⟨Tryd.f31, _, Tryd.func31, rfl, by kernel_rfl⟩

theorem prim_ok (f : FuncId) (F : List AV → Option AV) (h : AP f = some (.prim F)) : HasBody Tryd.prog f ∧ PrimOk Tryd.prog f F := by
  match f, h with
  | 0, h => have e : AP 0 = none := rfl; rw [e] at h; cases h
  | 1, h => have e : AP 1 = none := rfl; rw [e] at h; cases h
  | 2, h => have e : AP 2 = none := rfl; rw [e] at h; cases h
  | 3, h => have e : c_l_ScheduleWeeks = .prim F := Option.some.inj h; unfold c_l_ScheduleWeeks at e; cases e
  | 4, h => have e : c_l_awake = .prim F := Option.some.inj h; unfold c_l_awake at e; cases e
  | 5, h => have e : c_l_Few = .prim F := Option.some.inj h; unfold c_l_Few at e; cases e
  | 6, h => have e : c_s_CheckWeek = .prim F := Option.some.inj h; unfold c_s_CheckWeek at e; cases e
  | 7, h => have e : c_r_CopyWeek = .prim F := Option.some.inj h; unfold c_r_CopyWeek at e; cases e
  | 8, h => have e : c_r_CheckWeek = .prim F := Option.some.inj h; unfold c_r_CheckWeek at e; cases e
  | 9, h => have e : c_s_Best = .prim F := Option.some.inj h; unfold c_s_Best at e; cases e
  | 10, h => have e : c_l_Week = .prim F := Option.some.inj h; unfold c_l_Week at e; cases e
  | 11, h => have e :   c_s_ShareOf = .prim F := Option.some.inj h; unfold   c_s_ShareOf at e; cases e
  | 12, h => have e : c_s_FormatPlan = .prim F := Option.some.inj h; unfold c_s_FormatPlan at e; cases e
  | 13, h => have e : c_b_Whole = .prim F := Option.some.inj h; unfold c_b_Whole at e; cases e
  | 14, h => have e : c_s_first = .prim F := Option.some.inj h; unfold c_s_first at e; cases e
  | 15, h => have e : c_s_unless = .prim F := Option.some.inj h; unfold c_s_unless at e; cases e
  | 16, h => have e : c_s_within = .prim F := Option.some.inj h; unfold c_s_within at e; cases e
  | 17, h => have e : c_s_antennaErr = .prim F := Option.some.inj h; unfold c_s_antennaErr at e; cases e
  | 18, h => have e : c_s_requestErr = .prim F := Option.some.inj h; unfold c_s_requestErr at e; cases e
  | 19, h => have e : c_b_CopyRanges = .prim F := Option.some.inj h; unfold c_b_CopyRanges at e; cases e
  | 20, h => have e : c_b_CopyInts = .prim F := Option.some.inj h; unfold c_b_CopyInts at e; cases e
  | 21, h => have e : c_b_Within = .prim F := Option.some.inj h; unfold c_b_Within at e; cases e
  | 22, h => have e : c_r_antennaErr = .prim F := Option.some.inj h; unfold c_r_antennaErr at e; cases e
  | 23, h => have e : c_r_requestErr = .prim F := Option.some.inj h; unfold c_r_requestErr at e; cases e
  | 24, h => have e : c_s_openSmall = .prim F := Option.some.inj h; unfold c_s_openSmall at e; cases e
  | 25, h => have e : c_w_free = .prim F := Option.some.inj h; unfold c_w_free at e; cases e
  | 26, h => have e : c_c_best = .prim F := Option.some.inj h; unfold c_c_best at e; cases e
  | 27, h => have e : c_s_openPlan = .prim F := Option.some.inj h; unfold c_s_openPlan at e; cases e
  | 28, h => have e : c_s_passOf = .prim F := Option.some.inj h; unfold c_s_passOf at e; cases e
  | 29, h => have e : c_s_share = .prim F := Option.some.inj h; unfold c_s_share at e; cases e
  | 30, h => have e : pItoa = .prim F := Option.some.inj h; unfold pItoa at e; cases e; exact ⟨has30, pItoa_ok lays171⟩
  | 31, h => have e : pJoin = .prim F := Option.some.inj h; unfold pJoin at e; cases e; exact ⟨has31, pJoin_ok lays156 extra⟩
  | 32, h => have e :   c_z_ContainsFunc_ScheduleAntenna = .prim F := Option.some.inj h; unfold   c_z_ContainsFunc_ScheduleAntenna at e; cases e
  | 33, h => have e : c_s_antennaErr_1 = .prim F := Option.some.inj h; unfold c_s_antennaErr_1 at e; cases e
  | 34, h => have e : c_s_isName = .prim F := Option.some.inj h; unfold c_s_isName at e; cases e
  | 35, h => have e : c_s_slotsErr = .prim F := Option.some.inj h; unfold c_s_slotsErr at e; cases e
  | 36, h => have e : c_b_IsName = .prim F := Option.some.inj h; unfold c_b_IsName at e; cases e
  | 37, h => have e : c_r_slotsErr = .prim F := Option.some.inj h; unfold c_r_slotsErr at e; cases e
  | 38, h => have e : c_s_open = .prim F := Option.some.inj h; unfold c_s_open at e; cases e
  | 39, h => have e : c_s_openSmall_1 = .prim F := Option.some.inj h; unfold c_s_openSmall_1 at e; cases e
  | 40, h => have e :   c_z_ContainsFunc_ScheduleRequest = .prim F := Option.some.inj h; unfold   c_z_ContainsFunc_ScheduleRequest at e; cases e
  | 41, h => have e : c_w_placements = .prim F := Option.some.inj h; unfold c_w_placements at e; cases e
  | 42, h => have e : c_c_worth = .prim F := Option.some.inj h; unfold c_c_worth at e; cases e
  | 43, h => have e : c_c_isPermitted = .prim F := Option.some.inj h; unfold c_c_isPermitted at e; cases e
  | 44, h => have e : c_c_fits = .prim F := Option.some.inj h; unfold c_c_fits at e; cases e
  | 45, h => have e : c_z_Contains_int = .prim F := Option.some.inj h; unfold c_z_Contains_int at e; cases e
  | 46, h => have e : c_c_next = .prim F := Option.some.inj h; unfold c_c_next at e; cases e
  | 47, h => have e : c_w_check = .prim F := Option.some.inj h; unfold c_w_check at e; cases e
  | 48, h => have e : c_z_IndexFunc_SchedulePass = .prim F := Option.some.inj h; unfold c_z_IndexFunc_SchedulePass at e; cases e
  | 49, h => have e : c_s_passOf_1 = .prim F := Option.some.inj h; unfold c_s_passOf_1 at e; cases e
  | 50, h => have e : AP 50 = none := rfl; rw [e] at h; cases h
  | 51, h => have e : AP 51 = none := rfl; rw [e] at h; cases h
  | 52, h => have e : AP 52 = none := rfl; rw [e] at h; cases h
  | 53, h => have e : AP 53 = none := rfl; rw [e] at h; cases h
  | 54, h => have e : c_z_IndexFunc_ScheduleAntenna = .prim F := Option.some.inj h; unfold c_z_IndexFunc_ScheduleAntenna at e; cases e
  | 55, h => have e : c_s_slotsErr_1 = .prim F := Option.some.inj h; unfold c_s_slotsErr_1 at e; cases e
  | 56, h => have e : c_z_IndexFunc_ScheduleRequest = .prim F := Option.some.inj h; unfold c_z_IndexFunc_ScheduleRequest at e; cases e
  | 57, h => have e : c_w_possible = .prim F := Option.some.inj h; unfold c_w_possible at e; cases e
  | 58, h => have e : c_w_conflicts = .prim F := Option.some.inj h; unfold c_w_conflicts at e; cases e
  | 59, h => have e : c_s_members = .prim F := Option.some.inj h; unfold c_s_members at e; cases e
  | 60, h => have e :   c_w_without = .prim F := Option.some.inj h; unfold   c_w_without at e; cases e
  | 61, h => have e : c_w_fit = .prim F := Option.some.inj h; unfold c_w_fit at e; cases e
  | 62, h => have e : c_z_Index_int = .prim F := Option.some.inj h; unfold c_z_Index_int at e; cases e
  | 63, h => have e : c_z_Clone_SchedulePass = .prim F := Option.some.inj h; unfold c_z_Clone_SchedulePass at e; cases e
  | 64, h => have e : c_w_passErr = .prim F := Option.some.inj h; unfold c_w_passErr at e; cases e
  | 65, h => have e : AP 65 = none := rfl; rw [e] at h; cases h
  | 66, h => have e : AP 66 = none := rfl; rw [e] at h; cases h
  | 67, h => have e : AP 67 = none := rfl; rw [e] at h; cases h
  | 68, h => have e : c_w_possible_1 = .prim F := Option.some.inj h; unfold c_w_possible_1 at e; cases e
  | 69, h => have e : c_w_isOpen = .prim F := Option.some.inj h; unfold c_w_isOpen at e; cases e
  | 70, h => have e : c_s_groups = .prim F := Option.some.inj h; unfold c_s_groups at e; cases e
  | 71, h => have e :   c_z_ContainsFunc_SchedulePass = .prim F := Option.some.inj h; unfold   c_z_ContainsFunc_SchedulePass at e; cases e
  | 72, h => have e : c_w_conflicts_1 = .prim F := Option.some.inj h; unfold c_w_conflicts_1 at e; cases e
  | 73, h => have e : c_w_conflict = .prim F := Option.some.inj h; unfold c_w_conflict at e; cases e
  | 74, h => have e : c_w_requestErr = .prim F := Option.some.inj h; unfold c_w_requestErr at e; cases e
  | 75, h => have e : AP 75 = none := rfl; rw [e] at h; cases h
  | 76, h => have e : AP 76 = none := rfl; rw [e] at h; cases h
  | 77, h => have e : AP 77 = none := rfl; rw [e] at h; cases h
  | 78, h => have e : AP 78 = none := rfl; rw [e] at h; cases h
  | 79, h => have e : AP 79 = none := rfl; rw [e] at h; cases h
  | 80, h => have e : AP 80 = none := rfl; rw [e] at h; cases h
  | 81, h => have e : c_z_Contains_bool = .prim F := Option.some.inj h; unfold c_z_Contains_bool at e; cases e
  | 82, h => have e : c_s_groups_1 = .prim F := Option.some.inj h; unfold c_s_groups_1 at e; cases e
  | 83, h => have e : c_s_groups_1_1 = .prim F := Option.some.inj h; unfold c_s_groups_1_1 at e; cases e
  | 84, h => have e :   c_z_Clone_int = .prim F := Option.some.inj h; unfold   c_z_Clone_int at e; cases e
  | 85, h => have e : c_z_ContainsFunc_int = .prim F := Option.some.inj h; unfold c_z_ContainsFunc_int at e; cases e
  | 86, h => have e : c_w_conflict_1 = .prim F := Option.some.inj h; unfold c_w_conflict_1 at e; cases e
  | 87, h => have e : c_w_end = .prim F := Option.some.inj h; unfold c_w_end at e; cases e
  | 88, h => have e : AP 88 = none := rfl; rw [e] at h; cases h
  | 89, h => have e : AP 89 = none := rfl; rw [e] at h; cases h
  | 90, h => have e : AP 90 = none := rfl; rw [e] at h; cases h
  | 91, h => have e : AP 91 = none := rfl; rw [e] at h; cases h
  | 92, h => have e : AP 92 = none := rfl; rw [e] at h; cases h
  | 93, h => have e : c_z_Index_bool = .prim F := Option.some.inj h; unfold c_z_Index_bool at e; cases e
  | 94, h => have e : c_z_IndexFunc_int = .prim F := Option.some.inj h; unfold c_z_IndexFunc_int at e; cases e
  | m + 95, h => have e : AP (m + 95) = none := rfl; rw [e] at h; cases h

theorem prog_ok : ProgOk Tryd.prog AP := ⟨by kernel_rfl, code_ok, prim_ok⟩
end Go.Proofs.YtmlicbljjedmmaaDoor.AxOk
