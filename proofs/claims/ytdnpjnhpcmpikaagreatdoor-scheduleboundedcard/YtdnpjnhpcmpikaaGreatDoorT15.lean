/-
  What is taken from the library's shelf, said in the executor's words.
-/
import Derived.Test.YtdnpjnhpcmpikaaGreatDoorT7
import Derived.Test.YtdnpjnhpcmpikaaGreatDoorT5
import Derived.Shelf.Strings.OnBuilder
import Derived.Shelf.Strconv.Itoa3
import Derived.Test.YtdnpjnhpcmpikaaGreatDoorT8
import Derived.Test.YtdnpjnhpcmpikaaGreatDoorProg
import Derived.KernelRfl
import Derived.Test.YtdnpjnhpcmpikaaGreatDoorT14
namespace Go.Ax.Sx.Sc
open Go.Ax Go.Proofs Go.Shelf Go.RowKit

variable {P : Program} {ρ : Ren}

theorem dig2_dec {n : Nat} (h : n < 100) : dig2 n = Lib.decDigits n := by
  unfold dig2
  rw [Lib.decDigits]
  by_cases h1 : n < 10
  · rw [if_pos h1, dif_pos h1]
  · rw [if_neg h1, dif_neg h1, Lib.decDigits, dif_pos (by omega)]; rfl

theorem relC_v {I : IMap} {x y : Value} (h : RelC I (.v x) y) : y = x := by cases h; rfl

theorem one_arg {xs : Array Value} (hl : xs.size = 1) : xs = #[xs.getD 0 Go.undef] := by
  apply Array.ext
  · simp [hl]
  · intro i h1 h2
    have : i = 0 := by omega
    subst this
    simp [Array.getD, hl]
theorem two_args {xs : Array Value} (hl : xs.size = 2) : xs = #[xs.getD 0 Go.undef, xs.getD 1 Go.undef] := by
  apply Array.ext
  · simp [hl]
  · intro i h1 h2
    have : i = 0 ∨ i = 1 := by omega
    rcases this with rfl | rfl <;> simp [Array.getD, hl]

theorem pItoa_ok (L : Lays.n171 P ρ) : PrimOk P (ρ.f 171) itoaF := by
  intro I w ys xs r hI hl hR hF
  unfold itoaF at hF
  split at hF
  · rename_i n
    split at hF
    · rename_i hn
      injection hF with hF
      subst hF
      have h0 := relC_v (hR 0 (by simp))
      have hx : xs = #[.int .i64 (n.toNat : Int)] := by
        rw [one_arg hl, h0, show ((n.toNat : Nat) : Int) = n by omega]
      rw [hx]
      refine (Any.strconv_Itoa_small L n.toNat (by omega) w).mono fun e w' ⟨he, hw⟩ => ?_
      subst hw
      refine ⟨_, I, he, fun _ _ _ h => h, fun _ _ _ h => .inl h, hI, Below.refl _ _, ?_⟩
      rw [dig2_dec (by omega)]
      exact .v rfl
    · cases hF
  · cases hF

theorem stringsOf_spec : ∀ {rows : List (List AV)} {ls : List (List UInt8)}, stringsOf rows = some ls → ∃ bs : List ByteArray, rows = bs.map (fun b => [.v (.string b)]) ∧ ls = bs.map (·.data.toList)
  | [], ls, h => by
    simp only [stringsOf] at h
    injection h with h
    exact ⟨[], rfl, h.symm⟩
  | row :: r, ls, h => by
    unfold stringsOf at h
    split at h
    · cases ‹_ :: _ = []›
    · rename_i s r' e
      injection e with e1 e2
      subst e1 e2
      obtain ⟨ls', h1, h2⟩ := Option.map_eq_some_iff.1 h
      obtain ⟨bs, b1, b2⟩ := stringsOf_spec h1
      exact ⟨s :: bs, by rw [b1]; rfl, by rw [← h2, b2]; rfl⟩
    · cases h

theorem pJoin_ok (L : Lays.n156 P ρ) (X : Builder.Extra P ρ) : PrimOk P (ρ.f 156) joinF := by
  intro I w ys xs r hI hl hR hF
  unfold joinF at hF
  split at hF
  · rename_i o es rows sep
    obtain ⟨ls, hs, hF⟩ := Option.bind_eq_some_iff.1 hF
    split at hF
    · rename_i hlim
      injection hF with hF
      subst hF
      obtain ⟨bs, hb1, hb2⟩ := stringsOf_spec hs
      have h1 := relC_v (hR 1 (by simp))
      have h0 : RelC I (.slice o es rows) (xs.getD 0 Go.undef) := hR 0 (by simp)
      have hx : xs = #[xs.getD 0 Go.undef, .string sep] := by
        rw [two_args hl]; simp only [h1]; rfl
      have none_case : ∀ a c, rows = [] → xs.getD 0 Go.undef = .slice a 0 c → Calls P (ρ.f 156) xs w fun e w' => ∃ z I', e = .returned z ∧ (∀ b i v, I b i = some v → I' b i = some v) ∧ (∀ b i v, I' b i = some v → I b i = some v ∨ w.heap.size ≤ b) ∧ (∀ b i v, I' b i = some v → w'.cell? ⟨b, i, none⟩ = some v) ∧
          Below w.heap.size w w' ∧ RelC I' (.v (.string ⟨(sep.data.toList.intercalate ls).toArray⟩)) z := by
        intro a c hr0 hv
        have hl0 : ls = [] := by
          rw [hr0] at hs; simp only [stringsOf] at hs; injection hs with hs; exact hs.symm
        rw [hx, hv]
        refine (Any.strings_Join_none L X a c sep w).mono fun e w' ⟨he, hw⟩ => ?_
        subst hw
        refine ⟨_, I, he, fun _ _ _ h => h, fun _ _ _ h => .inl h, hI, Below.refl _ _, ?_⟩
        rw [hl0]
        exact .v rfl
      generalize hv : xs.getD 0 Go.undef = v at *
      cases h0 with
      | nilS => exact none_case _ _ rfl rfl
      | empty ho => exact none_case _ _ rfl rfl
      | slice f ho hc hes hcell hIc hRc =>
        rename_i blk off cap
        by_cases hne : rows = []
        · subst hne
          exact none_case _ _ rfl rfl
        · have hrl : rows.length = bs.length := by rw [hb1]; simp
          have hes1 : es = 1 := by
            cases hbs : bs with
            | nil => rw [hbs] at hb1; exact absurd hb1 hne
            | cons b t =>
              have h3 := hes [.v (.string b)] (by rw [hb1, hbs]; simp)
              rw [← h3]; rfl
          subst hes1
          have hcells : ∀ (j : Nat) x, bs[j]? = some x → w.cell? ⟨blk, off + j, none⟩ = some (.string x) := by
            intro j x hj
            have hjl : j < rows.length := by rw [hrl]; exact (List.getElem?_eq_some_iff.1 hj).1
            have hrow : rows[j] = [.v (.string x)] := by
              have : rows[j]? = some [.v (.string x)] := by rw [hb1, List.getElem?_map, hj]; rfl
              rw [List.getElem?_eq_getElem hjl] at this
              injection this
            have hl1 : 0 < rows[j].length := by rw [hrow]; simp
            have hi := hIc j hjl 0 hl1
            have hrr := hRc j hjl 0 hl1
            have e1 : rows[j][0] = .v (.string x) := by simp only [hrow]; rfl
            rw [e1] at hrr
            rw [relC_v hrr] at hi
            have := hI _ _ _ hi
            rw [show off + j * 1 + 0 = off + j by omega] at this
            exact this
          have hbk : blk < w.heap.size := by
            have hbl : 0 < bs.length := by rw [← hrl]; exact List.length_pos_iff.2 hne
            exact World.block_lt_of_cell? _ _ (hcells 0 _ (List.getElem?_eq_getElem hbl))
          have hjoin : Lib.join (bs.map (·.data.toList)) sep.data.toList = sep.data.toList.intercalate ls := by rw [hb2]; rfl
          have hlsl : ls.length = bs.length := by rw [hb2]; simp
          rw [hx]
          have hrl' : rows.length = bs.length := hrl
          rw [hrl'] at hc ⊢
          refine (Any.strings_Join L X blk off cap bs sep w hcells hbk (by omega) hc (by rw [hjoin]; omega)).mono fun e w' ⟨he, hw⟩ => ?_
          refine ⟨_, I, he, fun _ _ _ h => h, fun _ _ _ h => .inl h, fun b i v h => ?_, hw, ?_⟩
          · have h1 := hI b i v h
            have hb := World.block_lt_of_cell? _ _ h1
            have hh := hw.block b hb
            rw [← h1]
            exact cells_congr hh rfl
          · rw [hjoin]; exact .v rfl
    · cases hF
  · cases hF
end Go.Ax.Sx.Sc

/- The codes that are computed with are those of the program: each one is what compFn gives; what is taken from the library is what the shelf says of it. -/
namespace Go.Proofs.YtdnpjnhpcmpikaaGreatDoor.AxOk
open Go.Ax Go.Ax.Sx Go.Ax.Sx.Sc Go.Shelf
set_option maxRecDepth 100000

theorem k3 : compFn Tryz.prog false false Tryz.f3 = some c_l_ScheduleBounded := by kernel_rfl
theorem k4 : compFn Tryz.prog false false Tryz.f4 = some c_l_awake := by kernel_rfl
theorem k5 : compFn Tryz.prog false false Tryz.f5 = some c_l_Few := by kernel_rfl
theorem k6 : compFn Tryz.prog false false Tryz.f6 = some c_l_short := by kernel_rfl
theorem k7 : compFn Tryz.prog false false Tryz.f7 = some c_l_few := by kernel_rfl
theorem k8 : compFn Tryz.prog false false Tryz.f8 = some c_r_PlanErr := by kernel_rfl
theorem k9 : compFn Tryz.prog false false Tryz.f9 = some c_r_PricesErr := by kernel_rfl
theorem k10 : compFn Tryz.prog false false Tryz.f10 = some c_s_ValueOf := by kernel_rfl
theorem k11 : compFn Tryz.prog false false Tryz.f11 = some   c_r_CopyWeek := by kernel_rfl
theorem k12 : compFn Tryz.prog true false Tryz.f12 = some c_r_Copy := by kernel_rfl
theorem k13 : compFn Tryz.prog false false Tryz.f13 = some c_s_BoundOf := by kernel_rfl
theorem k14 : compFn Tryz.prog false false Tryz.f14 = some c_b_CopyLists := by kernel_rfl
theorem k15 : compFn Tryz.prog false false Tryz.f15 = some c_s_UniformPrices := by kernel_rfl
theorem k16 : compFn Tryz.prog false true Tryz.f16 = some c_r_Uniform := by kernel_rfl
theorem k17 : compFn Tryz.prog false false Tryz.f17 = some c_r_Possible := by kernel_rfl
theorem k18 : compFn Tryz.prog false false Tryz.f18 = some c_s_Best := by kernel_rfl
theorem k19 : compFn Tryz.prog false false Tryz.f19 = some c_l_Week := by kernel_rfl
theorem k20 : compFn Tryz.prog false false Tryz.f20 = some c_s_ShareOf := by kernel_rfl
theorem k21 : compFn Tryz.prog false false Tryz.f21 = some c_s_FormatPlan := by kernel_rfl
theorem k22 : compFn Tryz.prog false false Tryz.f22 = some c_b_Whole := by kernel_rfl
theorem k23 : compFn Tryz.prog false false Tryz.f23 = some c_r_WeekErr := by kernel_rfl
theorem k24 : compFn Tryz.prog false false Tryz.f24 = some c_r_CheckPlan := by kernel_rfl
theorem k25 : compFn Tryz.prog false false Tryz.f25 = some c_b_Within := by kernel_rfl
theorem k26 : compFn Tryz.prog false false Tryz.f26 = some c_s_openPlan := by kernel_rfl
theorem k27 : compFn Tryz.prog false false Tryz.f27 = some c_w_value := by kernel_rfl
theorem k28 : compFn Tryz.prog false false Tryz.f28 = some c_b_CopyRanges := by kernel_rfl
theorem k29 : compFn Tryz.prog true false Tryz.f29 = some c_b_CopyInts := by kernel_rfl
theorem k30 : compFn Tryz.prog false false Tryz.f30 = some c_s_open := by kernel_rfl
theorem k31 : compFn Tryz.prog false false Tryz.f31 = some c_s_BoundOf_1 := by kernel_rfl
theorem k32 : compFn Tryz.prog false false Tryz.f32 = some   c_z_ContainsFunc_intL := by kernel_rfl
theorem k33 : compFn Tryz.prog false false Tryz.f33 = some c_s_within := by kernel_rfl
theorem k34 : compFn Tryz.prog false false Tryz.f34 = some c_w_possible := by kernel_rfl
theorem k35 : compFn Tryz.prog false false Tryz.f35 = some c_w_end := by kernel_rfl
theorem k36 : compFn Tryz.prog false false Tryz.f36 = some c_w_openSlots := by kernel_rfl
theorem k37 : compFn Tryz.prog false false Tryz.f37 = some c_s_UniformPrices_1 := by kernel_rfl
theorem k38 : compFn Tryz.prog false false Tryz.f38 = some c_z_Repeat_int := by kernel_rfl
theorem k39 : compFn Tryz.prog false false Tryz.f39 = some c_r_choices := by kernel_rfl
theorem k40 : compFn Tryz.prog false false Tryz.f40 = some c_r_shut := by kernel_rfl
theorem k41 : compFn Tryz.prog false false Tryz.f41 = some c_s_openSmall := by kernel_rfl
theorem k42 : compFn Tryz.prog false false Tryz.f42 = some   c_w_free := by kernel_rfl
theorem k43 : compFn Tryz.prog false false Tryz.f43 = some c_c_best := by kernel_rfl
theorem k44 : compFn Tryz.prog false false Tryz.f44 = some c_s_passOf := by kernel_rfl
theorem k45 : compFn Tryz.prog false false Tryz.f45 = some c_s_share := by kernel_rfl
theorem k48 : compFn Tryz.prog false false Tryz.f48 = some c_r_CheckWeek := by kernel_rfl
theorem k49 : compFn Tryz.prog false false Tryz.f49 = some c_r_passErr := by kernel_rfl
theorem k50 : compFn Tryz.prog false false Tryz.f50 = some c_w_check := by kernel_rfl
theorem k51 : compFn Tryz.prog false false Tryz.f51 = some c_s_CheckWeek := by kernel_rfl
theorem k52 : compFn Tryz.prog false false Tryz.f52 = some c_z_IndexFunc_intL := by kernel_rfl
theorem k53 : compFn Tryz.prog false false Tryz.f53 = some   c_w_possible_1 := by kernel_rfl
theorem k54 : compFn Tryz.prog false false Tryz.f54 = some c_w_isOpen := by kernel_rfl
theorem k55 : compFn Tryz.prog false false Tryz.f55 = some c_s_groups := by kernel_rfl
theorem k56 : compFn Tryz.prog false false Tryz.f56 = some c_math_bits_Mul := by kernel_rfl
theorem k57 : compFn Tryz.prog false false Tryz.f57 = some c_r_closed := by kernel_rfl
theorem k58 : compFn Tryz.prog false false Tryz.f58 = some c_s_openSmall_1 := by kernel_rfl
theorem k59 : compFn Tryz.prog false false Tryz.f59 = some c_z_ContainsFunc_ScheduleRequest := by kernel_rfl
theorem k60 : compFn Tryz.prog false false Tryz.f60 = some c_s_unless := by kernel_rfl
theorem k61 : compFn Tryz.prog false false Tryz.f61 = some c_w_placements := by kernel_rfl
theorem k62 : compFn Tryz.prog false false Tryz.f62 = some   c_c_worth := by kernel_rfl
theorem k63 : compFn Tryz.prog false false Tryz.f63 = some c_c_isPermitted := by kernel_rfl
theorem k64 : compFn Tryz.prog false false Tryz.f64 = some c_c_fits := by kernel_rfl
theorem k65 : compFn Tryz.prog false false Tryz.f65 = some c_z_Contains_int := by kernel_rfl
theorem k66 : compFn Tryz.prog false false Tryz.f66 = some c_c_next := by kernel_rfl
theorem k67 : compFn Tryz.prog false false Tryz.f67 = some c_z_IndexFunc_SchedulePass := by kernel_rfl
theorem k68 : compFn Tryz.prog false false Tryz.f68 = some c_s_passOf_1 := by kernel_rfl
theorem k73 : compFn Tryz.prog false false Tryz.f73 = some c_r_antennaErr := by kernel_rfl
theorem k74 : compFn Tryz.prog false false Tryz.f74 = some   c_r_requestErr := by kernel_rfl
theorem k75 : compFn Tryz.prog false false Tryz.f75 = some c_b_Has := by kernel_rfl
theorem k76 : compFn Tryz.prog false false Tryz.f76 = some c_r_Conflict := by kernel_rfl
theorem k77 : compFn Tryz.prog false false Tryz.f77 = some c_w_passErr := by kernel_rfl
theorem k78 : compFn Tryz.prog false false Tryz.f78 = some c_s_first := by kernel_rfl
theorem k79 : compFn Tryz.prog false false Tryz.f79 = some c_s_antennaErr := by kernel_rfl
theorem k80 : compFn Tryz.prog false false Tryz.f80 = some c_s_requestErr := by kernel_rfl
theorem k81 : compFn Tryz.prog false false Tryz.f81 = some c_z_Contains_bool := by kernel_rfl
theorem k82 : compFn Tryz.prog false false Tryz.f82 = some c_s_groups_1 := by kernel_rfl
theorem k83 : compFn Tryz.prog false false Tryz.f83 = some c_s_groups_1_1 := by kernel_rfl
theorem k84 : compFn Tryz.prog true false Tryz.f84 = some   c_z_Clone_int := by kernel_rfl
theorem k85 : compFn Tryz.prog false false Tryz.f85 = some c_math_bits_Mul32 := by kernel_rfl
theorem k86 : compFn Tryz.prog false false Tryz.f86 = some c_math_bits_Mul64 := by kernel_rfl
theorem k87 : compFn Tryz.prog false false Tryz.f87 = some c_z_IndexFunc_ScheduleRequest := by kernel_rfl
theorem k88 : compFn Tryz.prog false false Tryz.f88 = some c_w_conflicts := by kernel_rfl
theorem k89 : compFn Tryz.prog false false Tryz.f89 = some c_s_members := by kernel_rfl
theorem k90 : compFn Tryz.prog false false Tryz.f90 = some c_w_without := by kernel_rfl
theorem k91 : compFn Tryz.prog false false Tryz.f91 = some c_w_fit := by kernel_rfl
theorem k92 : compFn Tryz.prog false false Tryz.f92 = some c_z_Index_int := by kernel_rfl
theorem k93 : compFn Tryz.prog true false Tryz.f93 = some   c_z_Clone_SchedulePass := by kernel_rfl
theorem k97 : compFn Tryz.prog false false Tryz.f97 = some c_b_IsName := by kernel_rfl
theorem k98 : compFn Tryz.prog false false Tryz.f98 = some c_r_slotsErr := by kernel_rfl
theorem k99 : compFn Tryz.prog false false Tryz.f99 = some c_w_requestErr := by kernel_rfl
theorem k100 : compFn Tryz.prog false false Tryz.f100 = some c_z_ContainsFunc_ScheduleAntenna := by kernel_rfl
theorem k101 : compFn Tryz.prog false false Tryz.f101 = some c_s_antennaErr_1 := by kernel_rfl
theorem k102 : compFn Tryz.prog false false Tryz.f102 = some c_s_isName := by kernel_rfl
theorem k103 : compFn Tryz.prog false false Tryz.f103 = some c_s_slotsErr := by kernel_rfl
theorem k104 : compFn Tryz.prog false false Tryz.f104 = some c_z_Index_bool := by kernel_rfl
theorem k105 : compFn Tryz.prog false false Tryz.f105 = some c_z_ContainsFunc_SchedulePass := by kernel_rfl
theorem k106 : compFn Tryz.prog false false Tryz.f106 = some c_w_conflicts_1 := by kernel_rfl
theorem k107 : compFn Tryz.prog false false Tryz.f107 = some c_w_conflict := by kernel_rfl
theorem k114 : compFn Tryz.prog false false Tryz.f114 = some c_z_IndexFunc_ScheduleAntenna := by kernel_rfl
theorem k115 : compFn Tryz.prog false false Tryz.f115 = some c_s_slotsErr_1 := by kernel_rfl
theorem k116 : compFn Tryz.prog false false Tryz.f116 = some   c_z_ContainsFunc_int := by kernel_rfl
theorem k117 : compFn Tryz.prog false false Tryz.f117 = some c_w_conflict_1 := by kernel_rfl
theorem k123 : compFn Tryz.prog false false Tryz.f123 = some c_z_IndexFunc_int := by kernel_rfl

theorem code_ok (f : FuncId) (np nt : Nat) (b : ACode) (rs : List ARes) (own : Bool) (h : AP f = some (.code np nt b rs own)) : ∃ fn mu, Tryz.prog.funcs[f]? = some fn ∧ compFn Tryz.prog own mu fn = some (.code np nt b rs own) := by
  match f, h with
  | 0, h => have e : AP 0 = none := rfl; rw [e] at h; cases h
  | 1, h => have e : AP 1 = none := rfl; rw [e] at h; cases h
  | 2, h => have e : AP 2 = none := rfl; rw [e] at h; cases h
  | 3, h => have e : c_l_ScheduleBounded = .code np nt b rs own := Option.some.inj h; unfold c_l_ScheduleBounded at e; cases e; exact ⟨_, _, Tryz.func3, k3⟩
  | 4, h => have e : c_l_awake = .code np nt b rs own := Option.some.inj h; unfold c_l_awake at e; cases e; exact ⟨_, _, Tryz.func4, k4⟩
  | 5, h => have e : c_l_Few = .code np nt b rs own := Option.some.inj h; unfold c_l_Few at e; cases e; exact ⟨_, _, Tryz.func5, k5⟩
  | 6, h => have e : c_l_short = .code np nt b rs own := Option.some.inj h; unfold c_l_short at e; cases e; exact ⟨_, _, Tryz.func6, k6⟩
  | 7, h => have e : c_l_few = .code np nt b rs own := Option.some.inj h; unfold c_l_few at e; cases e; exact ⟨_, _, Tryz.func7, k7⟩
  | 8, h => have e : c_r_PlanErr = .code np nt b rs own := Option.some.inj h; unfold c_r_PlanErr at e; cases e; exact ⟨_, _, Tryz.func8, k8⟩
  | 9, h => have e : c_r_PricesErr = .code np nt b rs own := Option.some.inj h; unfold c_r_PricesErr at e; cases e; exact ⟨_, _, Tryz.func9, k9⟩
  | 10, h => have e : c_s_ValueOf = .code np nt b rs own := Option.some.inj h; unfold c_s_ValueOf at e; cases e; exact ⟨_, _, Tryz.func10, k10⟩
  | 11, h => have e :   c_r_CopyWeek = .code np nt b rs own := Option.some.inj h; unfold   c_r_CopyWeek at e; cases e; exact ⟨_, _, Tryz.func11, k11⟩
  | 12, h => have e : c_r_Copy = .code np nt b rs own := Option.some.inj h; unfold c_r_Copy at e; cases e; exact ⟨_, _, Tryz.func12, k12⟩
  | 13, h => have e : c_s_BoundOf = .code np nt b rs own := Option.some.inj h; unfold c_s_BoundOf at e; cases e; exact ⟨_, _, Tryz.func13, k13⟩
  | 14, h => have e : c_b_CopyLists = .code np nt b rs own := Option.some.inj h; unfold c_b_CopyLists at e; cases e; exact ⟨_, _, Tryz.func14, k14⟩
  | 15, h => have e : c_s_UniformPrices = .code np nt b rs own := Option.some.inj h; unfold c_s_UniformPrices at e; cases e; exact ⟨_, _, Tryz.func15, k15⟩
  | 16, h => have e : c_r_Uniform = .code np nt b rs own := Option.some.inj h; unfold c_r_Uniform at e; cases e; exact ⟨_, _, Tryz.func16, k16⟩
  | 17, h => have e : c_r_Possible = .code np nt b rs own := Option.some.inj h; unfold c_r_Possible at e; cases e; exact ⟨_, _, Tryz.func17, k17⟩
  | 18, h => have e : c_s_Best = .code np nt b rs own := Option.some.inj h; unfold c_s_Best at e; cases e; exact ⟨_, _, Tryz.func18, k18⟩
  | 19, h => have e : c_l_Week = .code np nt b rs own := Option.some.inj h; unfold c_l_Week at e; cases e; exact ⟨_, _, Tryz.func19, k19⟩
  | 20, h => have e : c_s_ShareOf = .code np nt b rs own := Option.some.inj h; unfold c_s_ShareOf at e; cases e; exact ⟨_, _, Tryz.func20, k20⟩
  | 21, h => have e : c_s_FormatPlan = .code np nt b rs own := Option.some.inj h; unfold c_s_FormatPlan at e; cases e; exact ⟨_, _, Tryz.func21, k21⟩
  | 22, h => have e : c_b_Whole = .code np nt b rs own := Option.some.inj h; unfold c_b_Whole at e; cases e; exact ⟨_, _, Tryz.func22, k22⟩
  | 23, h => have e : c_r_WeekErr = .code np nt b rs own := Option.some.inj h; unfold c_r_WeekErr at e; cases e; exact ⟨_, _, Tryz.func23, k23⟩
  | 24, h => have e : c_r_CheckPlan = .code np nt b rs own := Option.some.inj h; unfold c_r_CheckPlan at e; cases e; exact ⟨_, _, Tryz.func24, k24⟩
  | 25, h => have e : c_b_Within = .code np nt b rs own := Option.some.inj h; unfold c_b_Within at e; cases e; exact ⟨_, _, Tryz.func25, k25⟩
  | 26, h => have e : c_s_openPlan = .code np nt b rs own := Option.some.inj h; unfold c_s_openPlan at e; cases e; exact ⟨_, _, Tryz.func26, k26⟩
  | 27, h => have e : c_w_value = .code np nt b rs own := Option.some.inj h; unfold c_w_value at e; cases e; exact ⟨_, _, Tryz.func27, k27⟩
  | 28, h => have e : c_b_CopyRanges = .code np nt b rs own := Option.some.inj h; unfold c_b_CopyRanges at e; cases e; exact ⟨_, _, Tryz.func28, k28⟩
  | 29, h => have e : c_b_CopyInts = .code np nt b rs own := Option.some.inj h; unfold c_b_CopyInts at e; cases e; exact ⟨_, _, Tryz.func29, k29⟩
  | 30, h => have e : c_s_open = .code np nt b rs own := Option.some.inj h; unfold c_s_open at e; cases e; exact ⟨_, _, Tryz.func30, k30⟩
  | 31, h => have e : c_s_BoundOf_1 = .code np nt b rs own := Option.some.inj h; unfold c_s_BoundOf_1 at e; cases e; exact ⟨_, _, Tryz.func31, k31⟩
  | 32, h => have e :   c_z_ContainsFunc_intL = .code np nt b rs own := Option.some.inj h; unfold   c_z_ContainsFunc_intL at e; cases e; exact ⟨_, _, Tryz.func32, k32⟩
  | 33, h => have e : c_s_within = .code np nt b rs own := Option.some.inj h; unfold c_s_within at e; cases e; exact ⟨_, _, Tryz.func33, k33⟩
  | 34, h => have e : c_w_possible = .code np nt b rs own := Option.some.inj h; unfold c_w_possible at e; cases e; exact ⟨_, _, Tryz.func34, k34⟩
  | 35, h => have e : c_w_end = .code np nt b rs own := Option.some.inj h; unfold c_w_end at e; cases e; exact ⟨_, _, Tryz.func35, k35⟩
  | 36, h => have e : c_w_openSlots = .code np nt b rs own := Option.some.inj h; unfold c_w_openSlots at e; cases e; exact ⟨_, _, Tryz.func36, k36⟩
  | 37, h => have e : c_s_UniformPrices_1 = .code np nt b rs own := Option.some.inj h; unfold c_s_UniformPrices_1 at e; cases e; exact ⟨_, _, Tryz.func37, k37⟩
  | 38, h => have e : c_z_Repeat_int = .code np nt b rs own := Option.some.inj h; unfold c_z_Repeat_int at e; cases e; exact ⟨_, _, Tryz.func38, k38⟩
  | 39, h => have e : c_r_choices = .code np nt b rs own := Option.some.inj h; unfold c_r_choices at e; cases e; exact ⟨_, _, Tryz.func39, k39⟩
  | 40, h => have e : c_r_shut = .code np nt b rs own := Option.some.inj h; unfold c_r_shut at e; cases e; exact ⟨_, _, Tryz.func40, k40⟩
  | 41, h => have e : c_s_openSmall = .code np nt b rs own := Option.some.inj h; unfold c_s_openSmall at e; cases e; exact ⟨_, _, Tryz.func41, k41⟩
  | 42, h => have e :   c_w_free = .code np nt b rs own := Option.some.inj h; unfold   c_w_free at e; cases e; exact ⟨_, _, Tryz.func42, k42⟩
  | 43, h => have e : c_c_best = .code np nt b rs own := Option.some.inj h; unfold c_c_best at e; cases e; exact ⟨_, _, Tryz.func43, k43⟩
  | 44, h => have e : c_s_passOf = .code np nt b rs own := Option.some.inj h; unfold c_s_passOf at e; cases e; exact ⟨_, _, Tryz.func44, k44⟩
  | 45, h => have e : c_s_share = .code np nt b rs own := Option.some.inj h; unfold c_s_share at e; cases e; exact ⟨_, _, Tryz.func45, k45⟩
  | 46, h => have e : pItoa = .code np nt b rs own := Option.some.inj h; unfold pItoa at e; cases e
  | 47, h => have e : pJoin = .code np nt b rs own := Option.some.inj h; unfold pJoin at e; cases e
  | 48, h => have e : c_r_CheckWeek = .code np nt b rs own := Option.some.inj h; unfold c_r_CheckWeek at e; cases e; exact ⟨_, _, Tryz.func48, k48⟩
  | 49, h => have e : c_r_passErr = .code np nt b rs own := Option.some.inj h; unfold c_r_passErr at e; cases e; exact ⟨_, _, Tryz.func49, k49⟩
  | 50, h => have e : c_w_check = .code np nt b rs own := Option.some.inj h; unfold c_w_check at e; cases e; exact ⟨_, _, Tryz.func50, k50⟩
  | 51, h => have e : c_s_CheckWeek = .code np nt b rs own := Option.some.inj h; unfold c_s_CheckWeek at e; cases e; exact ⟨_, _, Tryz.func51, k51⟩
  | 52, h => have e : c_z_IndexFunc_intL = .code np nt b rs own := Option.some.inj h; unfold c_z_IndexFunc_intL at e; cases e; exact ⟨_, _, Tryz.func52, k52⟩
  | 53, h => have e :   c_w_possible_1 = .code np nt b rs own := Option.some.inj h; unfold   c_w_possible_1 at e; cases e; exact ⟨_, _, Tryz.func53, k53⟩
  | 54, h => have e : c_w_isOpen = .code np nt b rs own := Option.some.inj h; unfold c_w_isOpen at e; cases e; exact ⟨_, _, Tryz.func54, k54⟩
  | 55, h => have e : c_s_groups = .code np nt b rs own := Option.some.inj h; unfold c_s_groups at e; cases e; exact ⟨_, _, Tryz.func55, k55⟩
  | 56, h => have e : c_math_bits_Mul = .code np nt b rs own := Option.some.inj h; unfold c_math_bits_Mul at e; cases e; exact ⟨_, _, Tryz.func56, k56⟩
  | 57, h => have e : c_r_closed = .code np nt b rs own := Option.some.inj h; unfold c_r_closed at e; cases e; exact ⟨_, _, Tryz.func57, k57⟩
  | 58, h => have e : c_s_openSmall_1 = .code np nt b rs own := Option.some.inj h; unfold c_s_openSmall_1 at e; cases e; exact ⟨_, _, Tryz.func58, k58⟩
  | 59, h => have e : c_z_ContainsFunc_ScheduleRequest = .code np nt b rs own := Option.some.inj h; unfold c_z_ContainsFunc_ScheduleRequest at e; cases e; exact ⟨_, _, Tryz.func59, k59⟩
  | 60, h => have e : c_s_unless = .code np nt b rs own := Option.some.inj h; unfold c_s_unless at e; cases e; exact ⟨_, _, Tryz.func60, k60⟩
  | 61, h => have e : c_w_placements = .code np nt b rs own := Option.some.inj h; unfold c_w_placements at e; cases e; exact ⟨_, _, Tryz.func61, k61⟩
  | 62, h => have e :   c_c_worth = .code np nt b rs own := Option.some.inj h; unfold   c_c_worth at e; cases e; exact ⟨_, _, Tryz.func62, k62⟩
  | 63, h => have e : c_c_isPermitted = .code np nt b rs own := Option.some.inj h; unfold c_c_isPermitted at e; cases e; exact ⟨_, _, Tryz.func63, k63⟩
  | 64, h => have e : c_c_fits = .code np nt b rs own := Option.some.inj h; unfold c_c_fits at e; cases e; exact ⟨_, _, Tryz.func64, k64⟩
  | 65, h => have e : c_z_Contains_int = .code np nt b rs own := Option.some.inj h; unfold c_z_Contains_int at e; cases e; exact ⟨_, _, Tryz.func65, k65⟩
  | 66, h => have e : c_c_next = .code np nt b rs own := Option.some.inj h; unfold c_c_next at e; cases e; exact ⟨_, _, Tryz.func66, k66⟩
  | 67, h => have e : c_z_IndexFunc_SchedulePass = .code np nt b rs own := Option.some.inj h; unfold c_z_IndexFunc_SchedulePass at e; cases e; exact ⟨_, _, Tryz.func67, k67⟩
  | 68, h => have e : c_s_passOf_1 = .code np nt b rs own := Option.some.inj h; unfold c_s_passOf_1 at e; cases e; exact ⟨_, _, Tryz.func68, k68⟩
  | 69, h => have e : AP 69 = none := rfl; rw [e] at h; cases h
  | 70, h => have e : AP 70 = none := rfl; rw [e] at h; cases h
  | 71, h => have e : AP 71 = none := rfl; rw [e] at h; cases h
  | 72, h => have e : AP 72 = none := rfl; rw [e] at h; cases h
  | 73, h => have e : c_r_antennaErr = .code np nt b rs own := Option.some.inj h; unfold c_r_antennaErr at e; cases e; exact ⟨_, _, Tryz.func73, k73⟩
  | 74, h => have e :   c_r_requestErr = .code np nt b rs own := Option.some.inj h; unfold   c_r_requestErr at e; cases e; exact ⟨_, _, Tryz.func74, k74⟩
  | 75, h => have e : c_b_Has = .code np nt b rs own := Option.some.inj h; unfold c_b_Has at e; cases e; exact ⟨_, _, Tryz.func75, k75⟩
  | 76, h => have e : c_r_Conflict = .code np nt b rs own := Option.some.inj h; unfold c_r_Conflict at e; cases e; exact ⟨_, _, Tryz.func76, k76⟩
  | 77, h => have e : c_w_passErr = .code np nt b rs own := Option.some.inj h; unfold c_w_passErr at e; cases e; exact ⟨_, _, Tryz.func77, k77⟩
  | 78, h => have e : c_s_first = .code np nt b rs own := Option.some.inj h; unfold c_s_first at e; cases e; exact ⟨_, _, Tryz.func78, k78⟩
  | 79, h => have e : c_s_antennaErr = .code np nt b rs own := Option.some.inj h; unfold c_s_antennaErr at e; cases e; exact ⟨_, _, Tryz.func79, k79⟩
  | 80, h => have e : c_s_requestErr = .code np nt b rs own := Option.some.inj h; unfold c_s_requestErr at e; cases e; exact ⟨_, _, Tryz.func80, k80⟩
  | 81, h => have e : c_z_Contains_bool = .code np nt b rs own := Option.some.inj h; unfold c_z_Contains_bool at e; cases e; exact ⟨_, _, Tryz.func81, k81⟩
  | 82, h => have e : c_s_groups_1 = .code np nt b rs own := Option.some.inj h; unfold c_s_groups_1 at e; cases e; exact ⟨_, _, Tryz.func82, k82⟩
  | 83, h => have e : c_s_groups_1_1 = .code np nt b rs own := Option.some.inj h; unfold c_s_groups_1_1 at e; cases e; exact ⟨_, _, Tryz.func83, k83⟩
  | 84, h => have e :   c_z_Clone_int = .code np nt b rs own := Option.some.inj h; unfold   c_z_Clone_int at e; cases e; exact ⟨_, _, Tryz.func84, k84⟩
  | 85, h => have e : c_math_bits_Mul32 = .code np nt b rs own := Option.some.inj h; unfold c_math_bits_Mul32 at e; cases e; exact ⟨_, _, Tryz.func85, k85⟩
  | 86, h => have e : c_math_bits_Mul64 = .code np nt b rs own := Option.some.inj h; unfold c_math_bits_Mul64 at e; cases e; exact ⟨_, _, Tryz.func86, k86⟩
  | 87, h => have e : c_z_IndexFunc_ScheduleRequest = .code np nt b rs own := Option.some.inj h; unfold c_z_IndexFunc_ScheduleRequest at e; cases e; exact ⟨_, _, Tryz.func87, k87⟩
  | 88, h => have e : c_w_conflicts = .code np nt b rs own := Option.some.inj h; unfold c_w_conflicts at e; cases e; exact ⟨_, _, Tryz.func88, k88⟩
  | 89, h => have e : c_s_members = .code np nt b rs own := Option.some.inj h; unfold c_s_members at e; cases e; exact ⟨_, _, Tryz.func89, k89⟩
  | 90, h => have e : c_w_without = .code np nt b rs own := Option.some.inj h; unfold c_w_without at e; cases e; exact ⟨_, _, Tryz.func90, k90⟩
  | 91, h => have e : c_w_fit = .code np nt b rs own := Option.some.inj h; unfold c_w_fit at e; cases e; exact ⟨_, _, Tryz.func91, k91⟩
  | 92, h => have e : c_z_Index_int = .code np nt b rs own := Option.some.inj h; unfold c_z_Index_int at e; cases e; exact ⟨_, _, Tryz.func92, k92⟩
  | 93, h => have e :   c_z_Clone_SchedulePass = .code np nt b rs own := Option.some.inj h; unfold   c_z_Clone_SchedulePass at e; cases e; exact ⟨_, _, Tryz.func93, k93⟩
  | 94, h => have e : AP 94 = none := rfl; rw [e] at h; cases h
  | 95, h => have e : AP 95 = none := rfl; rw [e] at h; cases h
  | 96, h => have e : AP 96 = none := rfl; rw [e] at h; cases h
  | 97, h => have e : c_b_IsName = .code np nt b rs own := Option.some.inj h; unfold c_b_IsName at e; cases e; exact ⟨_, _, Tryz.func97, k97⟩
  | 98, h => have e : c_r_slotsErr = .code np nt b rs own := Option.some.inj h; unfold c_r_slotsErr at e; cases e; exact ⟨_, _, Tryz.func98, k98⟩
  | 99, h => have e : c_w_requestErr = .code np nt b rs own := Option.some.inj h; unfold c_w_requestErr at e; cases e; exact ⟨_, _, Tryz.func99, k99⟩
  | 100, h => have e : c_z_ContainsFunc_ScheduleAntenna = .code np nt b rs own := Option.some.inj h; unfold c_z_ContainsFunc_ScheduleAntenna at e; cases e; exact ⟨_, _, Tryz.func100, k100⟩
  | 101, h => have e : c_s_antennaErr_1 = .code np nt b rs own := Option.some.inj h; unfold c_s_antennaErr_1 at e; cases e; exact ⟨_, _, Tryz.func101, k101⟩
  | 102, h => have e : c_s_isName = .code np nt b rs own := Option.some.inj h; unfold c_s_isName at e; cases e; exact ⟨_, _, Tryz.func102, k102⟩
  | 103, h => have e : c_s_slotsErr = .code np nt b rs own := Option.some.inj h; unfold c_s_slotsErr at e; cases e; exact ⟨_, _, Tryz.func103, k103⟩
  | 104, h => have e : c_z_Index_bool = .code np nt b rs own := Option.some.inj h; unfold c_z_Index_bool at e; cases e; exact ⟨_, _, Tryz.func104, k104⟩
  | 105, h => have e : c_z_ContainsFunc_SchedulePass = .code np nt b rs own := Option.some.inj h; unfold c_z_ContainsFunc_SchedulePass at e; cases e; exact ⟨_, _, Tryz.func105, k105⟩
  | 106, h => have e : c_w_conflicts_1 = .code np nt b rs own := Option.some.inj h; unfold c_w_conflicts_1 at e; cases e; exact ⟨_, _, Tryz.func106, k106⟩
  | 107, h => have e : c_w_conflict = .code np nt b rs own := Option.some.inj h; unfold c_w_conflict at e; cases e; exact ⟨_, _, Tryz.func107, k107⟩
  | 108, h => have e : AP 108 = none := rfl; rw [e] at h; cases h
  | 109, h => have e : AP 109 = none := rfl; rw [e] at h; cases h
  | 110, h => have e : AP 110 = none := rfl; rw [e] at h; cases h
  | 111, h => have e : AP 111 = none := rfl; rw [e] at h; cases h
  | 112, h => have e : AP 112 = none := rfl; rw [e] at h; cases h
  | 113, h => have e : AP 113 = none := rfl; rw [e] at h; cases h
  | 114, h => have e : c_z_IndexFunc_ScheduleAntenna = .code np nt b rs own := Option.some.inj h; unfold c_z_IndexFunc_ScheduleAntenna at e; cases e; exact ⟨_, _, Tryz.func114, k114⟩
  | 115, h => have e : c_s_slotsErr_1 = .code np nt b rs own := Option.some.inj h; unfold c_s_slotsErr_1 at e; cases e; exact ⟨_, _, Tryz.func115, k115⟩
  | 116, h => have e :   c_z_ContainsFunc_int = .code np nt b rs own := Option.some.inj h; unfold   c_z_ContainsFunc_int at e; cases e; exact ⟨_, _, Tryz.func116, k116⟩
  | 117, h => have e : c_w_conflict_1 = .code np nt b rs own := Option.some.inj h; unfold c_w_conflict_1 at e; cases e; exact ⟨_, _, Tryz.func117, k117⟩
  | 118, h => have e : AP 118 = none := rfl; rw [e] at h; cases h
  | 119, h => have e : AP 119 = none := rfl; rw [e] at h; cases h
  | 120, h => have e : AP 120 = none := rfl; rw [e] at h; cases h
  | 121, h => have e : AP 121 = none := rfl; rw [e] at h; cases h
  | 122, h => have e : AP 122 = none := rfl; rw [e] at h; cases h
  | 123, h => have e : c_z_IndexFunc_int = .code np nt b rs own := Option.some.inj h; unfold c_z_IndexFunc_int at e; cases e; exact ⟨_, _, Tryz.func123, k123⟩
  | m + 124, h => have e : AP (m + 124) = none := rfl; rw [e] at h; cases h

def lays171_ren : Ren where
  f := fun x => match x with | 171 => 46 | 243 => 69 | 246 => 94 | 283 => 108 | 284 => 109 | 285 => 110 | 286 => 111 | 129 => 119 | 317 => 118 | 318 => 120 | 319 => 121 | 320 => 122 | 337 => 124 | 338 => 125 | n => n
  t := fun x => match x with | 3 => 3 | 9 => 9 | 2 => 2 | 4 => 4 | 171 => 174 | 0 => 0 | 53 => 152 | 37 => 130 | 5 => 5 | 173 => 177 | 212 => 185 | 51 => 149 | 20 => 20 | 213 => 186 | 46 => 114 | 232 => 190 | 233 => 191 | n => n
  g := fun x => match x with | 17 => 0 | 18 => 2 | 19 => 3 | n => n
theorem lays171 : Lays.n171 Tryz.prog lays171_ren where
  mixed := by kernel_rfl
  f129 := Eq.trans Tryz.func119 (by kernel_rfl)
  f171 := Eq.trans Tryz.func46 (by kernel_rfl)
  f243 := Eq.trans Tryz.func69 (by kernel_rfl)
  f246 := Eq.trans Tryz.func94 (by kernel_rfl)
  f283 := Eq.trans Tryz.func108 (by kernel_rfl)
  f284 := Eq.trans Tryz.func109 (by kernel_rfl)
  f285 := Eq.trans Tryz.func110 (by kernel_rfl)
  f286 := Eq.trans Tryz.func111 (by kernel_rfl)
  f317 := Eq.trans Tryz.func118 (by kernel_rfl)
  f318 := Eq.trans Tryz.func120 (by kernel_rfl)
  f319 := Eq.trans Tryz.func121 (by kernel_rfl)
  f320 := Eq.trans Tryz.func122 (by kernel_rfl)
  f337 := Eq.trans Tryz.func124 (by kernel_rfl)
  f338 := Eq.trans Tryz.func125 (by kernel_rfl)
  t0 := Tryz.underlying0
  a0 := Tryz.isAgg0
  z0 := Tryz.sizeOf0
  v0 := Tryz.zeroValue0
  t2 := Tryz.underlying2
  a2 := Tryz.isAgg2
  z2 := Tryz.sizeOf2
  v2 := Tryz.zeroValue2
  t3 := Tryz.underlying3
  a3 := Tryz.isAgg3
  z3 := Tryz.sizeOf3
  v3 := Tryz.zeroValue3
  t4 := Tryz.underlying4
  a4 := Tryz.isAgg4
  z4 := Tryz.sizeOf4
  v4 := Tryz.zeroValue4
  t5 := Tryz.underlying5
  a5 := Tryz.isAgg5
  z5 := Tryz.sizeOf5
  v5 := Tryz.zeroValue5
  t9 := Tryz.underlying9
  a9 := Tryz.isAgg9
  z9 := Tryz.sizeOf9
  v9 := Tryz.zeroValue9
  t20 := Tryz.underlying20
  a20 := Tryz.isAgg20
  z20 := Tryz.sizeOf20
  v20 := Tryz.zeroValue20
  t37 := Tryz.underlying130
  a37 := Tryz.isAgg130
  z37 := Tryz.sizeOf130
  v37 := Tryz.zeroValue130
  t46 := Tryz.underlying114
  a46 := Tryz.isAgg114
  z46 := Tryz.sizeOf114
  v46 := Tryz.zeroValue114
  t51 := Tryz.underlying149
  a51 := Tryz.isAgg149
  z51 := Tryz.sizeOf149
  v51 := Tryz.zeroValue149
  t53 := Tryz.underlying152
  a53 := Tryz.isAgg152
  z53 := Tryz.sizeOf152
  v53 := Tryz.zeroValue152
  t171 := Tryz.underlying174
  a171 := Tryz.isAgg174
  z171 := Tryz.sizeOf174
  v171 := Tryz.zeroValue174
  t173 := Tryz.underlying177
  a173 := Tryz.isAgg177
  z173 := Tryz.sizeOf177
  v173 := Tryz.zeroValue177
  t212 := Tryz.underlying185
  a212 := Tryz.isAgg185
  z212 := Tryz.sizeOf185
  v212 := Tryz.zeroValue185
  t213 := Tryz.underlying186
  a213 := Tryz.isAgg186
  z213 := Tryz.sizeOf186
  t232 := Tryz.underlying190
  a232 := Tryz.isAgg190
  z232 := Tryz.sizeOf190
  v232 := Tryz.zeroValue190
  t233 := Tryz.underlying191
  a233 := Tryz.isAgg191
  z233 := Tryz.sizeOf191
  v233 := Tryz.zeroValue191
  g17 := by kernel_rfl
  g18 := by kernel_rfl
  g19 := by kernel_rfl
def lays156_ren : Ren where
  f := fun x => match x with | 156 => 47 | 165 => 70 | 166 => 71 | 169 => 72 | 240 => 95 | 241 => 96 | 276 => 112 | 277 => 113 | n => n
  t := fun x => match x with | 31 => 99 | 9 => 9 | 3 => 3 | 4 => 4 | 0 => 0 | 20 => 20 | 72 => 132 | 76 => 136 | 70 => 129 | 37 => 130 | 75 => 135 | 127 => 163 | 164 => 179 | 5 => 5 | 80 => 138 | n => n
  g := fun n => n
theorem lays156 : Lays.n156 Tryz.prog lays156_ren where
  mixed := by kernel_rfl
  f156 := Eq.trans Tryz.func47 (by kernel_rfl)
  f165 := Eq.trans Tryz.func70 (by kernel_rfl)
  f166 := Eq.trans Tryz.func71 (by kernel_rfl)
  f169 := Eq.trans Tryz.func72 (by kernel_rfl)
  f240 := Eq.trans Tryz.func95 (by kernel_rfl)
  f241 := Eq.trans Tryz.func96 (by kernel_rfl)
  f276 := Eq.trans Tryz.func112 (by kernel_rfl)
  f277 := Eq.trans Tryz.func113 (by kernel_rfl)
  t0 := Tryz.underlying0
  a0 := Tryz.isAgg0
  z0 := Tryz.sizeOf0
  v0 := Tryz.zeroValue0
  t3 := Tryz.underlying3
  a3 := Tryz.isAgg3
  z3 := Tryz.sizeOf3
  v3 := Tryz.zeroValue3
  t4 := Tryz.underlying4
  a4 := Tryz.isAgg4
  z4 := Tryz.sizeOf4
  v4 := Tryz.zeroValue4
  t9 := Tryz.underlying9
  a9 := Tryz.isAgg9
  z9 := Tryz.sizeOf9
  v9 := Tryz.zeroValue9
  t20 := Tryz.underlying20
  a20 := Tryz.isAgg20
  z20 := Tryz.sizeOf20
  v20 := Tryz.zeroValue20
  t31 := Tryz.underlying99
  a31 := Tryz.isAgg99
  z31 := Tryz.sizeOf99
  v31 := Tryz.zeroValue99
  t37 := Tryz.underlying130
  a37 := Tryz.isAgg130
  z37 := Tryz.sizeOf130
  v37 := Tryz.zeroValue130
  t70 := Tryz.underlying129
  a70 := Tryz.isAgg129
  z70 := Tryz.sizeOf129
  v70 := Tryz.zeroValue129
  t72 := Tryz.underlying132
  a72 := Tryz.isAgg132
  z72 := Tryz.sizeOf132
  v72 := Tryz.zeroValue132
  t75 := Tryz.underlying135
  a75 := Tryz.isAgg135
  z75 := Tryz.sizeOf135
  v75 := Tryz.zeroValue135
  t76 := Tryz.underlying136
  a76 := Tryz.isAgg136
  z76 := Tryz.sizeOf136
  v76 := Tryz.zeroValue136
  t127 := Tryz.underlying163
  a127 := Tryz.isAgg163
  z127 := Tryz.sizeOf163
  v127 := Tryz.zeroValue163
  t164 := Tryz.underlying179
  a164 := Tryz.isAgg179
  z164 := Tryz.sizeOf179
  v164 := Tryz.zeroValue179
theorem extra : Builder.Extra Tryz.prog lays156_ren where
  sizeBuilder := by kernel_rfl
  liesBuilder := by kernel_rfl
  t5 := Tryz.underlying5
  a5 := Tryz.isAgg5
  z5 := Tryz.sizeOf5
  v5 := Tryz.zeroValue5
  infoByte := by kernel_rfl
  cellsByte := by kernel_rfl
  sizeByte := by kernel_rfl
  neB5 := by decide

theorem has46 : HasBody Tryz.prog 46 := ⟨Tryz.f46, _, Tryz.func46, rfl, by kernel_rfl⟩
theorem has47 : HasBody Tryz.prog 47 := ⟨Tryz.f47, _, Tryz.func47, rfl, by kernel_rfl⟩

theorem prim_ok (f : FuncId) (F : List AV → Option AV) (h : AP f = some (.prim F)) : HasBody Tryz.prog f ∧ PrimOk Tryz.prog f F := by
  match f, h with
  | 0, h => have e : AP 0 = none := rfl; rw [e] at h; cases h
  | 1, h => have e : AP 1 = none := rfl; rw [e] at h; cases h
  | 2, h => have e : AP 2 = none := rfl; rw [e] at h; cases h
  | 3, h => have e : c_l_ScheduleBounded = .prim F := Option.some.inj h; unfold c_l_ScheduleBounded at e; cases e
  | 4, h => have e : c_l_awake = .prim F := Option.some.inj h; unfold c_l_awake at e; cases e
  | 5, h => have e : c_l_Few = .prim F := Option.some.inj h; unfold c_l_Few at e; cases e
  | 6, h => have e : c_l_short = .prim F := Option.some.inj h; unfold c_l_short at e; cases e
  | 7, h => have e : c_l_few = .prim F := Option.some.inj h; unfold c_l_few at e; cases e
  | 8, h => have e : c_r_PlanErr = .prim F := Option.some.inj h; unfold c_r_PlanErr at e; cases e
  | 9, h => have e : c_r_PricesErr = .prim F := Option.some.inj h; unfold c_r_PricesErr at e; cases e
  | 10, h => have e : c_s_ValueOf = .prim F := Option.some.inj h; unfold c_s_ValueOf at e; cases e
  | 11, h => have e :   c_r_CopyWeek = .prim F := Option.some.inj h; unfold   c_r_CopyWeek at e; cases e
  | 12, h => have e : c_r_Copy = .prim F := Option.some.inj h; unfold c_r_Copy at e; cases e
  | 13, h => have e : c_s_BoundOf = .prim F := Option.some.inj h; unfold c_s_BoundOf at e; cases e
  | 14, h => have e : c_b_CopyLists = .prim F := Option.some.inj h; unfold c_b_CopyLists at e; cases e
  | 15, h => have e : c_s_UniformPrices = .prim F := Option.some.inj h; unfold c_s_UniformPrices at e; cases e
  | 16, h => have e : c_r_Uniform = .prim F := Option.some.inj h; unfold c_r_Uniform at e; cases e
  | 17, h => have e : c_r_Possible = .prim F := Option.some.inj h; unfold c_r_Possible at e; cases e
  | 18, h => have e : c_s_Best = .prim F := Option.some.inj h; unfold c_s_Best at e; cases e
  | 19, h => have e : c_l_Week = .prim F := Option.some.inj h; unfold c_l_Week at e; cases e
  | 20, h => have e : c_s_ShareOf = .prim F := Option.some.inj h; unfold c_s_ShareOf at e; cases e
  | 21, h => have e : c_s_FormatPlan = .prim F := Option.some.inj h; unfold c_s_FormatPlan at e; cases e
  | 22, h => have e : c_b_Whole = .prim F := Option.some.inj h; unfold c_b_Whole at e; cases e
  | 23, h => have e : c_r_WeekErr = .prim F := Option.some.inj h; unfold c_r_WeekErr at e; cases e
  | 24, h => have e : c_r_CheckPlan = .prim F := Option.some.inj h; unfold c_r_CheckPlan at e; cases e
  | 25, h => have e : c_b_Within = .prim F := Option.some.inj h; unfold c_b_Within at e; cases e
  | 26, h => have e : c_s_openPlan = .prim F := Option.some.inj h; unfold c_s_openPlan at e; cases e
  | 27, h => have e : c_w_value = .prim F := Option.some.inj h; unfold c_w_value at e; cases e
  | 28, h => have e : c_b_CopyRanges = .prim F := Option.some.inj h; unfold c_b_CopyRanges at e; cases e
  | 29, h => have e : c_b_CopyInts = .prim F := Option.some.inj h; unfold c_b_CopyInts at e; cases e
  | 30, h => have e : c_s_open = .prim F := Option.some.inj h; unfold c_s_open at e; cases e
  | 31, h => have e : c_s_BoundOf_1 = .prim F := Option.some.inj h; unfold c_s_BoundOf_1 at e; cases e
  | 32, h => have e :   c_z_ContainsFunc_intL = .prim F := Option.some.inj h; unfold   c_z_ContainsFunc_intL at e; cases e
  | 33, h => have e : c_s_within = .prim F := Option.some.inj h; unfold c_s_within at e; cases e
  | 34, h => have e : c_w_possible = .prim F := Option.some.inj h; unfold c_w_possible at e; cases e
  | 35, h => have e : c_w_end = .prim F := Option.some.inj h; unfold c_w_end at e; cases e
  | 36, h => have e : c_w_openSlots = .prim F := Option.some.inj h; unfold c_w_openSlots at e; cases e
  | 37, h => have e : c_s_UniformPrices_1 = .prim F := Option.some.inj h; unfold c_s_UniformPrices_1 at e; cases e
  | 38, h => have e : c_z_Repeat_int = .prim F := Option.some.inj h; unfold c_z_Repeat_int at e; cases e
  | 39, h => have e : c_r_choices = .prim F := Option.some.inj h; unfold c_r_choices at e; cases e
  | 40, h => have e : c_r_shut = .prim F := Option.some.inj h; unfold c_r_shut at e; cases e
  | 41, h => have e : c_s_openSmall = .prim F := Option.some.inj h; unfold c_s_openSmall at e; cases e
  | 42, h => have e :   c_w_free = .prim F := Option.some.inj h; unfold   c_w_free at e; cases e
  | 43, h => have e : c_c_best = .prim F := Option.some.inj h; unfold c_c_best at e; cases e
  | 44, h => have e : c_s_passOf = .prim F := Option.some.inj h; unfold c_s_passOf at e; cases e
  | 45, h => have e : c_s_share = .prim F := Option.some.inj h; unfold c_s_share at e; cases e
  | 46, h => have e : pItoa = .prim F := Option.some.inj h; unfold pItoa at e; cases e; exact ⟨has46, pItoa_ok lays171⟩
  | 47, h => have e : pJoin = .prim F := Option.some.inj h; unfold pJoin at e; cases e; exact ⟨has47, pJoin_ok lays156 extra⟩
  | 48, h => have e : c_r_CheckWeek = .prim F := Option.some.inj h; unfold c_r_CheckWeek at e; cases e
  | 49, h => have e : c_r_passErr = .prim F := Option.some.inj h; unfold c_r_passErr at e; cases e
  | 50, h => have e : c_w_check = .prim F := Option.some.inj h; unfold c_w_check at e; cases e
  | 51, h => have e : c_s_CheckWeek = .prim F := Option.some.inj h; unfold c_s_CheckWeek at e; cases e
  | 52, h => have e : c_z_IndexFunc_intL = .prim F := Option.some.inj h; unfold c_z_IndexFunc_intL at e; cases e
  | 53, h => have e :   c_w_possible_1 = .prim F := Option.some.inj h; unfold   c_w_possible_1 at e; cases e
  | 54, h => have e : c_w_isOpen = .prim F := Option.some.inj h; unfold c_w_isOpen at e; cases e
  | 55, h => have e : c_s_groups = .prim F := Option.some.inj h; unfold c_s_groups at e; cases e
  | 56, h => have e : c_math_bits_Mul = .prim F := Option.some.inj h; unfold c_math_bits_Mul at e; cases e
  | 57, h => have e : c_r_closed = .prim F := Option.some.inj h; unfold c_r_closed at e; cases e
  | 58, h => have e : c_s_openSmall_1 = .prim F := Option.some.inj h; unfold c_s_openSmall_1 at e; cases e
  | 59, h => have e : c_z_ContainsFunc_ScheduleRequest = .prim F := Option.some.inj h; unfold c_z_ContainsFunc_ScheduleRequest at e; cases e
  | 60, h => have e : c_s_unless = .prim F := Option.some.inj h; unfold c_s_unless at e; cases e
  | 61, h => have e : c_w_placements = .prim F := Option.some.inj h; unfold c_w_placements at e; cases e
  | 62, h => have e :   c_c_worth = .prim F := Option.some.inj h; unfold   c_c_worth at e; cases e
  | 63, h => have e : c_c_isPermitted = .prim F := Option.some.inj h; unfold c_c_isPermitted at e; cases e
  | 64, h => have e : c_c_fits = .prim F := Option.some.inj h; unfold c_c_fits at e; cases e
  | 65, h => have e : c_z_Contains_int = .prim F := Option.some.inj h; unfold c_z_Contains_int at e; cases e
  | 66, h => have e : c_c_next = .prim F := Option.some.inj h; unfold c_c_next at e; cases e
  | 67, h => have e : c_z_IndexFunc_SchedulePass = .prim F := Option.some.inj h; unfold c_z_IndexFunc_SchedulePass at e; cases e
  | 68, h => have e : c_s_passOf_1 = .prim F := Option.some.inj h; unfold c_s_passOf_1 at e; cases e
  | 69, h => have e : AP 69 = none := rfl; rw [e] at h; cases h
  | 70, h => have e : AP 70 = none := rfl; rw [e] at h; cases h
  | 71, h => have e : AP 71 = none := rfl; rw [e] at h; cases h
  | 72, h => have e : AP 72 = none := rfl; rw [e] at h; cases h
  | 73, h => have e : c_r_antennaErr = .prim F := Option.some.inj h; unfold c_r_antennaErr at e; cases e
  | 74, h => have e :   c_r_requestErr = .prim F := Option.some.inj h; unfold   c_r_requestErr at e; cases e
  | 75, h => have e : c_b_Has = .prim F := Option.some.inj h; unfold c_b_Has at e; cases e
  | 76, h => have e : c_r_Conflict = .prim F := Option.some.inj h; unfold c_r_Conflict at e; cases e
  | 77, h => have e : c_w_passErr = .prim F := Option.some.inj h; unfold c_w_passErr at e; cases e
  | 78, h => have e : c_s_first = .prim F := Option.some.inj h; unfold c_s_first at e; cases e
  | 79, h => have e : c_s_antennaErr = .prim F := Option.some.inj h; unfold c_s_antennaErr at e; cases e
  | 80, h => have e : c_s_requestErr = .prim F := Option.some.inj h; unfold c_s_requestErr at e; cases e
  | 81, h => have e : c_z_Contains_bool = .prim F := Option.some.inj h; unfold c_z_Contains_bool at e; cases e
  | 82, h => have e : c_s_groups_1 = .prim F := Option.some.inj h; unfold c_s_groups_1 at e; cases e
  | 83, h => have e : c_s_groups_1_1 = .prim F := Option.some.inj h; unfold c_s_groups_1_1 at e; cases e
  | 84, h => have e :   c_z_Clone_int = .prim F := Option.some.inj h; unfold   c_z_Clone_int at e; cases e
  | 85, h => have e : c_math_bits_Mul32 = .prim F := Option.some.inj h; unfold c_math_bits_Mul32 at e; cases e
  | 86, h => have e : c_math_bits_Mul64 = .prim F := Option.some.inj h; unfold c_math_bits_Mul64 at e; cases e
  | 87, h => have e : c_z_IndexFunc_ScheduleRequest = .prim F := Option.some.inj h; unfold c_z_IndexFunc_ScheduleRequest at e; cases e
  | 88, h => have e : c_w_conflicts = .prim F := Option.some.inj h; unfold c_w_conflicts at e; cases e
  | 89, h => have e : c_s_members = .prim F := Option.some.inj h; unfold c_s_members at e; cases e
  | 90, h => have e : c_w_without = .prim F := Option.some.inj h; unfold c_w_without at e; cases e
  | 91, h => have e : c_w_fit = .prim F := Option.some.inj h; unfold c_w_fit at e; cases e
  | 92, h => have e : c_z_Index_int = .prim F := Option.some.inj h; unfold c_z_Index_int at e; cases e
  | 93, h => have e :   c_z_Clone_SchedulePass = .prim F := Option.some.inj h; unfold   c_z_Clone_SchedulePass at e; cases e
  | 94, h => have e : AP 94 = none := rfl; rw [e] at h; cases h
  | 95, h => have e : AP 95 = none := rfl; rw [e] at h; cases h
  | 96, h => have e : AP 96 = none := rfl; rw [e] at h; cases h
  | 97, h => have e : c_b_IsName = .prim F := Option.some.inj h; unfold c_b_IsName at e; cases e
  | 98, h => have e : c_r_slotsErr = .prim F := Option.some.inj h; unfold c_r_slotsErr at e; cases e
  | 99, h => have e : c_w_requestErr = .prim F := Option.some.inj h; unfold c_w_requestErr at e; cases e
  | 100, h => have e : c_z_ContainsFunc_ScheduleAntenna = .prim F := Option.some.inj h; unfold c_z_ContainsFunc_ScheduleAntenna at e; cases e
  | 101, h => have e : c_s_antennaErr_1 = .prim F := Option.some.inj h; unfold c_s_antennaErr_1 at e; cases e
  | 102, h => have e : c_s_isName = .prim F := Option.some.inj h; unfold c_s_isName at e; cases e
  | 103, h => have e : c_s_slotsErr = .prim F := Option.some.inj h; unfold c_s_slotsErr at e; cases e
  | 104, h => have e : c_z_Index_bool = .prim F := Option.some.inj h; unfold c_z_Index_bool at e; cases e
  | 105, h => have e : c_z_ContainsFunc_SchedulePass = .prim F := Option.some.inj h; unfold c_z_ContainsFunc_SchedulePass at e; cases e
  | 106, h => have e : c_w_conflicts_1 = .prim F := Option.some.inj h; unfold c_w_conflicts_1 at e; cases e
  | 107, h => have e : c_w_conflict = .prim F := Option.some.inj h; unfold c_w_conflict at e; cases e
  | 108, h => have e : AP 108 = none := rfl; rw [e] at h; cases h
  | 109, h => have e : AP 109 = none := rfl; rw [e] at h; cases h
  | 110, h => have e : AP 110 = none := rfl; rw [e] at h; cases h
  | 111, h => have e : AP 111 = none := rfl; rw [e] at h; cases h
  | 112, h => have e : AP 112 = none := rfl; rw [e] at h; cases h
  | 113, h => have e : AP 113 = none := rfl; rw [e] at h; cases h
  | 114, h => have e : c_z_IndexFunc_ScheduleAntenna = .prim F := Option.some.inj h; unfold c_z_IndexFunc_ScheduleAntenna at e; cases e
  | 115, h => have e : c_s_slotsErr_1 = .prim F := Option.some.inj h; unfold c_s_slotsErr_1 at e; cases e
  | 116, h => have e :   c_z_ContainsFunc_int = .prim F := Option.some.inj h; unfold   c_z_ContainsFunc_int at e; cases e
  | 117, h => have e : c_w_conflict_1 = .prim F := Option.some.inj h; unfold c_w_conflict_1 at e; cases e
  | 118, h => have e : AP 118 = none := rfl; rw [e] at h; cases h
  | 119, h => have e : AP 119 = none := rfl; rw [e] at h; cases h
  | 120, h => have e : AP 120 = none := rfl; rw [e] at h; cases h
  | 121, h => have e : AP 121 = none := rfl; rw [e] at h; cases h
  | 122, h => have e : AP 122 = none := rfl; rw [e] at h; cases h
  | 123, h => have e : c_z_IndexFunc_int = .prim F := Option.some.inj h; unfold c_z_IndexFunc_int at e; cases e
  | m + 124, h => have e : AP (m + 124) = none := rfl; rw [e] at h; cases h

theorem prog_ok : ProgOk Tryz.prog AP := ⟨by kernel_rfl, code_ok, prim_ok⟩
end Go.Proofs.YtdnpjnhpcmpikaaGreatDoor.AxOk
