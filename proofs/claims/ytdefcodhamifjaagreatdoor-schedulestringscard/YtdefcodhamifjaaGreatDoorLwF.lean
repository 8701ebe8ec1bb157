/-
  PROVED: ScheduleStrings returns true for every input, and leaves its arguments as they were: the tied card. Conditions: none but the statement's own.
-/
import Derived.Test.YtdefcodhamifjaaGreatDoorT15
import Derived.Test.YtdefcodhamifjaaGreatDoorT16
import Derived.Test.YtdefcodhamifjaaGreatDoorCards
import Derived.Test.YtdefcodhamifjaaGreatDoorTie
import Derived.WalkKit
import Derived.ProofKit
import Derived.OpenShut
import Derived.JoinedCond
import Derived.LaidMore
import Derived.Stop.Joined
import Derived.Lay
namespace Go.Proofs.YtdefcodhamifjaaGreatDoor.lawF
open Go.Ax Go.Ax.Sx Go.Ax.Sx.Sc
open Go.ChangeShapes Go.WideShapes Go.ChangeAt Go.RowKit
set_option linter.unusedVariables false
set_option maxRecDepth 100000

theorem own : ownKnob Tryz.prog.godebug = none := by kernel_rfl
theorem laidOut : laidOutB Tryz.prog = true := by kernel_rfl

theorem wkT : WkT Tryz.prog 3 9 52 48 53 50 22 55 23 25 where
  i := Tryz.underlying3
  s := Tryz.underlying9
  g := ⟨_, Tryz.underlying52, rfl⟩
  gs := Tryz.underlying48
  gc := by kernel_rfl
  is := Tryz.underlying53
  ic := by kernel_rfl
  a := ⟨_, Tryz.underlying50, rfl⟩
  sa := Tryz.underlying22
  ac := by kernel_rfl
  r := ⟨_, Tryz.underlying55, rfl⟩
  sr := Tryz.underlying23
  rc := by kernel_rfl
  w := ⟨_, Tryz.underlying25, rfl⟩

theorem plT : PlT Tryz.prog 3 53 57 26 where
  i := Tryz.underlying3
  ic := by kernel_rfl
  is := Tryz.underlying53
  p := ⟨_, Tryz.underlying57, rfl⟩
  ps := Tryz.underlying26
  pc := by kernel_rfl

theorem law_ok : LawOk Tryz.prog AP 3 6 [25, 26, 9] := by
  intro xs s hs h
  cases h with
  | cons h1 h =>
    cases h with
    | cons h2 h =>
      cases h with
      | cons h3 h =>
        cases h with
        | nil =>
          simp only [ArgShp, Tryz.underlying25] at h1
          obtain ⟨v1, rfl, h1⟩ := h1
          obtain ⟨w, hw, h1a, h1b⟩ := shp_week wkT h1
          rw [hw]
          simp only [ArgShp, Tryz.underlying26] at h2
          obtain ⟨l, o, e, hx2, h2a, h2b, h2c⟩ := shp_planA plT h2
          injection hx2 with hx2
          subst hx2
          simp only [ArgShp, Tryz.underlying9] at h3
          obtain ⟨n3, hx3, h3a⟩ := shp_str Tryz.underlying9 h3
          injection hx3 with hx3
          subst hx3
          exact l_ScheduleStrings hs h1a h1b h2b h2c (.inr h2a)

theorem types_ok0 : ([25, 26, 9].all (okT Tryz.prog 6)) = true := by kernel_rfl
theorem types_ok : ∀ t ∈ [25, 26, 9], okT Tryz.prog 6 t = true := List.all_eq_true.1 types_ok0
noncomputable def readT (t : TypeId) : Bool := Tryz.prog.readableRec t && decide (t < Tryz.prog.types.size)
theorem types_read0 : ([25, 26, 9].all readT) = true := by kernel_rfl
theorem types_read (t : TypeId) (ht : t ∈ [25, 26, 9]) : Tryz.prog.readableRec t = true ∧ t < Tryz.prog.types.size := by
  have h : readT t = true := List.all_eq_true.1 types_read0 t ht
  unfold readT at h
  exact ⟨(Bool.and_eq_true_iff.1 h).1, of_decide_eq_true (Bool.and_eq_true_iff.1 h).2⟩

abbrev laidL : List (String × DataW Unit) := [("math/bits.deBruijn32tab", Rows.laid_math_bits_deBruijn32tab), ("math/bits.deBruijn64tab", Rows.laid_math_bits_deBruijn64tab), ("internal/strconv.uint64pow10", Rows.laid_internal_strconv_uint64pow10), ("unicode/utf8.acceptRanges", Rows.laid_unicode_utf8_acceptRanges), ("strconv.ErrRange", Rows.laid_strconv_ErrRange), ("strconv.ErrSyntax", Rows.laid_strconv_ErrSyntax), ("unicode/utf8.first", Rows.laid_unicode_utf8_first)]

/-- The door's own heap meets the condition. -/
theorem nohandles : laidL.filter (fun x => x.2.handleName?.isSome) = [] := by kernel_rfl
theorem door_met (os : Os) (args : Array Value) : laidMetH Tryz.prog laidL ((World.laidAll Tryz.prog os laidL).forCall (fun _ _ => 0) ⟨#[], args, []⟩).memory := by
  unfold laidMetH
  rw [nohandles]
  exact laidMet_laidAll _ (by kernel_rfl) (by kernel_rfl)


/-- What the library's variables are listed as. -/
theorem ktypes : KTypes Tryz.prog laidL (AxOk.lays172_ren.g 15) (AxOk.lays172_ren.g 16) where
  tab := ⟨2, 1, 185, 157, by kernel_rfl, by kernel_rfl, by kernel_rfl, Tryz.underlying185, Tryz.underlying157, by kernel_rfl, by kernel_rfl⟩
  e1 := ⟨5, 98, _, _, _, show laidL[5]? = some ("strconv.ErrSyntax", .iface "*errors.errorString" (.ptr (.agg [.lit (.string [105, 110, 118, 97, 108, 105, 100, 32, 115, 121, 110, 116, 97, 120])]))) by kernel_rfl, by kernel_rfl, by kernel_rfl, Tryz.underlying98⟩
  e2 := ⟨4, 98, _, _, _, show laidL[4]? = some ("strconv.ErrRange", .iface "*errors.errorString" (.ptr (.agg [.lit (.string [118, 97, 108, 117, 101, 32, 111, 117, 116, 32, 111, 102, 32, 114, 97, 110, 103, 101])]))) by kernel_rfl, by kernel_rfl, by kernel_rfl, Tryz.underlying98⟩
theorem kshelf {W : World} (hL : laidMetH Tryz.prog laidL W) (hsh : W.ShapedOpen Tryz.prog) : AxOk.KW W := by
  unfold laidMetH at hL
  rw [nohandles] at hL
  exact kshelf_of ktypes hL (AxOk.lays145.s1_3 W hsh)

theorem lifted (os : Os) (started : os.Started) (H : Type) (enc : TypeId × Value → H) :
    ReturnsInHanded {} Tryz.checked os 3 .any (fun w args => (Rows.scheduleStringsSpec.pre enc Tryz.prog Tryz.f3 [] false w args ∧ laidMetH Tryz.prog laidL w) ∧ sizedMet enc Tryz.prog Tryz.f3 (OpenSpec.ofChange Rows.scheduleStringsSpec) false w args) (Rows.scheduleStringsSpec.post enc Tryz.prog Tryz.f3 false true false false) := by
  refine handed_and_shaped (C := Tryz.checked) (X := fun w _ => laidMetH Tryz.prog laidL w) (fun _ _ _ hh h => h.of_heap hh) own started (by kernel_rfl) Tryz.func3
    (ChangeSpec.witness_shaped (enc := enc) (C := Tryz.checked) (os := os) (X := fun w _ => laidMetH Tryz.prog laidL w) false (World.laidAll Tryz.prog os laidL) #[.agg #[.int .i64 0, .slice none 0 0, .slice none 0 0], .slice none 0 0, .string ⟨#[]⟩] 8 (World.laidAll_os _ _ _) (World.shaped_of_ZipB (by kernel_rfl) (by kernel_rfl)) (by kernel_rfl) (by kernel_rfl) (by kernel_rfl) (door_met os _)) ?_
  intro W base args ds gs before hval0 hW hcnd hwt0 hsh hL _
  have hval : ∀ (j : Nat) t v, Tryz.f3.params[j]? = some t → args[j]? = some v → Value.okWide Tryz.prog W .any base t v := hval0
  have hW' := hW
  obtain ⟨p, q, hA0, hV, rfl, hfz, hnd⟩ := hW
  have hA : DataW.TrodAll enc Tryz.prog W 0 (fun _ => true) true Tryz.f3.params.toList args.toList ds p := hA0
  have hlt : ∀ x ∈ p, x.block < W.heap.size := fun x hx => hW'.lt x (List.mem_append_left _ hx)
  have hwt : (DataW.weightsEach Tryz.prog (Tryz.f3.params.toList ++ []) (ds ++ gs)).all (· ≤ reachBytes) = true := hwt0
  rw [Tryz.params3] at hA hval hwt
  obtain ⟨rfl, rfl⟩ := trodVars_none hV
  rw [List.append_nil, List.append_nil] at hwt
  have hcalls := law_calls AxOk.prog_ok (fun w h => (kshelf hL hsh).below h) law_ok (f := 3) (args := args) types_ok (fun j t v h1 h2 => hval j t v (by simpa using h1) (by simpa using h2)) hA hwt
  refine hcalls.mono fun e W' ⟨he, hb⟩ => ?_
  subst he
  have hlen := trodAll_len hA
  match ds, hlen, hA, hW' with
  | [d0, d1, d2], _, hA, hW' =>
    refine ⟨_, rfl, post_of_below (pa := p) (pv := []) hW' (fun _ _ _ => trodAll_cons_mk (shut_bool Tryz.underlying4 _) trodAll_mk0) (fun sp hsp => ?_) (fun _ _ => rfl) rfl hb (ok_one (by kernel_rfl) rfl (okWide_bool_mk Tryz.underlying4 _))⟩
    exact stay_args laidOut hb (ts := [25, 26, 9]) types_read hA hlt (fun x hx => hsp x (List.mem_append_left _ hx))

theorem over : Rows.scheduleStringsRow.holds Tryz.pinned (OpenSpec.ofChange Rows.scheduleStringsSpec) :=
  OpenClaim.holds_of_wide 3 Tryz.f3 rfl rfl rfl rfl rfl rfl rfl ⟨rfl, rfl, rfl, rfl, rfl⟩ rfl rfl rfl rfl rfl (by kernel_rfl) Tryz.func3 (by kernel_rfl)
    (of_decide_eq_true (by kernel_rfl)) (by unfold Func.isWrapper; first | (rw [if_pos (by decide +kernel)]; kernel_rfl) | (rw [if_neg (by decide +kernel)]; exact ⟨rfl, rfl⟩))
    (fun os started H enc _ => lifted os started H enc)

theorem proved : Rows.ScheduleStringsCardSaid :=
  Claim7.holds_tied_plain_at .later [] [.data, .data, .data, .data, .sentinel, .sentinel, .pinned] true (true, "79489e0d0952d681217b9b9bbf03088a8db579cc42d28206f6be7fad8da9297f") true
    over (fun _ h => by cases h) (by kernel_rfl) (fun _ h => by cases h) scheduleStrings_row_tie rfl ⟨rfl, rfl⟩ (by kernel_rfl) rfl
    (fun f fn hf hfn => by
      obtain rfl : f = 3 := Option.some.inj ((show Tryz.prog.funcNamed "cassegrain/cassegrainlaw09.ScheduleStrings" = some 3 by kernel_rfl).symm.trans hf) |>.symm
      obtain rfl : fn = Tryz.f3 := (Option.some.inj (Tryz.func3.symm.trans hfn)).symm
      exact ⟨by kernel_rfl, fun j t ht => by
        rw [Tryz.params3] at ht
        rcases j with _ | j
        · have h3 : t = 25 := by simpa using ht.symm
          subst h3
          exact (show Tryz.prog.wantsStandIn 25 = false by kernel_rfl)
        ·
          rcases j with _ | j
          · have h3 : t = 26 := by simpa using ht.symm
            subst h3
            exact (show Tryz.prog.wantsStandIn 26 = false by kernel_rfl)
          ·
            rcases j with _ | j
            · have h3 : t = 9 := by simpa using ht.symm
              subst h3
              exact (show Tryz.prog.wantsStandIn 9 = false by kernel_rfl)
            ·
              simp at ht⟩)
    (by kernel_rfl)
end Go.Proofs.YtdefcodhamifjaaGreatDoor.lawF
