/-
  PROVED: ScheduleBounded returns true for every input, and leaves its arguments as they were: the tied card. Conditions: none but the statement's own.
-/
import Derived.Test.YtdnpjnhpcmpikaaGreatDoorT14
import Derived.Test.YtdnpjnhpcmpikaaGreatDoorT15
import Derived.Test.YtdnpjnhpcmpikaaGreatDoorCards
import Derived.Test.YtdnpjnhpcmpikaaGreatDoorTie
import Derived.WalkKit
import Derived.ProofKit
import Derived.OpenShut
import Derived.JoinedCond
import Derived.LaidMore
import Derived.Stop.Joined
namespace Go.Proofs.YtdnpjnhpcmpikaaGreatDoor.lawF
open Go.Ax Go.Ax.Sx Go.Ax.Sx.Sc
open Go.ChangeShapes Go.WideShapes Go.ChangeAt Go.RowKit
set_option linter.unusedVariables false
set_option maxRecDepth 100000

theorem own : ownKnob Tryz.prog.godebug = none := by kernel_rfl
theorem laidOut : laidOutB Tryz.prog = true := by kernel_rfl

theorem wkT : WkT Tryz.prog 3 9 46 60 47 62 22 49 23 25 where
  i := Tryz.underlying3
  s := Tryz.underlying9
  g := ⟨_, Tryz.underlying46, rfl⟩
  gs := Tryz.underlying60
  gc := by kernel_rfl
  is := Tryz.underlying47
  ic := by kernel_rfl
  a := ⟨_, Tryz.underlying62, rfl⟩
  sa := Tryz.underlying22
  ac := by kernel_rfl
  r := ⟨_, Tryz.underlying49, rfl⟩
  sr := Tryz.underlying23
  rc := by kernel_rfl
  w := ⟨_, Tryz.underlying25, rfl⟩

theorem plT : PlT Tryz.prog 3 47 64 26 where
  i := Tryz.underlying3
  ic := by kernel_rfl
  is := Tryz.underlying47
  p := ⟨_, Tryz.underlying64, rfl⟩
  ps := Tryz.underlying26
  pc := by kernel_rfl

theorem law_ok : LawOk Tryz.prog AP 3 6 [25, 26, 27] := by
  intro xs s hs h
  cases h with
  | cons h1 h =>
    cases h with
    | cons h2 h =>
      cases h with
      | cons h3 h =>
        cases h with
        | nil =>
          simp only [ArgShp, Tryz.underlying25] at h1
          obtain ⟨v1, rfl, h1⟩ := h1
          obtain ⟨w, hw, h1a, h1b⟩ := shp_week wkT h1
          rw [hw]
          simp only [ArgShp, Tryz.underlying26] at h2
          obtain ⟨l, o, e, hx2, h2a, h2b⟩ := shp_plan plT h2
          injection hx2 with hx2
          subst hx2
          simp only [ArgShp, Tryz.underlying27] at h3
          obtain ⟨l3, o3, q3, hx3, h3a, h3b⟩ := shp_lists wkT Tryz.underlying27 (by kernel_rfl) h3
          injection hx3 with hx3
          subst hx3
          exact l_ScheduleBounded hs h1a h1b h2b (.inr h2a) h3a h3b

theorem types_ok0 : ([25, 26, 27].all (okT Tryz.prog 6)) = true := by kernel_rfl
theorem types_ok : ∀ t ∈ [25, 26, 27], okT Tryz.prog 6 t = true := List.all_eq_true.1 types_ok0
noncomputable def readT (t : TypeId) : Bool := Tryz.prog.readableRec t && decide (t < Tryz.prog.types.size)
theorem types_read0 : ([25, 26, 27].all readT) = true := by kernel_rfl
theorem types_read (t : TypeId) (ht : t ∈ [25, 26, 27]) : Tryz.prog.readableRec t = true ∧ t < Tryz.prog.types.size := by
  have h : readT t = true := List.all_eq_true.1 types_read0 t ht
  unfold readT at h
  exact ⟨(Bool.and_eq_true_iff.1 h).1, of_decide_eq_true (Bool.and_eq_true_iff.1 h).2⟩

abbrev laidL : List (String × DataW Unit) := [("math/bits.deBruijn32tab", Rows.laid_math_bits_deBruijn32tab), ("math/bits.deBruijn64tab", Rows.laid_math_bits_deBruijn64tab), ("internal/strconv.uint64pow10", Rows.laid_internal_strconv_uint64pow10)]

/-- The door's own heap meets the condition. -/
theorem door_met (os : Os) (args : Array Value) : laidMetH Tryz.prog laidL ((World.doorLaid Tryz.prog 4000 os).forCall (fun _ _ => 0) ⟨#[], args, []⟩).memory :=
  laidMetH_of_parts3 (fuel := 8) (laidMet_of_run' 8 (by kernel_rfl) (by kernel_rfl)) (by kernel_rfl) (by kernel_rfl)

theorem lifted (os : Os) (started : os.Started) (H : Type) (enc : TypeId × Value → H) :
    ReturnsInHanded {} Tryz.checked os 3 .any (fun w args => (Rows.scheduleBoundedSpec.pre enc Tryz.prog Tryz.f3 [] false w args ∧ laidMetH Tryz.prog laidL w) ∧ sizedMet enc Tryz.prog Tryz.f3 (OpenSpec.ofChange Rows.scheduleBoundedSpec) false w args) (Rows.scheduleBoundedSpec.post enc Tryz.prog Tryz.f3 false true false false) := by
  refine returnsInHanded_of_change_and (C := Tryz.checked) (X := fun w _ => laidMetH Tryz.prog laidL w) (fun _ _ _ hh h => h.of_heap hh) own started (by kernel_rfl) Tryz.func3
    (ChangeSpec.witness_shaped (enc := enc) (C := Tryz.checked) (os := os) (X := fun w _ => laidMetH Tryz.prog laidL w) false (World.doorLaid Tryz.prog 4000 os) #[.agg #[.int .i64 0, .slice none 0 0, .slice none 0 0], .slice none 0 0, .slice none 0 0] 8 rfl (World.shaped_of_RefB (by kernel_rfl) (by kernel_rfl)) (by kernel_rfl) (by kernel_rfl) (by kernel_rfl) (door_met os _)) ?_
  intro W base args ds gs before hval0 hW hcnd _ hL _
  have hval : ∀ (j : Nat) t v, Tryz.f3.params[j]? = some t → args[j]? = some v → Value.okWide Tryz.prog W .any base t v := hval0
  have hW' := hW
  obtain ⟨p, q, hA0, hV, rfl, hfz, hnd⟩ := hW
  have hA : DataW.TrodAll enc Tryz.prog W 0 (fun _ => true) true Tryz.f3.params.toList args.toList ds p := hA0
  have hlt : ∀ x ∈ p, x.block < W.heap.size := fun x hx => hW'.lt x (List.mem_append_left _ hx)
  rw [Tryz.params3] at hA hval
  obtain ⟨rfl, rfl⟩ := trodVars_none hV
  have hcalls := law_calls AxOk.prog_ok law_ok (f := 3) (args := args) types_ok (fun j t v h1 h2 => hval j t v (by simpa using h1) (by simpa using h2)) hA
  refine hcalls.mono fun e W' ⟨he, hb⟩ => ?_
  subst he
  have hlen := trodAll_len hA
  match ds, hlen, hA, hW' with
  | [d0, d1, d2], _, hA, hW' =>
    refine ⟨_, rfl, post_of_below (pa := p) (pv := []) hW' (fun _ _ _ => trodAll_cons_mk (shut_bool Tryz.underlying4 _) trodAll_mk0) (fun sp hsp => ?_) (fun _ _ => rfl) rfl hb (ok_one (by kernel_rfl) rfl (okWide_bool_mk Tryz.underlying4 _))⟩
    exact stay_args laidOut hb (ts := [25, 26, 27]) types_read hA hlt (fun x hx => hsp x (List.mem_append_left _ hx))

theorem over : Rows.scheduleBoundedRow.holds Tryz.pinned (OpenSpec.ofChange Rows.scheduleBoundedSpec) :=
  OpenClaim.holds_of_wide 3 Tryz.f3 rfl rfl rfl rfl rfl rfl rfl ⟨rfl, rfl, rfl, rfl, rfl⟩ rfl rfl rfl rfl rfl (by kernel_rfl) Tryz.func3 (by kernel_rfl)
    (of_decide_eq_true (by kernel_rfl)) (by unfold Func.isWrapper; first | (rw [if_pos (by decide +kernel)]; kernel_rfl) | (rw [if_neg (by decide +kernel)]; exact ⟨rfl, rfl⟩))
    (fun os started H enc _ => lifted os started H enc)

theorem proved : Rows.ScheduleBoundedCardSaid :=
  Claim7.holds_tied_plain_at .later [] [.data, .data, .data] true (true, "847c4411ae488b670c0026b8a45344c9d28f9b79de7b635d1c441a6bffa4e2fc") false
    over (fun _ h => by cases h) (by kernel_rfl) (fun _ h => by cases h) scheduleBounded_row_tie rfl ⟨rfl, rfl⟩ (by kernel_rfl) rfl
    (fun f fn hf hfn => by
      obtain rfl : f = 3 := Option.some.inj ((show Tryz.prog.funcNamed "cassegrain/cassegrainlaw09.ScheduleBounded" = some 3 by kernel_rfl).symm.trans hf) |>.symm
      obtain rfl : fn = Tryz.f3 := (Option.some.inj (Tryz.func3.symm.trans hfn)).symm
      exact ⟨by kernel_rfl, fun j t ht => by
        rw [Tryz.params3] at ht
        rcases j with _ | j
        · have h3 : t = 25 := by simpa using ht.symm
          subst h3
          exact (show Tryz.prog.wantsStandIn 25 = false by kernel_rfl)
        ·
          rcases j with _ | j
          · have h3 : t = 26 := by simpa using ht.symm
            subst h3
            exact (show Tryz.prog.wantsStandIn 26 = false by kernel_rfl)
          ·
            rcases j with _ | j
            · have h3 : t = 27 := by simpa using ht.symm
              subst h3
              exact (show Tryz.prog.wantsStandIn 27 = false by kernel_rfl)
            ·
              simp at ht⟩)
    (by kernel_rfl)
end Go.Proofs.YtdnpjnhpcmpikaaGreatDoor.lawF
