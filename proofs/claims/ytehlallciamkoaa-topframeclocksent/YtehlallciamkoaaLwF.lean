/-
  PROVED: TopFrameClockSent returns true for every input, and leaves its arguments as they were. Conditions: none but the statement's own.
-/
import Derived.Test.YtehlallciamkoaaT10
import Derived.Test.YtehlallciamkoaaT14
import Derived.Test.YtehlallciamkoaaRows
import Derived.WalkKit
import Derived.ProofKit
import Derived.OpenShut
import Derived.JoinedCond
import Derived.SizedLaws
namespace Go.Proofs.Ytehlallciamkoaa.clock
open Go.Ax Go.Ax.Sx Go.Ax.Sx.Ck
open Go.ChangeShapes Go.WideShapes Go.ChangeAt Go.RowKit
set_option linter.unusedVariables false
set_option maxRecDepth 100000

theorem own : ownKnob Try.prog.godebug = none := by kernel_rfl
theorem laidOut : laidOutB Try.prog = true := by kernel_rfl
theorem maxLen_lt {n : Nat} (h : n ≤ maxLen) : (n : Int) < 9223372036854775808 := by unfold maxLen at h; omega
theorem cells32 : Try.prog.cellsOf 32 = 3 := by kernel_rfl
theorem cells4 : Try.prog.cellsOf 4 = 1 := by kernel_rfl
theorem sl_ok {a : Type} {o : Go.Ax.Own} {n : Nat} {f : a → List AV} {l : List a} (h : o = .any ∨ (o = .nilS ∧ l.map f = [])) : (⟨o, n, l⟩ : Sl a).ok n := by
  rcases h with rfl | ⟨rfl, h⟩
  · exact ⟨.inr rfl, .inl rfl⟩
  · exact ⟨.inr rfl, .inr (.inr ⟨rfl, List.map_eq_nil_iff.1 h⟩)⟩
theorem shp_bool {d : Nat} {avs : List AV} (h : Shp Try.prog (d + 1) 4 avs) : ∃ b : Bool, avs = [B b] := by
  simp only [Shp, Try.underlying4] at h; exact h
theorem shp_pr {d : Nat} {avs : List AV} (h : Shp Try.prog (d + 3) 32 avs) : ∃ k : Pr, avs = rowPr k ∧ True := by
  obtain ⟨ps, rfl, hl, hp⟩ := shp_struct Try.underlying32 h
  match ps, hl, hp with
  | [p0, p1], _, hp =>
    obtain ⟨a, rfl, _⟩ := shp_int Try.underlying3 (hp 0 _ p0 rfl rfl)
    obtain ⟨qs, rfl, ql, hq⟩ := shp_struct Try.underlying30 (hp 1 _ p1 rfl rfl)
    match qs, ql, hq with
    | [q0, q1], _, hq =>
      obtain ⟨b, rfl, _⟩ := shp_int Try.underlying3 (hq 0 _ q0 rfl rfl)
      obtain ⟨c, rfl, _⟩ := shp_int Try.underlying3 (hq 1 _ q1 rfl rfl)
      exact ⟨⟨a, b, c⟩, rfl, trivial⟩

theorem law_ok : LawOk Try.prog AP 3 6 [23, 24, 25] := by
  intro xs s hs h
  cases h with
  | cons h1 h => cases h with
    | cons h2 h => cases h with
      | cons h3 h => cases h with
        | nil =>
          simp only [ArgShp, Try.underlying23] at h1
          simp only [ArgShp, Try.underlying24] at h2
          simp only [ArgShp, Try.underlying25] at h3
          obtain ⟨v1, rfl, h1⟩ := h1
          obtain ⟨ps, rfl, hl, hp⟩ := shp_struct Try.underlying23 h1
          obtain ⟨o2, r2, e2, ho2, hl2, hr2⟩ := shp_slice Try.underlying24 h2
          obtain ⟨l2, rfl, _⟩ := rows_eq (fun r hr => shp_pr (hr2 r hr))
          rw [List.length_map] at hl2
          rw [cells32] at e2
          injection e2 with e2 _
          subst e2
          obtain ⟨o3, r3, e3, ho3, hl3, hr3⟩ := shp_slice Try.underlying25 h3
          obtain ⟨l3, rfl, _⟩ := rows_eq (f := fun b => [B b]) (g := fun _ => True) (fun r hr => by
            obtain ⟨b, hb⟩ := shp_bool (hr3 r hr)
            exact ⟨b, hb, trivial⟩)
          rw [cells4] at e3
          injection e3 with e3 _
          subst e3
          match ps, hl, hp with
          | [p0, p1], _, hp =>
            obtain ⟨a, rfl, _⟩ := shp_int Try.underlying3 (hp 0 _ p0 rfl rfl)
            obtain ⟨b, rfl, _⟩ := shp_int Try.underlying3 (hp 1 _ p1 rfl rfl)
            exact t_ClockSent (l := ⟨o2, 3, l2⟩) (y := ⟨o3, 1, l3⟩) hs (sl_ok ho2) (.inr rfl) (maxLen_lt hl2)

theorem types_ok0 : ([23, 24, 25].all (okT Try.prog 6)) = true := by kernel_rfl
theorem types_ok : ∀ t ∈ [23, 24, 25], okT Try.prog 6 t = true := List.all_eq_true.1 types_ok0
noncomputable def readT (t : TypeId) : Bool := Try.prog.readableRec t && decide (t < Try.prog.types.size)
theorem types_read0 : ([23, 24, 25].all readT) = true := by kernel_rfl
theorem types_read (t : TypeId) (ht : t ∈ [23, 24, 25]) : Try.prog.readableRec t = true ∧ t < Try.prog.types.size := by
  have h : readT t = true := List.all_eq_true.1 types_read0 t ht
  unfold readT at h
  exact ⟨(Bool.and_eq_true_iff.1 h).1, of_decide_eq_true (Bool.and_eq_true_iff.1 h).2⟩

theorem lifted (os : Os) (started : os.Started) (H : Type) (enc : TypeId × Value → H) :
    ReturnsInHanded {} Try.checked os 3 .any (Rows.topFrameClockSentSpec.pre6 enc Try.prog Try.f3 Rows.topFrameClockSentRow.domain false) (Rows.topFrameClockSentSpec.post enc Try.prog Try.f3 false true false false) := by
  refine returnsInHanded_of_change_sized (C := Try.checked) own started (by kernel_rfl) Try.func3
    (ChangeSpec.witness6 (enc := enc) (C := Try.checked) false ⟨#[], #[.agg #[.int .i64 0, .int .i64 0], .slice none 0 0, .slice none 0 0], []⟩ 8 (by kernel_rfl) (by kernel_rfl) (by kernel_rfl) (by kernel_rfl)) ?_
  intro W base args ds gs before hval0 hW hcnd hwt0 _
  have hval : ∀ (j : Nat) t v, Try.f3.params[j]? = some t → args[j]? = some v → Value.okWide Try.prog W .any base t v := hval0
  have hW' := hW
  obtain ⟨p, q, hA0, hV, rfl, hfz, hnd⟩ := hW
  have hA : DataW.TrodAll enc Try.prog W 0 (fun _ => true) true Try.f3.params.toList args.toList ds p := hA0
  have hwt : (DataW.weightsEach Try.prog (Try.f3.params.toList ++ []) (ds ++ gs)).all (· ≤ reachBytes) = true := hwt0
  have hlt : ∀ x ∈ p, x.block < W.heap.size := fun x hx => hW'.lt x (List.mem_append_left _ hx)
  rw [Try.params3] at hA hval hwt
  obtain ⟨rfl, rfl⟩ := trodVars_none hV
  rw [List.append_nil, List.append_nil] at hwt
  have hcalls := law_calls AxOk.prog_ok (fun _ _ => trivial) law_ok (f := 3) (args := args) types_ok (fun j t v h1 h2 => hval j t v (by simpa using h1) (by simpa using h2)) hA hwt
  refine hcalls.mono fun e W' ⟨he, hb⟩ => ?_
  subst he
  have hlen := trodAll_len hA
  match ds, hlen, hA, hW' with
  | [d0, d1, d2], _, hA, hW' =>
    refine ⟨_, rfl, post_of_below (pa := p) (pv := []) hW' (fun _ _ _ => trodAll_cons_mk (shut_bool Try.underlying4 _) trodAll_mk0) (fun sp hsp => ?_) (fun _ _ => rfl) rfl hb (ok_one (by kernel_rfl) rfl (okWide_bool_mk Try.underlying4 _))⟩
    exact stay_args laidOut hb (ts := [23, 24, 25]) types_read hA hlt (fun x hx => hsp x (List.mem_append_left _ hx))

theorem over : Rows.topFrameClockSentRow.holds Try.pinned (OpenSpec.ofChange Rows.topFrameClockSentSpec) :=
  OpenClaim.holds_of_wide 3 Try.f3 rfl rfl rfl rfl rfl rfl rfl ⟨rfl, rfl, rfl, rfl, rfl⟩ rfl rfl rfl rfl rfl (by kernel_rfl) Try.func3 (by kernel_rfl)
    (of_decide_eq_true (by kernel_rfl)) (by unfold Func.isWrapper; first | (rw [if_pos (by decide +kernel)]; kernel_rfl) | (rw [if_neg (by decide +kernel)]; exact ⟨rfl, rfl⟩))
    (fun os started H enc _ => lifted os started H enc)

theorem proved : Rows.TopFrameClockSentSaid :=
  over
end Go.Proofs.Ytehlallciamkoaa.clock
