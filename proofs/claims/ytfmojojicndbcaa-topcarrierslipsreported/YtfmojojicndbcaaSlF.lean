/-
  PROVED: TopCarrierSlipsReported returns true for every input, and leaves its arguments as they were. Conditions: none but the statement's own.
-/
import Derived.Test.YtfmojojicndbcaaOpC
import Derived.Test.YtfmojojicndbcaaSlN
import Derived.Test.YtfmojojicndbcaaSlOk
import Derived.Test.YtfmojojicndbcaaRows
import Derived.WalkKit
import Derived.ProofKit
import Derived.OpenShut
import Derived.JoinedCond
namespace Go.Proofs.Ytfmojojicndbcaa.slips
open Go.Ax Go.Ax.Sx Go.Ax.Sx.Sl
open Go.ChangeShapes Go.WideShapes Go.ChangeAt Go.RowKit
set_option linter.unusedVariables false
set_option maxRecDepth 100000

theorem own : ownKnob Try.prog.godebug = none := by kernel_rfl
theorem laidOut : laidOutB Try.prog = true := by kernel_rfl

theorem shp_loop {d : Nat} {avs : List AV} (h : Shp Try.prog (d + 2) 23 avs) : ∃ a b c e, avs = [I a, I b, I c, I e] := by
  obtain ⟨ps, rfl, hl, hp⟩ := shp_struct Try.underlying23 h
  match ps, hl, hp with
  | [p0, p1, p2, p3], _, hp =>
    obtain ⟨a, rfl, _⟩ := shp_int Try.underlying3 (hp 0 _ p0 rfl rfl)
    obtain ⟨b, rfl, _⟩ := shp_int Try.underlying3 (hp 1 _ p1 rfl rfl)
    obtain ⟨c, rfl, _⟩ := shp_int Try.underlying3 (hp 2 _ p2 rfl rfl)
    obtain ⟨e, rfl, _⟩ := shp_int Try.underlying3 (hp 3 _ p3 rfl rfl)
    exact ⟨a, b, c, e, rfl⟩
theorem shp_range {d : Nat} {avs : List AV} (h : Shp Try.prog (d + 2) 26 avs) : ∃ a b, avs = [I a, I b] ∧ inI a ∧ inI b := by
  obtain ⟨ps, rfl, hl, hp⟩ := shp_struct Try.underlying26 h
  match ps, hl, hp with
  | [p0, p1], _, hp =>
    obtain ⟨a, rfl, ha⟩ := shp_int Try.underlying3 (hp 0 _ p0 rfl rfl)
    obtain ⟨b, rfl, hb⟩ := shp_int Try.underlying3 (hp 1 _ p1 rfl rfl)
    exact ⟨a, b, rfl, ha, hb⟩
theorem shp_class {d : Nat} {avs : List AV} (h : Shp Try.prog (d + 3) 28 avs) : ∃ a b c e n, avs = [I a, I b, I c, I e, I n] := by
  obtain ⟨ps, rfl, hl, hp⟩ := shp_struct Try.underlying28 h
  match ps, hl, hp with
  | [p0, p1, p2], _, hp =>
    obtain ⟨a, b, rfl, _⟩ := shp_range (hp 0 _ p0 rfl rfl)
    obtain ⟨c, e, rfl, _⟩ := shp_range (hp 1 _ p1 rfl rfl)
    obtain ⟨n, rfl, _⟩ := shp_int Try.underlying3 (hp 2 _ p2 rfl rfl)
    exact ⟨a, b, c, e, n, rfl⟩
theorem shp_row {d : Nat} {avs : List AV} (h : Shp Try.prog (d + 3) 44 avs) : ∃ x : Row, avs = [I x.1, I x.2.1, I x.2.2] ∧ (inI x.1 ∧ inI x.2.1 ∧ inI x.2.2) := by
  obtain ⟨ps, rfl, hl, hp⟩ := shp_struct Try.underlying44 h
  match ps, hl, hp with
  | [p0, p1], _, hp =>
    obtain ⟨a, rfl, ha⟩ := shp_int Try.underlying3 (hp 0 _ p0 rfl rfl)
    obtain ⟨b, c, rfl, hb, hc⟩ := shp_range (hp 1 _ p1 rfl rfl)
    exact ⟨(a, b, c), rfl, ha, hb, hc⟩
theorem shp_inp {d : Nat} {avs : List AV} (h : Shp Try.prog (d + 2) 73 avs) : ∃ x : Int × Int, avs = [I x.1, I x.2] ∧ (inI x.1 ∧ inI x.2) := by
  obtain ⟨ps, rfl, hl, hp⟩ := shp_struct Try.underlying73 h
  match ps, hl, hp with
  | [p0, p1], _, hp =>
    obtain ⟨a, rfl, ha⟩ := shp_int Try.underlying3 (hp 0 _ p0 rfl rfl)
    obtain ⟨b, rfl, hb⟩ := shp_int Try.underlying3 (hp 1 _ p1 rfl rfl)
    exact ⟨(a, b), rfl, ha, hb⟩

theorem cells44 : Try.prog.cellsOf 44 = 3 := by kernel_rfl
theorem cells73 : Try.prog.cellsOf 73 = 2 := by kernel_rfl

theorem law_ok : LawOk Try.prog AP 3 6 [24, 31, 34] := by
  intro xs s hs h
  cases h with
  | cons h1 h => cases h with
    | cons h2 h => cases h with
      | cons h3 h => cases h with
        | nil =>
          simp only [ArgShp, Try.underlying24] at h1
          simp only [ArgShp, Try.underlying31] at h2
          simp only [ArgShp, Try.underlying34] at h3
          obtain ⟨v1, rfl, h1⟩ := h1
          obtain ⟨v2, rfl, h2⟩ := h2
          obtain ⟨v3, rfl, h3⟩ := h3
          obtain ⟨ps, rfl, hl, hp⟩ := shp_array Try.underlying24 h1
          obtain ⟨qs, rfl, ql, hq⟩ := shp_struct Try.underlying31 h2
          obtain ⟨rs, rfl, rl, hr⟩ := shp_struct Try.underlying34 h3
          match ps, hl, hp, qs, ql, hq, rs, rl, hr with
          | [p0, p1], _, hp, [q0, q1], _, hq, [r0, r1], _, hr =>
            obtain ⟨a, b, c, d, rfl⟩ := shp_loop (hp p0 (by simp))
            obtain ⟨a', b', c', d', rfl⟩ := shp_loop (hp p1 (by simp))
            obtain ⟨p, q, t, u, n, rfl⟩ := shp_class (hq 0 _ q0 rfl rfl)
            obtain ⟨o, rows, rfl, _, _, hrows⟩ := shp_slice Try.underlying29 (hq 1 _ q1 rfl rfl)
            obtain ⟨st, rfl, hst⟩ := shp_int Try.underlying3 (hr 0 _ r0 rfl rfl)
            obtain ⟨o2, inp, rfl, _, hlen, hinp⟩ := shp_slice Try.underlying32 (hr 1 _ r1 rfl rfl)
            obtain ⟨l, rfl, hl⟩ := rows_eq (fun r hr => shp_row (hrows r hr))
            obtain ⟨X, rfl, hX⟩ := rows_eq (fun r hr => shp_inp (hinp r hr))
            rw [cells44, cells73]
            exact s3 hs hl hst hX (by have h := hlen; rw [List.length_map] at h; unfold maxLen at h; omega)

theorem types_ok0 : ([24, 31, 34].all (okT Try.prog 6)) = true := by kernel_rfl
theorem types_ok : ∀ t ∈ [24, 31, 34], okT Try.prog 6 t = true := List.all_eq_true.1 types_ok0
noncomputable def readT (t : TypeId) : Bool := Try.prog.readableRec t && decide (t < Try.prog.types.size)
theorem types_read0 : ([24, 31, 34].all readT) = true := by kernel_rfl
theorem types_read (t : TypeId) (ht : t ∈ [24, 31, 34]) : Try.prog.readableRec t = true ∧ t < Try.prog.types.size := by
  have h : readT t = true := List.all_eq_true.1 types_read0 t ht
  unfold readT at h
  exact ⟨(Bool.and_eq_true_iff.1 h).1, of_decide_eq_true (Bool.and_eq_true_iff.1 h).2⟩

theorem lifted (os : Os) (started : os.Started) (H : Type) (enc : TypeId × Value → H) :
    ReturnsInHanded {} Try.checked os 3 .any (Rows.topCarrierSlipsReportedSpec.pre6 enc Try.prog Try.f3 Rows.topCarrierSlipsReportedRow.domain false) (Rows.topCarrierSlipsReportedSpec.post enc Try.prog Try.f3 false true false false) := by
  refine returnsInHanded_of_change (C := Try.checked) own started (by kernel_rfl) Try.func3
    (ChangeSpec.witness6 (enc := enc) (C := Try.checked) false ⟨#[], #[.agg #[.int .i64 0, .int .i64 0, .int .i64 0, .int .i64 0, .int .i64 0, .int .i64 0, .int .i64 0, .int .i64 0], .agg #[.int .i64 0, .int .i64 0, .int .i64 0, .int .i64 0, .int .i64 0, .slice none 0 0], .agg #[.int .i64 0, .slice none 0 0]], []⟩ 8 (by kernel_rfl) (by kernel_rfl) (by kernel_rfl) (by kernel_rfl)) ?_
  intro W base args ds gs before hval0 hW hcnd _
  have hval : ∀ (j : Nat) t v, Try.f3.params[j]? = some t → args[j]? = some v → Value.okWide Try.prog W .any base t v := hval0
  have hW' := hW
  obtain ⟨p, q, hA0, hV, rfl, hfz, hnd⟩ := hW
  have hA : DataW.TrodAll enc Try.prog W 0 (fun _ => true) true Try.f3.params.toList args.toList ds p := hA0
  have hlt : ∀ x ∈ p, x.block < W.heap.size := fun x hx => hW'.lt x (List.mem_append_left _ hx)
  rw [Try.params3] at hA hval
  obtain ⟨rfl, rfl⟩ := trodVars_none hV
  have hcalls := law_calls AxOk.prog_ok law_ok (f := 3) (args := args) types_ok (fun j t v h1 h2 => hval j t v (by simpa using h1) (by simpa using h2)) hA
  refine hcalls.mono fun e W' ⟨he, hb⟩ => ?_
  subst he
  have hlen := trodAll_len hA
  match ds, hlen, hA, hW' with
  | [d0, d1, d2], _, hA, hW' =>
    refine ⟨_, rfl, post_of_below (pa := p) (pv := []) hW' (fun _ _ _ => trodAll_cons_mk (shut_bool Try.underlying4 _) trodAll_mk0) (fun sp hsp => ?_) (fun _ _ => rfl) rfl hb (ok_one (by kernel_rfl) rfl (okWide_bool_mk Try.underlying4 _))⟩
    exact stay_args laidOut hb (ts := [24, 31, 34]) types_read hA hlt (fun x hx => hsp x (List.mem_append_left _ hx))

theorem over : Rows.topCarrierSlipsReportedRow.holds Try.pinned (OpenSpec.ofChange Rows.topCarrierSlipsReportedSpec) :=
  OpenClaim.holds_of_wide 3 Try.f3 rfl rfl rfl rfl rfl rfl rfl ⟨rfl, rfl, rfl, rfl, rfl⟩ rfl rfl rfl rfl rfl (by kernel_rfl) Try.func3 (by kernel_rfl)
    (of_decide_eq_true (by kernel_rfl)) (by unfold Func.isWrapper; first | (rw [if_pos (by decide +kernel)]; kernel_rfl) | (rw [if_neg (by decide +kernel)]; exact ⟨rfl, rfl⟩))
    (fun os started H enc _ => lifted os started H enc)

theorem proved : Rows.TopCarrierSlipsReportedSaid :=
  over
end Go.Proofs.Ytfmojojicndbcaa.slips
