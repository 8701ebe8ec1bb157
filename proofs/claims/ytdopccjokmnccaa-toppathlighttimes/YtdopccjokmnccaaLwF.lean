/-
  PROVED: TopPathLightTimes returns true for every input, and leaves its arguments as they were. Conditions: none but the statement's own.
-/
import Derived.Test.YtdopccjokmnccaaT7
import Derived.Test.YtdopccjokmnccaaT10
import Derived.Test.YtdopccjokmnccaaT11
import Derived.Test.YtdopccjokmnccaaRows
import Derived.WalkKit
import Derived.ProofKit
import Derived.OpenShut
import Derived.JoinedCond
import Derived.SizedLaws
namespace Go.Proofs.Ytdopccjokmnccaa.light
open Go.Ax Go.Ax.Sx Go.Ax.Sx.Lt
open Go.ChangeShapes Go.WideShapes Go.ChangeAt Go.RowKit
set_option linter.unusedVariables false
set_option maxRecDepth 100000

theorem own : ownKnob Try.prog.godebug = none := by kernel_rfl
theorem laidOut : laidOutB Try.prog = true := by kernel_rfl

theorem shp_vec {d : Nat} {t : TypeId} {fs : Array Field} (hu : Try.prog.underlying t = some (.struct fs)) (h0 : fs.map (·.type) = #[3, 3, 3]) {avs : List AV} (h : Shp Try.prog (d + 2) t avs) : ∃ v : V3, avs = rowV v := by
  have hs : fs.size = 3 := by have := congrArg Array.size h0; simpa using this
  have ht : ∀ i (hi : i < fs.size), fs[i].type = 3 := fun i hi => by
    have h1 : (fs.map (·.type))[i]? = some fs[i].type := by simp [hi]
    rw [h0] at h1
    match i, hi, h1 with
    | 0, _, h1 => simpa using h1.symm
    | 1, _, h1 => simpa using h1.symm
    | 2, _, h1 => simpa using h1.symm
    | i + 3, hi, _ => omega
  obtain ⟨ps, rfl, hl, hp⟩ := shp_struct hu h
  rw [hs] at hl
  have key : ∀ i p, i < 3 → ps[i]? = some p → ∃ x, p = [I x] := fun i p hi e => by
    have hi' : i < fs.size := by omega
    have h1 := hp i fs[i] p (by simp [hi']) e
    rw [ht i hi'] at h1
    obtain ⟨x, hx, _⟩ := shp_int Try.underlying3 h1
    exact ⟨x, hx⟩
  match ps, hl, key with
  | [p0, p1, p2], _, key =>
    obtain ⟨a, rfl⟩ := key 0 _ (by decide) rfl
    obtain ⟨b, rfl⟩ := key 1 _ (by decide) rfl
    obtain ⟨c, rfl⟩ := key 2 _ (by decide) rfl
    exact ⟨(a, b, c), rfl⟩
theorem shp_knot {d : Nat} {avs : List AV} (h : Shp Try.prog (d + 3) 50 avs) : ∃ k : Kn, avs = rowK k ∧ True := by
  obtain ⟨ps, rfl, hl, hp⟩ := shp_struct Try.underlying50 h
  match ps, hl, hp with
  | [p0, p1], _, hp =>
    obtain ⟨a, rfl, _⟩ := shp_int Try.underlying3 (hp 0 _ p0 rfl rfl)
    obtain ⟨v, rfl⟩ := shp_vec Try.underlying48 (by simp) (hp 1 _ p1 rfl rfl)
    exact ⟨⟨a, v.1, v.2.1, v.2.2⟩, rfl, trivial⟩
theorem cells50 : Try.prog.cellsOf 50 = 4 := by kernel_rfl
theorem bytes50 : Try.prog.bytesOf 50 = 32 := by kernel_rfl
theorem shp_track {d : Nat} {avs : List AV} (h : Shp Try.prog (d + 5) 24 avs) : ∃ (o : Go.Ax.Own) (l : List Kn) (x : Int), avs = [.slice o 4 (l.map rowK), I x] ∧ LenOk l := by
  obtain ⟨ps, rfl, hl, hp⟩ := shp_struct Try.underlying24 h
  match ps, hl, hp with
  | [p0, p1], _, hp =>
    obtain ⟨o, rows, rfl, _, hb, hrows⟩ := shp_sliceB Try.underlying22 (hp 0 _ p0 rfl rfl)
    obtain ⟨x, rfl, _⟩ := shp_int Try.underlying3 (hp 1 _ p1 rfl rfl)
    obtain ⟨l, rfl, _⟩ := rows_eq (fun r hr => shp_knot (hrows r hr))
    rw [bytes50, List.length_map] at hb
    refine ⟨o, l, x, by rw [cells50]; rfl, ?_⟩
    unfold LenOk
    have : reachBytes ≤ 140737488355328 := by decide
    omega

theorem law_ok : LawOk Try.prog AP 3 7 [30] := by
  intro xs s hs h
  cases h with
  | cons h1 h => cases h with
    | nil =>
      simp only [ArgShp, Try.underlying30] at h1
      obtain ⟨v1, rfl, h1⟩ := h1
      obtain ⟨ps, rfl, hl, hp⟩ := shp_struct Try.underlying30 h1
      match ps, hl, hp with
      | [p0, p1, p2, p3, p4], _, hp =>
        obtain ⟨o1, l, dA, rfl, hA⟩ := shp_track (hp 0 _ p0 rfl rfl)
        obtain ⟨o2, l', dB, rfl, hB⟩ := shp_track (hp 1 _ p1 rfl rfl)
        obtain ⟨qs, rfl, ql, hq⟩ := shp_array Try.underlying25 (hp 2 _ p2 rfl rfl)
        obtain ⟨rs, rfl, rl, hr⟩ := shp_array Try.underlying28 (hp 3 _ p3 rfl rfl)
        obtain ⟨t, rfl, _⟩ := shp_int Try.underlying3 (hp 4 _ p4 rfl rfl)
        match qs, ql, hq, rs, rl, hr with
        | [q0, q1], _, hq, [r0, r1], _, hr =>
          obtain ⟨D0, rfl, _⟩ := shp_int Try.underlying3 (hq q0 (by simp))
          obtain ⟨D1, rfl, _⟩ := shp_int Try.underlying3 (hq q1 (by simp))
          obtain ⟨S0, rfl⟩ := shp_vec Try.underlying27 (by simp) (hr r0 (by simp))
          obtain ⟨S1, rfl⟩ := shp_vec Try.underlying27 (by simp) (hr r1 (by simp))
          exact law hA hB hs

theorem types_ok0 : ([30].all (okT Try.prog 7)) = true := by kernel_rfl
theorem types_ok : ∀ t ∈ [30], okT Try.prog 7 t = true := List.all_eq_true.1 types_ok0
noncomputable def readT (t : TypeId) : Bool := Try.prog.readableRec t && decide (t < Try.prog.types.size)
theorem types_read0 : ([30].all readT) = true := by kernel_rfl
theorem types_read (t : TypeId) (ht : t ∈ [30]) : Try.prog.readableRec t = true ∧ t < Try.prog.types.size := by
  have h : readT t = true := List.all_eq_true.1 types_read0 t ht
  unfold readT at h
  exact ⟨(Bool.and_eq_true_iff.1 h).1, of_decide_eq_true (Bool.and_eq_true_iff.1 h).2⟩

theorem lifted (os : Os) (started : os.Started) (H : Type) (enc : TypeId × Value → H) :
    ReturnsInHanded {} Try.checked os 3 .any (Rows.topPathLightTimesSpec.pre6 enc Try.prog Try.f3 Rows.topPathLightTimesRow.domain false) (Rows.topPathLightTimesSpec.post enc Try.prog Try.f3 false true false false) := by
  refine returnsInHanded_of_change_sized (C := Try.checked) own started (by kernel_rfl) Try.func3
    (ChangeSpec.witness6 (enc := enc) (C := Try.checked) false ⟨#[], #[.agg #[.slice none 0 0, .int .i64 0, .slice none 0 0, .int .i64 0, .int .i64 0, .int .i64 0, .int .i64 0, .int .i64 0, .int .i64 0, .int .i64 0, .int .i64 0, .int .i64 0, .int .i64 0]], []⟩ 8 (by kernel_rfl) (by kernel_rfl) (by kernel_rfl) (by kernel_rfl)) ?_
  intro W base args ds gs before hval0 hW hcnd hwt0 _
  have hval : ∀ (j : Nat) t v, Try.f3.params[j]? = some t → args[j]? = some v → Value.okWide Try.prog W .any base t v := hval0
  have hW' := hW
  obtain ⟨p, q, hA0, hV, rfl, hfz, hnd⟩ := hW
  have hA : DataW.TrodAll enc Try.prog W 0 (fun _ => true) true Try.f3.params.toList args.toList ds p := hA0
  have hwt : (DataW.weightsEach Try.prog (Try.f3.params.toList ++ []) (ds ++ gs)).all (· ≤ reachBytes) = true := hwt0
  have hlt : ∀ x ∈ p, x.block < W.heap.size := fun x hx => hW'.lt x (List.mem_append_left _ hx)
  rw [Try.params3] at hA hval hwt
  obtain ⟨rfl, rfl⟩ := trodVars_none hV
  rw [List.append_nil, List.append_nil] at hwt
  have hcalls := law_calls AxOk.prog_ok law_ok (f := 3) (args := args) types_ok (fun j t v h1 h2 => hval j t v (by simpa using h1) (by simpa using h2)) hA hwt
  refine hcalls.mono fun e W' ⟨he, hb⟩ => ?_
  subst he
  have hlen := trodAll_len hA
  match ds, hlen, hA, hW' with
  | [d0], _, hA, hW' =>
    refine ⟨_, rfl, post_of_below (pa := p) (pv := []) hW' (fun _ _ _ => trodAll_cons_mk (shut_bool Try.underlying4 _) trodAll_mk0) (fun sp hsp => ?_) (fun _ _ => rfl) rfl hb (ok_one (by kernel_rfl) rfl (okWide_bool_mk Try.underlying4 _))⟩
    exact stay_args laidOut hb (ts := [30]) types_read hA hlt (fun x hx => hsp x (List.mem_append_left _ hx))

theorem over : Rows.topPathLightTimesRow.holds Try.pinned (OpenSpec.ofChange Rows.topPathLightTimesSpec) :=
  OpenClaim.holds_of_wide 3 Try.f3 rfl rfl rfl rfl rfl rfl rfl ⟨rfl, rfl, rfl, rfl, rfl⟩ rfl rfl rfl rfl rfl (by kernel_rfl) Try.func3 (by kernel_rfl)
    (of_decide_eq_true (by kernel_rfl)) (by unfold Func.isWrapper; first | (rw [if_pos (by decide +kernel)]; kernel_rfl) | (rw [if_neg (by decide +kernel)]; exact ⟨rfl, rfl⟩))
    (fun os started H enc _ => lifted os started H enc)

theorem proved : Rows.TopPathLightTimesSaid :=
  over
end Go.Proofs.Ytdopccjokmnccaa.light
