/-
  PROVED: TopCommandNeverForbidden returns true for every input, and leaves its arguments as they were. Conditions: none but the statement's own.
-/
import Derived.Test.YtolmeamlfkbafaaT9
import Derived.Test.YtolmeamlfkbafaaT15
import Derived.Test.YtolmeamlfkbafaaRows
import Derived.WalkKit
import Derived.ProofKit
import Derived.OpenShut
import Derived.JoinedCond
import Derived.SizedLaws
namespace Go.Proofs.Ytolmeamlfkbafaa.command
open Go.Ax Go.Ax.Sx Go.Ax.Sx.Cm
open Go.ChangeShapes Go.WideShapes Go.ChangeAt Go.RowKit
set_option linter.unusedVariables false
set_option maxRecDepth 100000

theorem own : ownKnob Try.prog.godebug = none := by kernel_rfl
theorem laidOut : laidOutB Try.prog = true := by kernel_rfl
theorem maxLen_lt {n : Nat} (h : n ≤ maxLen) : (n : Int) < 9223372036854775808 := by unfold maxLen at h; omega
theorem cells9 : Try.prog.cellsOf 9 = 1 := by kernel_rfl
theorem cells58 : Try.prog.cellsOf 58 = 2 := by kernel_rfl
theorem cells60 : Try.prog.cellsOf 60 = 5 := by kernel_rfl
theorem cells52 : Try.prog.cellsOf 52 = 3 := by kernel_rfl
theorem cells47 : Try.prog.cellsOf 47 = 2 := by kernel_rfl
theorem sl_ok {a : Type} {o : Go.Ax.Own} {n : Nat} {f : a → List AV} {l : List a} (h : o = .any ∨ (o = .nilS ∧ l.map f = [])) : (⟨o, n, l⟩ : Sl a).ok n := by
  rcases h with rfl | ⟨rfl, h⟩
  · exact ⟨.inr rfl, .inl rfl⟩
  · exact ⟨.inr rfl, .inr (.inr ⟨rfl, List.map_eq_nil_iff.1 h⟩)⟩

theorem shp_kd {d : Nat} {avs : List AV} (h : Shp Try.prog (d + 2) 58 avs) : ∃ k : Kd, avs = rowKd k ∧ (k.name.size : Int) < 9223372036854775808 := by
  obtain ⟨ps, rfl, hl, hp⟩ := shp_struct Try.underlying58 h
  match ps, hl, hp with
  | [p0, p1], _, hp =>
    obtain ⟨n, rfl, hn⟩ := shp_str Try.underlying9 (hp 0 _ p0 rfl rfl)
    obtain ⟨a, rfl, _⟩ := shp_int Try.underlying3 (hp 1 _ p1 rfl rfl)
    exact ⟨⟨n, a⟩, rfl, maxLen_lt hn⟩
theorem shp_ru {d : Nat} {avs : List AV} (h : Shp Try.prog (d + 2) 60 avs) : ∃ k : Ru, avs = rowRu k ∧ (k.name.size : Int) < 9223372036854775808 := by
  obtain ⟨ps, rfl, hl, hp⟩ := shp_struct Try.underlying60 h
  match ps, hl, hp with
  | [p0, p1, p2, p3, p4], _, hp =>
    obtain ⟨n, rfl, hn⟩ := shp_str Try.underlying9 (hp 0 _ p0 rfl rfl)
    obtain ⟨a, rfl, _⟩ := shp_int Try.underlying3 (hp 1 _ p1 rfl rfl)
    obtain ⟨b, rfl, _⟩ := shp_int Try.underlying3 (hp 2 _ p2 rfl rfl)
    obtain ⟨c, rfl, _⟩ := shp_int Try.underlying3 (hp 3 _ p3 rfl rfl)
    obtain ⟨e, rfl, _⟩ := shp_int Try.underlying3 (hp 4 _ p4 rfl rfl)
    exact ⟨⟨n, a, b, c, e⟩, rfl, maxLen_lt hn⟩
theorem shp_ac {d : Nat} {avs : List AV} (h : Shp Try.prog (d + 3) 52 avs) : ∃ k : Ac, avs = rowAc k ∧ True := by
  obtain ⟨ps, rfl, hl, hp⟩ := shp_struct Try.underlying52 h
  match ps, hl, hp with
  | [p0, p1], _, hp =>
    obtain ⟨a, rfl, _⟩ := shp_int Try.underlying3 (hp 0 _ p0 rfl rfl)
    obtain ⟨qs, rfl, ql, hq⟩ := shp_struct Try.underlying50 (hp 1 _ p1 rfl rfl)
    match qs, ql, hq with
    | [q0, q1], _, hq =>
      obtain ⟨b, rfl, _⟩ := shp_int Try.underlying3 (hq 0 _ q0 rfl rfl)
      obtain ⟨c, rfl, _⟩ := shp_int Try.underlying3 (hq 1 _ q1 rfl rfl)
      exact ⟨⟨a, b, c⟩, rfl, trivial⟩
theorem shp_ev {d : Nat} {avs : List AV} (h : Shp Try.prog (d + 2) 47 avs) : ∃ k : Int × Int, avs = rowDn k ∧ True := by
  obtain ⟨ps, rfl, hl, hp⟩ := shp_struct Try.underlying47 h
  match ps, hl, hp with
  | [p0, p1], _, hp =>
    obtain ⟨a, rfl, _⟩ := shp_int Try.underlying3 (hp 0 _ p0 rfl rfl)
    obtain ⟨b, rfl, _⟩ := shp_int Try.underlying3 (hp 1 _ p1 rfl rfl)
    exact ⟨(a, b), rfl, trivial⟩
theorem shp_texts {d : Nat} {avs : List AV} (h : Shp Try.prog (d + 2) 22 avs) : ∃ x : Sl ByteArray, avs = [x.v rowS] ∧ x.ok 1 ∧ (x.l.length : Int) < 9223372036854775808 ∧ ∀ y ∈ x.l, (y.size : Int) < 9223372036854775808 := by
  obtain ⟨o, rows, rfl, ho, hlen, hrows⟩ := shp_slice Try.underlying22 h
  obtain ⟨l, rfl, hg⟩ := rows_eq (f := rowS) (g := fun y => (y.size : Int) < 9223372036854775808) (fun r hr => by
    obtain ⟨x, hx, hl⟩ := shp_str Try.underlying9 (hrows r hr)
    exact ⟨x, hx, maxLen_lt hl⟩)
  rw [List.length_map] at hlen
  rw [cells9]
  exact ⟨⟨o, 1, l⟩, rfl, sl_ok ho, maxLen_lt hlen, hg⟩
theorem shp_model {d : Nat} {avs : List AV} (h : Shp Try.prog (d + 4) 26 avs) : ∃ m : Mo, avs = rowMo m ∧ m.Raw := by
  obtain ⟨ps, rfl, hl, hp⟩ := shp_struct Try.underlying26 h
  match ps, hl, hp with
  | [p0, p1, p2], _, hp =>
    obtain ⟨x, rfl, x1, x2, x3⟩ := shp_texts (hp 0 _ p0 rfl rfl)
    obtain ⟨o1, r1, rfl, ho1, hl1, hr1⟩ := shp_slice Try.underlying23 (hp 1 _ p1 rfl rfl)
    obtain ⟨o2, r2, rfl, ho2, hl2, hr2⟩ := shp_slice Try.underlying24 (hp 2 _ p2 rfl rfl)
    obtain ⟨l1, rfl, g1⟩ := rows_eq (fun r hr => shp_kd (hr1 r hr))
    obtain ⟨l2, rfl, g2⟩ := rows_eq (fun r hr => shp_ru (hr2 r hr))
    rw [List.length_map] at hl1 hl2
    rw [cells58, cells60]
    exact ⟨⟨x, ⟨o1, 2, l1⟩, ⟨o2, 5, l2⟩⟩, rfl, ⟨x1, sl_ok ho1, sl_ok ho2, x2, maxLen_lt hl1, maxLen_lt hl2, x3, g1, g2⟩⟩

theorem law_ok : LawOk Try.prog AP 3 6 [29, 30] := by
  intro xs s hs h
  cases h with
  | cons h1 h => cases h with
    | cons h2 h => cases h with
      | nil =>
        simp only [ArgShp, Try.underlying29] at h1
        simp only [ArgShp, Try.underlying30] at h2
        obtain ⟨v1, rfl, h1⟩ := h1
        obtain ⟨ps, rfl, hl, hp⟩ := shp_struct Try.underlying29 h1
        obtain ⟨o2, r2, e2, ho2, hl2, hr2⟩ := shp_slice Try.underlying30 h2
        obtain ⟨l2, rfl, _⟩ := rows_eq (fun r hr => shp_ev (hr2 r hr))
        rw [List.length_map] at hl2
        rw [cells47] at e2
        injection e2 with e2 _
        subst e2
        match ps, hl, hp with
        | [p0, p1, p2, p3], _, hp =>
          obtain ⟨m, rfl, hm⟩ := shp_model (hp 0 _ p0 rfl rfl)
          obtain ⟨o1, r1, rfl, ho1, hl1, hr1⟩ := shp_slice Try.underlying27 (hp 1 _ p1 rfl rfl)
          obtain ⟨l1, rfl, _⟩ := rows_eq (fun r hr => shp_ac (hr1 r hr))
          rw [List.length_map] at hl1
          rw [cells52]
          obtain ⟨a, rfl, _⟩ := shp_int Try.underlying3 (hp 2 _ p2 rfl rfl)
          obtain ⟨b, rfl, _⟩ := shp_int Try.underlying3 (hp 3 _ p3 rfl rfl)
          exact t_TopCommandNeverForbidden (u := ⟨m, ⟨o1, 3, l1⟩, a, b⟩) (evs := ⟨o2, 2, l2⟩) hs ⟨hm, sl_ok ho1, maxLen_lt hl1⟩ (sl_ok ho2) (maxLen_lt hl2)

theorem types_ok0 : ([29, 30].all (okT Try.prog 6)) = true := by kernel_rfl
theorem types_ok : ∀ t ∈ [29, 30], okT Try.prog 6 t = true := List.all_eq_true.1 types_ok0
noncomputable def readT (t : TypeId) : Bool := Try.prog.readableRec t && decide (t < Try.prog.types.size)
theorem types_read0 : ([29, 30].all readT) = true := by kernel_rfl
theorem types_read (t : TypeId) (ht : t ∈ [29, 30]) : Try.prog.readableRec t = true ∧ t < Try.prog.types.size := by
  have h : readT t = true := List.all_eq_true.1 types_read0 t ht
  unfold readT at h
  exact ⟨(Bool.and_eq_true_iff.1 h).1, of_decide_eq_true (Bool.and_eq_true_iff.1 h).2⟩

theorem lifted (os : Os) (started : os.Started) (H : Type) (enc : TypeId × Value → H) :
    ReturnsInHanded {} Try.checked os 3 .any (Rows.topCommandNeverForbiddenSpec.pre6 enc Try.prog Try.f3 Rows.topCommandNeverForbiddenRow.domain false) (Rows.topCommandNeverForbiddenSpec.post enc Try.prog Try.f3 false true false false) := by
  refine returnsInHanded_of_change_sized (C := Try.checked) own started (by kernel_rfl) Try.func3
    (ChangeSpec.witness6 (enc := enc) (C := Try.checked) false ⟨#[], #[.agg #[.slice none 0 0, .slice none 0 0, .slice none 0 0, .slice none 0 0, .int .i64 0, .int .i64 0], .slice none 0 0], []⟩ 8 (by kernel_rfl) (by kernel_rfl) (by kernel_rfl) (by kernel_rfl)) ?_
  intro W base args ds gs before hval0 hW hcnd hwt0 _
  have hval : ∀ (j : Nat) t v, Try.f3.params[j]? = some t → args[j]? = some v → Value.okWide Try.prog W .any base t v := hval0
  have hW' := hW
  obtain ⟨p, q, hA0, hV, rfl, hfz, hnd⟩ := hW
  have hA : DataW.TrodAll enc Try.prog W 0 (fun _ => true) true Try.f3.params.toList args.toList ds p := hA0
  have hwt : (DataW.weightsEach Try.prog (Try.f3.params.toList ++ []) (ds ++ gs)).all (· ≤ reachBytes) = true := hwt0
  have hlt : ∀ x ∈ p, x.block < W.heap.size := fun x hx => hW'.lt x (List.mem_append_left _ hx)
  rw [Try.params3] at hA hval hwt
  obtain ⟨rfl, rfl⟩ := trodVars_none hV
  rw [List.append_nil, List.append_nil] at hwt
  have hcalls := law_calls AxOk.prog_ok (fun _ _ => trivial) law_ok (f := 3) (args := args) types_ok (fun j t v h1 h2 => hval j t v (by simpa using h1) (by simpa using h2)) hA hwt
  refine hcalls.mono fun e W' ⟨he, hb⟩ => ?_
  subst he
  have hlen := trodAll_len hA
  match ds, hlen, hA, hW' with
  | [d0, d1], _, hA, hW' =>
    refine ⟨_, rfl, post_of_below (pa := p) (pv := []) hW' (fun _ _ _ => trodAll_cons_mk (shut_bool Try.underlying4 _) trodAll_mk0) (fun sp hsp => ?_) (fun _ _ => rfl) rfl hb (ok_one (by kernel_rfl) rfl (okWide_bool_mk Try.underlying4 _))⟩
    exact stay_args laidOut hb (ts := [29, 30]) types_read hA hlt (fun x hx => hsp x (List.mem_append_left _ hx))

theorem over : Rows.topCommandNeverForbiddenRow.holds Try.pinned (OpenSpec.ofChange Rows.topCommandNeverForbiddenSpec) :=
  OpenClaim.holds_of_wide 3 Try.f3 rfl rfl rfl rfl rfl rfl rfl ⟨rfl, rfl, rfl, rfl, rfl⟩ rfl rfl rfl rfl rfl (by kernel_rfl) Try.func3 (by kernel_rfl)
    (of_decide_eq_true (by kernel_rfl)) (by unfold Func.isWrapper; first | (rw [if_pos (by decide +kernel)]; kernel_rfl) | (rw [if_neg (by decide +kernel)]; exact ⟨rfl, rfl⟩))
    (fun os started H enc _ => lifted os started H enc)

theorem proved : Rows.TopCommandNeverForbiddenSaid :=
  over
end Go.Proofs.Ytolmeamlfkbafaa.command
