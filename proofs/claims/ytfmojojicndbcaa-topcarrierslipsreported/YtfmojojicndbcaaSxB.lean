/-
  The rules to compute with, as one set.
-/
import Derived.Test.YtfmojojicndbcaaSxA
import Derived.Attr
namespace Go.Ax.Sx

attribute [go_sem ↓] cond_true cond_false go_skip go_exit go_ret go_blk go_lp go_region go_seq go_block goO_nil goO_step goO_ent ent_yT ent_yF ent_nT ent_nF goG_guard goG_guardn goG_end goG_nil goO_guardTn goO_guardFn goX_c goX_lp goX_blk
attribute [go_sem] go_nil goX_nil go_cond goV_t goV_n goV_none goV_cond onBool_mk
attribute [go_sem ↓ low] ent_any
attribute [go_sem] goH_same puts undefs muxs
attribute [go_sem low] goH_other
attribute [congr] goH_congr onBool_congr goV_congr goO_congr go_congr
attribute [go_sem ↓] evalT_tmp evalT_const put_lit argsT_0 argsT_s
attribute [go_sem ↓] opv_move opv_pick opv_alloc opv_box opv_build opv_buildSlice opv_load opv_store opv_nilCheck opv_arith opv_eqv opv_un opv_conv opv_mkIface opv_mkFn opv_mkSlice opv_slice opv_fieldAddr opv_indexAddr opv_indexStr opv_index opv_field opv_extract opv_call opv_callv opv_append opv_len opv_lenArr opv_minmax
attribute [go_sem] doCall_t ok_roS Ok.push doCall_f callv_fn callv_yield pick_b newBox_push load_any box_push load_eptr part_f part_t store_ptr fitN cutN overN ptrAdd_p ptrAdd_e boxOp_eq

section
variable {a b : Int} {c d : Bool}
theorem ar_add : arithOp .add (.v (.int .i64 a)) (.v (.int .i64 b)) = some (.v (.int .i64 (IntKind.i64.wrap (a + b)))) := rfl
theorem ar_sub : arithOp .sub (.v (.int .i64 a)) (.v (.int .i64 b)) = some (.v (.int .i64 (IntKind.i64.wrap (a - b)))) := rfl
theorem ar_mul : arithOp .mul (.v (.int .i64 a)) (.v (.int .i64 b)) = some (.v (.int .i64 (IntKind.i64.wrap (a * b)))) := rfl
theorem ar_quo (h : (b == 0) = false) : arithOp .quo (.v (.int .i64 a)) (.v (.int .i64 b)) = some (.v (.int .i64 (IntKind.i64.wrap (a.tdiv b)))) := by
  have : b ≠ 0 := by simpa using h
  simp [arithOp, isShift, intOp, this]
theorem ar_rem (h : (b == 0) = false) : arithOp .rem (.v (.int .i64 a)) (.v (.int .i64 b)) = some (.v (.int .i64 (a.tmod b))) := by
  have : b ≠ 0 := by simpa using h
  simp [arithOp, isShift, intOp, this]
theorem ar_eql : arithOp .eql (.v (.int .i64 a)) (.v (.int .i64 b)) = some (.v (.bool (decide (a = b)))) := by
  simp only [arithOp, isShift, intOp]; by_cases h : a = b <;> simp [h]
theorem ar_neq : arithOp .neq (.v (.int .i64 a)) (.v (.int .i64 b)) = some (.v (.bool (decide (a ≠ b)))) := by
  simp only [arithOp, isShift, intOp]; by_cases h : a = b <;> simp [h]
theorem ar_lss : arithOp .lss (.v (.int .i64 a)) (.v (.int .i64 b)) = some (.v (.bool (decide (a < b)))) := rfl
theorem ar_leq : arithOp .leq (.v (.int .i64 a)) (.v (.int .i64 b)) = some (.v (.bool (decide (a ≤ b)))) := rfl
theorem ar_gtr : arithOp .gtr (.v (.int .i64 a)) (.v (.int .i64 b)) = some (.v (.bool (decide (b < a)))) := rfl
theorem ar_geq : arithOp .geq (.v (.int .i64 a)) (.v (.int .i64 b)) = some (.v (.bool (decide (b ≤ a)))) := rfl
theorem un_not : unOp .not (.v (.bool c)) = some (.v (.bool !c)) := rfl
theorem un_neg : unOp .neg (.v (.int .i64 a)) = some (.v (.int .i64 (IntKind.i64.wrap (-a)))) := by simp [unOp]
theorem mm_max : minmaxOp true [.v (.int .i64 a), .v (.int .i64 b)] = some (.v (.int .i64 (max a b))) := by
  have : (if b > a then b else a) = max a b := by split <;> omega
  simp only [minmaxOp, maxFold, maxOp, if_true, this]
theorem mm_min : minmaxOp false [.v (.int .i64 a), .v (.int .i64 b)] = some (.v (.int .i64 (min a b))) := by
  have : (if b < a then b else a) = min a b := by split <;> omega
  simp [minmaxOp, maxFold, maxOp, this]
theorem cv_int {k k' : IntKind} : convOp (.int k) (.v (.int k' a)) = some (.v (.int k (k.wrap a))) := rfl
theorem u64_id (h : 0 ≤ a) (h2 : a < 18446744073709551616) : IntKind.u64.wrap a = a := by
  have e1 : ((2 : Int) ^ (64 : Nat)) = 18446744073709551616 := by decide
  show (if (false && decide (a % (2 : Int) ^ (64 : Nat) ≥ (2 : Int) ^ (64 - 1 : Nat))) = true then a % (2 : Int) ^ (64 : Nat) - (2 : Int) ^ (64 : Nat) else a % (2 : Int) ^ (64 : Nat)) = a
  simp only [e1, Bool.false_and]
  simp; omega
theorem ar_shr1 : arithOp .shr (.v (.int .u64 a)) (.v (.int .u64 1)) = some (.v (.int .u64 (a / 2))) := by
  have : a.fdiv 2 = a / 2 := by rw [Int.fdiv_eq_ediv_of_nonneg _ (by decide)]
  simp [arithOp, isShift, shiftOp, IntKind.bits, this]
theorem mm_max3 {c' : Int} : minmaxOp true [.v (.int .i64 a), .v (.int .i64 b), .v (.int .i64 c')] = some (.v (.int .i64 (max (max a b) c'))) := by
  have h1 : (if b > a then b else a) = max a b := by split <;> omega
  have h2 : (if c' > max a b then c' else max a b) = max (max a b) c' := by split <;> omega
  simp only [minmaxOp, maxFold, maxOp, if_true, h1, h2]
theorem ext_0 {x : AV} {r : List AV} : extractOp 0 (.tuple (x :: r)) = some x := rfl
theorem ext_1 {x y : AV} {r : List AV} : extractOp 1 (.tuple (x :: y :: r)) = some y := rfl
theorem ext_2 {x y z : AV} {r : List AV} : extractOp 2 (.tuple (x :: y :: z :: r)) = some z := rfl
theorem len_sl {o : Own} {es : Nat} {xs : List (List AV)} : lenOp false (.slice o es xs) = some (.v (.int .i64 xs.length)) := rfl
theorem len_str {x : ByteArray} : lenOp true (.v (.string x)) = some (.v (.int .i64 x.size)) := rfl

theorem finF_n {rs : List ARes} {own : Bool} {st : St} : finF rs own .normal st = finish rs own st := rfl
theorem finF_r {rs : List ARes} {own : Bool} {st : St} : finF rs own .ret st = finish rs own st := rfl
theorem finish_f {rs : List ARes} {st : St} : finish rs false st = (resultsOf st rs).map fun l => (packed l, st.sig.pop) := rfl
theorem results_nil {st : St} : resultsOf st [] = some [] := rfl
theorem results_cons {st : St} {r : ARes} {rest : List ARes} : resultsOf st (r :: rest) = (((resultRaw st r).bind (leaveVal st.sig)).bind fun x => (resultsOf st rest).map fun s => x :: s) := by
  simp only [resultsOf]
  cases (resultRaw st r).bind (leaveVal st.sig) <;> cases resultsOf st rest <;> rfl
theorem raw_tmp {ρ : Nat → AV} {m : Sig} {t : Nat} : resultRaw ⟨ρ, m⟩ (.tmp t) = some (ρ t) := rfl
theorem raw_cell {ρ : Nat → AV} {m : Sig} {g : Bool} {n t : Nat} : resultRaw ⟨ρ, m⟩ (.cell g n t) = m.load g n (ρ t) := rfl
theorem packed_0 : packed [] = .tuple [] := rfl
theorem packed_1 {x : AV} : packed [x] = x := rfl
theorem packed_2 {x y : AV} {r : List AV} : packed (x :: y :: r) = .tuple (x :: y :: r) := rfl
section
variable {m : Sig} {x : Value} {cs : List AV}
theorem leave_int {k : IntKind} {n : Int} : leaveVal m (.v (.int k n)) = some (.v (.int k n)) := rfl
theorem leave_bool {b : Bool} : leaveVal m (.v (.bool b)) = some (.v (.bool b)) := rfl
theorem leave_str {b : ByteArray} : leaveVal m (.v (.string b)) = some (.v (.string b)) := rfl
theorem leave_agg : leaveVal m (.agg cs) = (leaveCells m cs).map .agg := rfl
theorem leave_nilS {es : Nat} {xs : List (List AV)} : leaveVal m (.slice .nilS es xs) = some (.slice .nilS es xs) := rfl
theorem leave_any {es : Nat} {xs : List (List AV)} : leaveVal m (.slice .any es xs) = some (.slice .any es xs) := rfl
theorem leave_full {es : Nat} {xs : List (List AV)} : leaveVal m (.slice .full es xs) = some (.slice .full es xs) := rfl
theorem leave_tok {d g es : Nat} {xs : List (List AV)} : leaveVal m (.slice (.tok d g) es xs) = some (.slice .any es xs) := rfl
theorem leaves_nil : leaveCells m [] = some [] := rfl
theorem leaves_cons {x : AV} {r : List AV} : leaveCells m (x :: r) = (leaveCell m x).bind fun y => (leaveCells m r).map fun s => y :: s := by
  simp only [leaveCells]
  cases leaveCell m x <;> cases leaveCells m r <;> rfl
theorem leavec_int {k : IntKind} {n : Int} : leaveCell m (.v (.int k n)) = some (.v (.int k n)) := rfl
theorem leavec_bool {b : Bool} : leaveCell m (.v (.bool b)) = some (.v (.bool b)) := rfl
theorem leavec_str {b : ByteArray} : leaveCell m (.v (.string b)) = some (.v (.string b)) := rfl
theorem leavec_nilS {es : Nat} {xs : List (List AV)} : leaveCell m (.slice .nilS es xs) = some (.slice .nilS es xs) := rfl
theorem leavec_any {es : Nat} {xs : List (List AV)} : leaveCell m (.slice .any es xs) = some (.slice .any es xs) := rfl
theorem leavec_full {es : Nat} {xs : List (List AV)} : leaveCell m (.slice .full es xs) = some (.slice .full es xs) := rfl
theorem leavec_tok {d g es : Nat} {xs : List (List AV)} : leaveCell m (.slice (.tok d g) es xs) = some (.slice .any es xs) := rfl
end
end
attribute [go_sem] cv_int ar_shr1 ar_add ar_sub ar_mul ar_quo ar_rem ar_eql ar_neq ar_lss ar_leq ar_gtr ar_geq un_not un_neg mm_max mm_max3 mm_min ext_0 ext_1 ext_2 len_sl len_str
attribute [go_sem] finF_n finF_r finish_f results_nil results_cons raw_tmp raw_cell packed_0 packed_1 packed_2 leave_int leave_bool leave_str leave_agg leave_nilS leave_any leave_full leave_tok leaves_nil leaves_cons leavec_int leavec_bool leavec_str leavec_nilS leavec_any leavec_full leavec_tok
attribute [go_sem] pop_push Option.map_some Option.bind_some Option.map_none Option.bind_none List.map_cons List.map_nil List.nil_append List.cons_append AV.cells List.length_cons List.length_nil AV.isCell List.all_cons List.all_nil Bool.and_true Bool.true_and List.getElem?_cons_zero List.getElem?_cons_succ List.drop_zero List.drop_succ_cons List.take_succ_cons List.take_zero List.set_cons_zero List.set_cons_succ buildCells_nil buildCells_cons buildRows_nil buildRows_cons sameLen closeAll_nil closeAll_cons close_int close_bool close_str close_nilS close_any close_full close_tok

/-! ### Elements -/
section
variable {o : Own} {es : Nat} {xs : List (List AV)} {k : Nat} {row : List AV}
theorem ix_sl (h : xs[k]? = some row) : indexAddrOp none es (.slice o es xs) (.v (.int .i64 (k : Int))) = some (.eptr row 0) := by
  have hk : k < xs.length := (List.getElem?_eq_some_iff.1 h).1
  have : (0 : Int) ≤ (k : Int) ∧ (k : Int) < (xs.length : Int) := by omega
  simp only [indexAddrOp, if_true, idx, if_pos this, Option.bind_some, Int.toNat_natCast, h, Option.map_some]
theorem idx_eq {k : IntKind} {n : Int} {len : Nat} : idx (.v (.int k n)) len = if 0 ≤ n ∧ n < len then some n.toNat else none := rfl
theorem indexOp_eq {n es : Nat} {g : Bool} {cs : List AV} {j : AV} : indexOp n es g (.agg cs) j = (idx j n).bind fun k => part g es cs (k * es) := rfl
theorem fieldOp_eq {n off : Nat} {g : Bool} {cs : List AV} : fieldOp g n off (.agg cs) = part g n cs off := rfl
theorem ia_ptr {n d b off es : Nat} {j : AV} : indexAddrOp (some n) es (.ptr d b off) j = (idx j n).map fun k => .ptr d b (off + k * es) := rfl
theorem ia_eptr {n off es : Nat} {cs : List AV} {j : AV} : indexAddrOp (some n) es (.eptr cs off) j = (idx j n).map fun k => .eptr cs (off + k * es) := rfl
theorem wrap_eq (x : Int) : IntKind.i64.wrap x = if 9223372036854775808 ≤ x % 18446744073709551616 then x % 18446744073709551616 - 18446744073709551616 else x % 18446744073709551616 := by
  have e1 : ((2 : Int) ^ (64 : Nat)) = 18446744073709551616 := by decide
  have e2 : ((2 : Int) ^ (64 - 1 : Nat)) = 9223372036854775808 := by decide
  show (if (true && decide (x % (2 : Int) ^ (64 : Nat) ≥ (2 : Int) ^ (64 - 1 : Nat))) = true then x % (2 : Int) ^ (64 : Nat) - (2 : Int) ^ (64 : Nat) else x % (2 : Int) ^ (64 : Nat)) = _
  simp only [e1, e2, Bool.true_and, decide_eq_true_eq, ge_iff_le]
theorem wrap_id {x : Int} (h1 : -9223372036854775808 ≤ x) (h2 : x < 9223372036854775808) : IntKind.i64.wrap x = x := by
  rw [wrap_eq]; split <;> omega
theorem wrap_succ {k n : Nat} (h : k < n) (hn : (n : Int) < 9223372036854775808) : IntKind.i64.wrap ((k : Int) + 1) = ((k + 1 : Nat) : Int) := by
  rw [wrap_id] <;> omega
end

/-! ### Values that hang on a condition -/
section
variable {c : Bool} {x y z : AV} {a b : Bool} {n k : Int}
theorem cc_l : cond c (cond c x y) z = cond c x z := by cases c <;> rfl
theorem cc_r : cond c x (cond c y z) = cond c x z := by cases c <;> rfl
theorem cc_b : cond c (AV.v (.bool a)) (AV.v (.bool b)) = .v (.bool (cond c a b)) := by cases c <;> rfl
theorem cc_i : cond c (AV.v (.int .i64 n)) (AV.v (.int .i64 k)) = .v (.int .i64 (cond c n k)) := by cases c <;> rfl
theorem cc_f : cond c a false = (c && a) := by cases c <;> simp
theorem cc_t : cond c true a = (c || a) := by cases c <;> simp
end
attribute [go_sem] wrap_id idx_eq indexOp_eq fieldOp_eq ia_ptr ia_eptr and_true true_and and_self Bool.not_true Bool.not_false beq_self_eq_true Bool.cond_self decide_true decide_false cc_l cc_r cc_b cc_i cc_f cc_t

end Go.Ax.Sx
