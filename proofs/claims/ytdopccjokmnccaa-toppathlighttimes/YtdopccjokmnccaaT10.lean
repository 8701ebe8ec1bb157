/- A part of the proof. -/
import Derived.Test.YtdopccjokmnccaaT9
namespace Go.Ax.Sx.Lt
open Go.Ax
set_option linter.unusedSimpArgs false
set_option linter.unusedVariables false
set_option maxRecDepth 100000
def sqd (n den : Int) : Int := n * den * (n * den)
def disLo (g : Gp) : Int := search (fun k => decide (nearS g < sqd (k + 1) g.den)) 8000000
def disHi (g : Gp) : Int := search (fun k => !decide (sqd k g.den < farS g)) 8000000
section
variable {s : Sig} {g : Gp}
theorem sqd_nn {n d : Int} : 0 ≤ sqd n d := by
 unfold sqd
 rcases Int.le_total 0 (n * d) with h | h
 ·exact Int.mul_nonneg h h
 ·have := Int.mul_nonneg (show 0 ≤ -(n * d) by omega) (show 0 ≤ -(n * d) by omega)
  rwa [Int.neg_mul_neg] at this
theorem kden {k : Int} (hg : GpOk g) (h1 : -10000000 ≤ k) (h2 : k ≤ 10000000) : -1000000000000000 ≤ k * g.den ∧ k * g.den ≤ 1000000000000000 := by
 have := mul_in (m := 10000000) (n := 100000000) h1 h2 (b := g.den) (by have := hg.d1; omega) hg.d2
 omega
theorem path_gap_distances_1 {m : Sig} {dd b1 b2 : Nat} {x k : Int} (hg : GpOk g) (hx : 0 ≤ x) (hm : Ok m) (hb : m.box dd b1 = some (wd x)) (hb2 : m.box dd b2 = some (rowG g)) (h1 : 0 ≤ k) (h2 : k < 8000000) :
  callL AP (.fn 35) [I k, .ptr dd b1 0, .ptr dd b2 0] m = some (B (decide (x < sqd (k + 1) g.den)), m) := by
 have kd := kden hg (k := k + 1) (by omega) (by omega)
 obtain ⟨⟨v1, v2, v3⟩, den, dbt⟩ := g
 simp only at kd
 have w1 : IntKind.i64.wrap (k + 1) = k + 1 := wrap_id (by omega) (by omega)
 have w2 : IntKind.i64.wrap ((k + 1) * den) = (k + 1) * den := wrap_id (by omega) (by omega)
 have sq : ∀ r, callL AP (.fn 37) [I ((k + 1) * den)] (roS (m.push r)) = some (.agg (wd (sqd (k + 1) den)), roS (m.push r)) := fun r => path_squared (by omega) (by omega) ok_roS
 have ls : ∀ r, callL AP (.fn 36) [.agg (wd x), .agg (wd (sqd (k + 1) den))] (m.push r) = some (B (decide (x < sqd (k + 1) den)), m.push r) := fun r => path_wide_less hx sqd_nn (hm.push r)
 rw [callL_go (show AP 35 = some c_path_gap_distances_1 from rfl) rfl]
 simp (maxSteps := 1000000) only [go_sem, b_path_gap_distances_1, hm, box_keep hb, box_keep hb2, w1, w2, sq, ls, Nat.reduceEqDiff, reduceCtorEq, Nat.reduceAdd, Nat.reduceMul, Nat.reduceSub, Int.reduceLT, Int.reduceLE, Int.reduceEq, Int.reduceAdd, Int.reduceSub, Int.reduceNeg, Int.reduceToNat, Int.cast_ofNat_Int, ↓reduceIte, Nat.reduceLeDiff, Nat.lt_add_one, Nat.reduceLT, Nat.zero_lt_one, ne_eq, not_true, not_false_eq_true]
theorem path_gap_distances_2 {m : Sig} {dd b1 b2 : Nat} {x k : Int} (hg : GpOk g) (hx : 0 ≤ x) (hm : Ok m) (hb : m.box dd b1 = some (rowG g)) (hb2 : m.box dd b2 = some (wd x)) (h1 : 0 ≤ k) (h2 : k < 8000000) :
  callL AP (.fn 38) [I k, .ptr dd b1 0, .ptr dd b2 0] m = some (B (!decide (sqd k g.den < x)), m) := by
 have kd := kden hg (k := k) (by omega) (by omega)
 obtain ⟨⟨v1, v2, v3⟩, den, dbt⟩ := g
 simp only at kd
 have w2 : IntKind.i64.wrap (k * den) = k * den := wrap_id (by omega) (by omega)
 have sq : ∀ r, callL AP (.fn 37) [I (k * den)] (roS (m.push r)) = some (.agg (wd (sqd k den)), roS (m.push r)) := fun r => path_squared (by omega) (by omega) ok_roS
 have ls : ∀ r, callL AP (.fn 36) [.agg (wd (sqd k den)), .agg (wd x)] (m.push r) = some (B (decide (sqd k den < x)), m.push r) := fun r => path_wide_less sqd_nn hx (hm.push r)
 rw [callL_go (show AP 38 = some c_path_gap_distances_2 from rfl) rfl]
 simp (maxSteps := 1000000) only [go_sem, b_path_gap_distances_2, hm, box_keep hb, box_keep hb2, w2, sq, ls, Nat.reduceEqDiff, reduceCtorEq, Nat.reduceAdd, Nat.reduceMul, Nat.reduceSub, Int.reduceLT, Int.reduceLE, Int.reduceEq, Int.reduceAdd, Int.reduceSub, Int.reduceNeg, Int.reduceToNat, Int.cast_ofNat_Int, ↓reduceIte, Nat.reduceLeDiff, Nat.lt_add_one, Nat.reduceLT, Nat.zero_lt_one, ne_eq, not_true, not_false_eq_true]
theorem path_gap_distances (hg : GpOk g) (hs : Ok s) : callL AP (.fn 22) [.agg (rowG g)] s = some (.agg [I (disLo g), I (disHi g)], s) := by
 have a1 : ∀ b1 b2, fcallOp (callL AP) true (s.push ⟨[b1, b2, [], []], []⟩) [[U 0, U 0], [U 0, U 0]] (.fn 32) [.agg (rowG g)] = some (.agg (wd (nearS g)), s.push ⟨[b1, b2, [], []], []⟩) := fun b1 b2 =>
  fc_keep (hs.push _) (fun m hm => path_gap_nearest hg hm) (by rw [tail_push]; simp [fills])
 have a2 : ∀ b1 b2, fcallOp (callL AP) false (s.push ⟨[b1, b2, [], []], []⟩) [[U 0, U 0], [U 0, U 0]] (.fn 33) [.agg (rowG g)] = some (.agg (wd (farS g)), s.push ⟨[b1, b2, [], []], []⟩) := fun b1 b2 =>
  fc_keep (hs.push _) (fun m hm => path_gap_farthest hg hm) (by rw [tail_push]; simp [fills])
 have s1 : ∀ b, callL AP (.fn 34) [I 8000000, .fn 35 [] [.ptr s.acts.length 2 0, .ptr s.acts.length 0 0]] (s.push ⟨[rowG g, b, wd (nearS g), wd (farS g)], []⟩) = some (I (disLo g), s.push ⟨[rowG g, b, wd (nearS g), wd (farS g)], []⟩) := fun b =>
  sort_Search (by decide) (by decide) fun i hi hi2 r => path_gap_distances_1 hg (near_nn hg) ((hs.push _).push r) (box_keep (by rw [box_push]; rfl) r) (box_keep (by rw [box_push]; rfl) r) hi hi2
 have s2 : ∀ b, callL AP (.fn 34) [I 8000000, .fn 38 [] [.ptr s.acts.length 0 0, .ptr s.acts.length 3 0]] (s.push ⟨[rowG g, b, wd (nearS g), wd (farS g)], []⟩) = some (I (disHi g), s.push ⟨[rowG g, b, wd (nearS g), wd (farS g)], []⟩) := fun b =>
  sort_Search (by decide) (by decide) fun i hi hi2 r => path_gap_distances_2 hg (far_nn hg) ((hs.push _).push r) (box_keep (by rw [box_push]; rfl) r) (box_keep (by rw [box_push]; rfl) r) hi hi2
 rw [callL_go (show AP 22 = some c_path_gap_distances from rfl) rfl]
 simp (maxSteps := 1000000) only [go_sem, b_path_gap_distances, hs, rep2, a1, a2, s1, s2, Nat.reduceEqDiff, reduceCtorEq, Nat.reduceAdd, Nat.reduceMul, Nat.reduceSub, Int.reduceLT, Int.reduceLE, Int.reduceEq, Int.reduceAdd, Int.reduceSub, Int.reduceNeg, Int.reduceToNat, Int.cast_ofNat_Int, ↓reduceIte, Nat.reduceLeDiff, Nat.lt_add_one, Nat.reduceLT, Nat.zero_lt_one, ne_eq, not_true, not_false_eq_true]
end
end Go.Ax.Sx.Lt

namespace Go.Ax.Sx.Lt
open Go.Ax
set_option linter.unusedSimpArgs false
set_option linter.unusedVariables false
set_option maxRecDepth 100000
structure TOk (p : List Kn × Int) : Prop where
 vt : VT p.1
 dw : wi p.2 0 1000 = true
abbrev ofT (p : List Kn × Int) (t : Int) : Prop := fst p.1 ≤ t ∧ t ≤ lst p.1
theorem VT.span {l : List Kn} (hv : VT l) : lst l - fst l ≤ 110000 := by
 have key : ∀ (n : Nat) (a b : Kn), l[0]? = some a → l[n]? = some b → b.t - a.t ≤ 10000 * n := by
  intro n
  induction n with
  | zero => intro a b ha hb; rw [ha] at hb; injection hb with hb; subst hb; omega
  | succ n ih =>
   intro a b ha hb
   have hlt := (List.getElem?_eq_some_iff.1 hb).1
   obtain ⟨c, hc⟩ := get_some (l := l) (k := n) (by omega)
   have h1 := ih a c ha hc
   have h2 := (kStep_some (hv.step n c b hc hb)).2.1
   omega
 obtain ⟨a, ha⟩ := get_some hv.pos
 obtain ⟨b, hb⟩ := get_some (l := l) (k := l.length - 1) (by have := hv.pos; omega)
 have := key _ a b ha hb
 have hf := hv.few
 unfold fst lst
 rw [ha, hb]
 simp only
 omega
theorem VT.tin {l : List Kn} (hv : VT l) : 0 ≤ fst l ∧ lst l ≤ 1000000000000 := by
 obtain ⟨a, ha⟩ := get_some hv.pos
 obtain ⟨b, hb⟩ := get_some (l := l) (k := l.length - 1) (by have := hv.pos; omega)
 have h1 := (kIn_iff.1 (hv.kin a (List.mem_of_getElem? ha))).1
 have h2 := (kIn_iff.1 (hv.kin b (List.mem_of_getElem? hb))).1
 unfold fst lst
 rw [ha, hb]
 exact ⟨h1.1, h2.2⟩
theorem VT.ord {l : List Kn} (hv : VT l) : fst l ≤ lst l := by
 obtain ⟨a, ha⟩ := get_some hv.pos
 obtain ⟨b, hb⟩ := get_some (l := l) (k := l.length - 1) (by have := hv.pos; omega)
 have := hv.mono' (Nat.zero_le _) ha hb
 unfold fst lst
 rw [ha, hb]
 exact this
abbrev gp (a : List Kn × Int) (t : Int) (b : List Kn × Int) (t' : Int) : Gp := gap a.1 a.2 t b.1 b.2 t'
def arrB (a : List Kn × Int) (t : Int) (b : List Kn × Int) (t' : Int) : Bool := !decide (sqd (t' - t) (gp a t b t').den < farS (gp a t b t'))
def misB (a : List Kn × Int) (t : Int) (b : List Kn × Int) (t' : Int) : Bool := decide (sqd (t' - t) (gp a t b t').den < nearS (gp a t b t'))
abbrev tvp (o : Own) (p : List Kn × Int) : AV := tv o p.1 p.2
section
variable {o : Own} {s : Sig} {a b : List Kn × Int} {t t' : Int}
theorem gp_ok (ha : TOk a) (hb : TOk b) (h1 : ofT a t) (h2 : ofT b t') : GpOk (gp a t b t') := by
 have d1 := wi_iff.1 ha.dw
 have d2 := wi_iff.1 hb.dw
 exact gapP_ok (plc_ok ha.vt h1.1 h1.2) (plc_ok hb.vt h2.1 h2.2) (by omega) (by omega)
theorem path_arrived (ha : TOk a) (hb : TOk b) (h1 : ofT a t) (h2 : ofT b t) (h3 : ofT b t') (hs : Ok s) : callL AP (.fn 39) [tvp o a, I t, tvp o b, I t'] s = some (B (arrB a t b t'), s) := by
 have hg := gp_ok ha hb h1 h3
 have hsp := hb.vt.span
 have kd := kden hg (k := t' - t) (by omega) (by omega)
 have ti := hb.vt.tin
 have w1 : IntKind.i64.wrap (t' - t) = t' - t := wrap_id (by omega) (by omega)
 have w2 : IntKind.i64.wrap ((t' - t) * (gp a t b t').den) = (t' - t) * (gp a t b t').den := wrap_id (by omega) (by omega)
 have e1 : ∀ r, callL AP (.fn 21) [tvp o a, I t, tvp o b, I t'] (s.push r) = some (.agg (rowG (gp a t b t')), s.push r) := fun r => path_between ha.vt h1.1 h1.2 hb.vt h3.1 h3.2 ha.dw hb.dw (hs.push r)
 have e2 : ∀ r, callL AP (.fn 33) [.agg (rowG (gp a t b t'))] (s.push r) = some (.agg (wd (farS (gp a t b t'))), s.push r) := fun r => path_gap_farthest hg (hs.push r)
 have sq : ∀ r, callL AP (.fn 37) [I ((t' - t) * (gp a t b t').den)] (roS (s.push r)) = some (.agg (wd (sqd (t' - t) (gp a t b t').den)), roS (s.push r)) := fun r => path_squared (by omega) (by omega) ok_roS
 have ls : ∀ r, callL AP (.fn 36) [.agg (wd (sqd (t' - t) (gp a t b t').den)), .agg (wd (farS (gp a t b t')))] (s.push r) = some (B (decide (sqd (t' - t) (gp a t b t').den < farS (gp a t b t'))), s.push r) := fun r => path_wide_less sqd_nn (far_nn hg) (hs.push r)
 unfold arrB
 generalize gp a t b t' = g at *
 rw [callL_go (show AP 39 = some c_path_arrived from rfl) rfl]
 simp (maxSteps := 1000000) only [go_sem, b_path_arrived, hs, e1, w1, w2, sq, e2, ls, Nat.reduceEqDiff, reduceCtorEq, Nat.reduceAdd, Nat.reduceMul, Nat.reduceSub, Int.reduceLT, Int.reduceLE, Int.reduceEq, Int.reduceAdd, Int.reduceSub, Int.reduceNeg, Int.reduceToNat, Int.cast_ofNat_Int, ↓reduceIte, Nat.reduceLeDiff, Nat.lt_add_one, Nat.reduceLT, Nat.zero_lt_one, ne_eq, not_true, not_false_eq_true]
theorem path_missing (ha : TOk a) (hb : TOk b) (h1 : ofT a t) (h2 : ofT b t) (h3 : ofT b t') (hs : Ok s) : callL AP (.fn 42) [tvp o a, I t, tvp o b, I t'] s = some (B (misB a t b t'), s) := by
 have hg := gp_ok ha hb h1 h3
 have hsp := hb.vt.span
 have kd := kden hg (k := t' - t) (by omega) (by omega)
 have ti := hb.vt.tin
 have w1 : IntKind.i64.wrap (t' - t) = t' - t := wrap_id (by omega) (by omega)
 have w2 : IntKind.i64.wrap ((t' - t) * (gp a t b t').den) = (t' - t) * (gp a t b t').den := wrap_id (by omega) (by omega)
 have e1 : ∀ r, callL AP (.fn 21) [tvp o a, I t, tvp o b, I t'] (s.push r) = some (.agg (rowG (gp a t b t')), s.push r) := fun r => path_between ha.vt h1.1 h1.2 hb.vt h3.1 h3.2 ha.dw hb.dw (hs.push r)
 have e2 : ∀ r, callL AP (.fn 32) [.agg (rowG (gp a t b t'))] (s.push r) = some (.agg (wd (nearS (gp a t b t'))), s.push r) := fun r => path_gap_nearest hg (hs.push r)
 have sq : ∀ r, callL AP (.fn 37) [I ((t' - t) * (gp a t b t').den)] (roS (s.push r)) = some (.agg (wd (sqd (t' - t) (gp a t b t').den)), roS (s.push r)) := fun r => path_squared (by omega) (by omega) ok_roS
 have ls : ∀ r, callL AP (.fn 36) [.agg (wd (sqd (t' - t) (gp a t b t').den)), .agg (wd (nearS (gp a t b t')))] (s.push r) = some (B (decide (sqd (t' - t) (gp a t b t').den < nearS (gp a t b t'))), s.push r) := fun r => path_wide_less sqd_nn (near_nn hg) (hs.push r)
 unfold misB
 generalize gp a t b t' = g at *
 rw [callL_go (show AP 42 = some c_path_missing from rfl) rfl]
 simp (maxSteps := 1000000) only [go_sem, b_path_missing, hs, e1, w1, w2, sq, e2, ls, Nat.reduceEqDiff, reduceCtorEq, Nat.reduceAdd, Nat.reduceMul, Nat.reduceSub, Int.reduceLT, Int.reduceLE, Int.reduceEq, Int.reduceAdd, Int.reduceSub, Int.reduceNeg, Int.reduceToNat, Int.cast_ofNat_Int, ↓reduceIte, Nat.reduceLeDiff, Nat.lt_add_one, Nat.reduceLT, Nat.zero_lt_one, ne_eq, not_true, not_false_eq_true]
theorem path_received_1 {m : Sig} {dd b1 b2 b3 : Nat} {i : Int} (ha : TOk a) (hb : TOk b) (h1 : ofT a t) (h2 : ofT b t) (hi : 0 ≤ i) (hi2 : t + i ≤ lst b.1) (hm : Ok m)
  (x1 : m.box dd b1 = some [.slice o 4 (a.1.map rowK), I a.2]) (x2 : m.box dd b2 = some [I t]) (x3 : m.box dd b3 = some [.slice o 4 (b.1.map rowK), I b.2]) :
  callL AP (.fn 40) [I i, .ptr dd b1 0, .ptr dd b2 0, .ptr dd b3 0] m = some (B (arrB a t b (t + i)), m) := by
 have ti := hb.vt.tin
 have w1 : IntKind.i64.wrap (t + i) = t + i := wrap_id (by omega) (by omega)
 have e1 : ∀ r, callL AP (.fn 39) [tvp o a, I t, tvp o b, I (t + i)] (m.push r) = some (B (arrB a t b (t + i)), m.push r) := fun r => path_arrived ha hb h1 h2 ⟨by omega, by omega⟩ (hm.push r)
 rw [callL_go (show AP 40 = some c_path_received_1 from rfl) rfl]
 simp (maxSteps := 1000000) only [go_sem, b_path_received_1, hm, box_keep x1, box_keep x2, box_keep x3, w1, e1, Nat.reduceEqDiff, reduceCtorEq, Nat.reduceAdd, Nat.reduceMul, Nat.reduceSub, Int.reduceLT, Int.reduceLE, Int.reduceEq, Int.reduceAdd, Int.reduceSub, Int.reduceNeg, Int.reduceToNat, Int.cast_ofNat_Int, ↓reduceIte, Nat.reduceLeDiff, Nat.lt_add_one, Nat.reduceLT, Nat.zero_lt_one, ne_eq, not_true, not_false_eq_true]
theorem path_received_2 {m : Sig} {dd b1 b2 b3 : Nat} {i : Int} (ha : TOk a) (hb : TOk b) (h1 : ofT a t) (h2 : ofT b t) (hi : 0 ≤ i) (hi2 : t + i ≤ lst b.1) (hm : Ok m)
  (x1 : m.box dd b1 = some [.slice o 4 (a.1.map rowK), I a.2]) (x2 : m.box dd b2 = some [I t]) (x3 : m.box dd b3 = some [.slice o 4 (b.1.map rowK), I b.2]) :
  callL AP (.fn 41) [I i, .ptr dd b1 0, .ptr dd b2 0, .ptr dd b3 0] m = some (B (!misB a t b (t + i)), m) := by
 have ti := hb.vt.tin
 have w1 : IntKind.i64.wrap (t + i) = t + i := wrap_id (by omega) (by omega)
 have e1 : ∀ r, callL AP (.fn 42) [tvp o a, I t, tvp o b, I (t + i)] (m.push r) = some (B (misB a t b (t + i)), m.push r) := fun r => path_missing ha hb h1 h2 ⟨by omega, by omega⟩ (hm.push r)
 rw [callL_go (show AP 41 = some c_path_received_2 from rfl) rfl]
 simp (maxSteps := 1000000) only [go_sem, b_path_received_2, hm, box_keep x1, box_keep x2, box_keep x3, w1, e1, Nat.reduceEqDiff, reduceCtorEq, Nat.reduceAdd, Nat.reduceMul, Nat.reduceSub, Int.reduceLT, Int.reduceLE, Int.reduceEq, Int.reduceAdd, Int.reduceSub, Int.reduceNeg, Int.reduceToNat, Int.cast_ofNat_Int, ↓reduceIte, Nat.reduceLeDiff, Nat.lt_add_one, Nat.reduceLT, Nat.zero_lt_one, ne_eq, not_true, not_false_eq_true]
structure Rcv where
 lo : Int
 hi : Int
 e : Int
abbrev tuR (r : Rcv) : AV := .tuple [.agg [I r.lo, I r.hi], I r.e]
def lateI (a : List Kn × Int) (b : List Kn × Int) (t : Int) : Int := search (fun i => arrB a t b (t + i)) (lst b.1 - t)
def earlyI (a : List Kn × Int) (b : List Kn × Int) (t : Int) : Int := search (fun i => !misB a t b (t + i)) (lst b.1 - t)
def recv (a b : List Kn × Int) (t : Int) : Rcv := if arrB a t b (lst b.1) = false then ⟨0, 0, 12⟩ else ⟨t + max 0 (earlyI a b t - 1), t + lateI a b t, 0⟩
theorem path_received (ha : TOk a) (hb : TOk b) (h1 : ofT a t) (h2 : ofT b t) (hs : Ok s) : callL AP (.fn 23) [tvp o a, tvp o b, I t] s = some (tuR (recv a b t), s) := by
 have hb0 := hb.vt.few
 have ti := hb.vt.tin
 have el : ∀ r, callL AP (.fn 30) [tvp o b] (s.push r) = some (I (lst b.1), s.push r) := fun r => path_last hb.vt.pos (by omega) (hs.push r)
 have e1 : ∀ r, callL AP (.fn 39) [tvp o a, I t, tvp o b, I (lst b.1)] (s.push r) = some (B (arrB a t b (lst b.1)), s.push r) := fun r => path_arrived ha hb h1 h2 ⟨by omega, by omega⟩ (hs.push r)
 unfold recv
 cases hq : arrB a t b (lst b.1) with
 | false =>
  rw [hq] at e1
  rw [callL_go (show AP 23 = some c_path_received from rfl) rfl]
  simp (maxSteps := 1000000) only [go_sem, b_path_received, hs, el, e1, Nat.reduceEqDiff, reduceCtorEq, Nat.reduceAdd, Nat.reduceMul, Nat.reduceSub, Int.reduceLT, Int.reduceLE, Int.reduceEq, Int.reduceAdd, Int.reduceSub, Int.reduceNeg, Int.reduceToNat, Int.cast_ofNat_Int, ↓reduceIte, Nat.reduceLeDiff, Nat.lt_add_one, Nat.reduceLT, Nat.zero_lt_one, ne_eq, not_true, not_false_eq_true]
 | true =>
  rw [hq] at e1
  simp only [Bool.true_eq_false, if_false]
  have w1 : IntKind.i64.wrap (lst b.1 - t) = lst b.1 - t := wrap_id (by omega) (by omega)
  have s1 : ∀ bx, callL AP (.fn 34) [I (lst b.1 - t), .fn 40 [] [.ptr s.acts.length 0 0, .ptr s.acts.length 2 0, .ptr s.acts.length 1 0]] (s.push ⟨[.slice o 4 (a.1.map rowK), I a.2] :: [.slice o 4 (b.1.map rowK), I b.2] :: [I t] :: bx, []⟩) = some (I (lateI a b t), s.push ⟨[.slice o 4 (a.1.map rowK), I a.2] :: [.slice o 4 (b.1.map rowK), I b.2] :: [I t] :: bx, []⟩) := fun bx =>
   sort_Search (by omega) (by omega) fun i hi hi2 r => path_received_1 ha hb h1 h2 hi (by omega) ((hs.push _).push r) (box_keep (by rw [box_push]; rfl) r) (box_keep (by rw [box_push]; rfl) r) (box_keep (by rw [box_push]; rfl) r)
  have s2 : ∀ bx, callL AP (.fn 34) [I (lst b.1 - t), .fn 41 [] [.ptr s.acts.length 0 0, .ptr s.acts.length 2 0, .ptr s.acts.length 1 0]] (s.push ⟨[.slice o 4 (a.1.map rowK), I a.2] :: [.slice o 4 (b.1.map rowK), I b.2] :: [I t] :: bx, []⟩) = some (I (earlyI a b t), s.push ⟨[.slice o 4 (a.1.map rowK), I a.2] :: [.slice o 4 (b.1.map rowK), I b.2] :: [I t] :: bx, []⟩) := fun bx =>
   sort_Search (by omega) (by omega) fun i hi hi2 r => path_received_2 ha hb h1 h2 hi (by omega) ((hs.push _).push r) (box_keep (by rw [box_push]; rfl) r) (box_keep (by rw [box_push]; rfl) r) (box_keep (by rw [box_push]; rfl) r)
  have r1 := (search_spec (f := fun i => arrB a t b (t + i)) (N := lst b.1 - t) (by omega)).1
  have r2 := (search_spec (f := fun i => !misB a t b (t + i)) (N := lst b.1 - t) (by omega)).1
  rw [show search (fun i => arrB a t b (t + i)) (lst b.1 - t) = lateI a b t from rfl] at r1
  rw [show search (fun i => !misB a t b (t + i)) (lst b.1 - t) = earlyI a b t from rfl] at r2
  have w2 : IntKind.i64.wrap (earlyI a b t - 1) = earlyI a b t - 1 := wrap_id (by omega) (by omega)
  have w3 : IntKind.i64.wrap (t + max 0 (earlyI a b t - 1)) = t + max 0 (earlyI a b t - 1) := wrap_id (by omega) (by omega)
  have w4 : IntKind.i64.wrap (t + lateI a b t) = t + lateI a b t := wrap_id (by omega) (by omega)
  rw [callL_go (show AP 23 = some c_path_received from rfl) rfl]
  simp (maxSteps := 1000000) only [go_sem, b_path_received, hs, el, e1, w1, s1, s2, w2, w3, w4, Nat.reduceEqDiff, reduceCtorEq, Nat.reduceAdd, Nat.reduceMul, Nat.reduceSub, Int.reduceLT, Int.reduceLE, Int.reduceEq, Int.reduceAdd, Int.reduceSub, Int.reduceNeg, Int.reduceToNat, Int.cast_ofNat_Int, ↓reduceIte, Nat.reduceLeDiff, Nat.lt_add_one, Nat.reduceLT, Nat.zero_lt_one, ne_eq, not_true, not_false_eq_true]
end
end Go.Ax.Sx.Lt

namespace Go.Ax.Sx.Lt
open Go.Ax
set_option linter.unusedSimpArgs false
set_option linter.unusedVariables false
set_option maxRecDepth 100000
instance {p : List Kn × Int} {t : Int} : Decidable (ofT p t) := by unfold ofT; infer_instance
def recvE (a b : List Kn × Int) (t : Int) : Rcv := if ofT a t ∧ ofT b t then recv a b t else ⟨0, 0, 2⟩
def rtrip (a b : List Kn × Int) (t : Int) : Rcv :=
  if (recvE a b t).e = 0 then
    (if firstErr [(recvE b a (recvE a b t).lo).e, (recvE b a (recvE a b t).hi).e] = 0 then ⟨(recvE b a (recvE a b t).lo).lo, (recvE b a (recvE a b t).hi).hi, 0⟩
     else ⟨0, 0, firstErr [(recvE b a (recvE a b t).lo).e, (recvE b a (recvE a b t).hi).e]⟩)
  else ⟨0, 0, (recvE a b t).e⟩
section
variable {o : Own} {s : Sig} {a b : List Kn × Int} {t t' : Int}
theorem trackErr2 (ha : TOk a) (hb : TOk b) (hs : Ok s) : callL AP (.fn 19) [.slice .full 2 [rowT o a, rowT o b]] s = some (I 0, s) :=
 path_trackErr (L := [a, b]) (show 2 ≤ 2 by decide) (fun p hp => by
  rcases List.mem_cons.1 hp with rfl | hp
  ·exact ⟨ha.vt, ha.dw⟩
  ·rcases List.mem_cons.1 hp with rfl | hp
   ·exact ⟨hb.vt, hb.dw⟩
   ·cases hp) hs
theorem timeErr2 (ha : TOk a) (hb : TOk b) (hs : Ok s) : callL AP (.fn 20) [I t, .slice .full 2 [rowT o a, rowT o b]] s = some (I (if ofT a t ∧ ofT b t then 0 else 2), s) := by
 have := path_timeErr (o := o) (L := [a, b]) (t := t) (show 2 ≤ 2 by decide) (fun p hp => by
  rcases List.mem_cons.1 hp with rfl | hp
  ·exact ha.vt
  ·rcases List.mem_cons.1 hp with rfl | hp
   ·exact hb.vt
   ·cases hp) hs
 have e : (([a, b] : List (List Kn × Int)).all fun p => wi t (fst p.1) (lst p.1)) = decide (ofT a t ∧ ofT b t) := by
  simp only [List.all_cons, List.all_nil, Bool.and_true]
  unfold wi ofT
  simp only [Bool.decide_and]
 rw [e] at this
 simp only [decide_eq_true_eq] at this
 exact this
theorem path_DistanceAt (ho : o = .any ∨ o = .full) (ha : TOk a) (hb : TOk b) (h1 : ofT a t) (h2 : ofT b t) (hs : Ok s) : callL AP (.fn 12) [tvp o a, tvp o b, I t] s = some (.tuple [.agg [I (disLo (gp a t b t)), I (disHi (gp a t b t))], I 0], s) := by
 have e0 : ∀ r, callL AP (.fn 19) [.slice .full 2 [rowT o a, rowT o b]] (s.push r) = some (I 0, s.push r) := fun r => trackErr2 ha hb (hs.push r)
 have e1 : ∀ r, callL AP (.fn 20) [I t, .slice .full 2 [rowT o a, rowT o b]] (s.push r) = some (I 0, s.push r) := fun r => by
  have := timeErr2 (o := o) (t := t) ha hb (hs.push r)
  rwa [if_pos ⟨h1, h2⟩] at this
 have e2 : ∀ r, callL AP (.fn 21) [tvp o a, I t, tvp o b, I t] (s.push r) = some (.agg (rowG (gp a t b t)), s.push r) := fun r => path_between ha.vt h1.1 h1.2 hb.vt h2.1 h2.2 ha.dw hb.dw (hs.push r)
 have e3 : ∀ r, callL AP (.fn 22) [.agg (rowG (gp a t b t))] (s.push r) = some (.agg [I (disLo (gp a t b t)), I (disHi (gp a t b t))], s.push r) := fun r => path_gap_distances (gp_ok ha hb h1 h2) (hs.push r)
 generalize gp a t b t = g at *
 rw [callL_go (show AP 12 = some c_path_DistanceAt from rfl) rfl]
 rcases ho with rfl | rfl <;> simp (maxSteps := 1000000) only [go_sem, b_path_DistanceAt, hs, e0, e1, e2, e3, Nat.reduceEqDiff, reduceCtorEq, Nat.reduceAdd, Nat.reduceMul, Nat.reduceSub, Int.reduceLT, Int.reduceLE, Int.reduceEq, Int.reduceAdd, Int.reduceSub, Int.reduceNeg, Int.reduceToNat, Int.cast_ofNat_Int, ↓reduceIte, Nat.reduceLeDiff, Nat.lt_add_one, Nat.reduceLT, Nat.zero_lt_one, ne_eq, not_true, not_false_eq_true]
theorem path_ReceivedAt (ho : o = .any ∨ o = .full) (ha : TOk a) (hb : TOk b) (hs : Ok s) : callL AP (.fn 13) [tvp o a, tvp o b, I t] s = some (tuR (recvE a b t), s) := by
 have e0 : ∀ r, callL AP (.fn 19) [.slice .full 2 [rowT o a, rowT o b]] (s.push r) = some (I 0, s.push r) := fun r => trackErr2 ha hb (hs.push r)
 have e1 : ∀ r, callL AP (.fn 20) [I t, .slice .full 2 [rowT o a, rowT o b]] (s.push r) = some (I (if ofT a t ∧ ofT b t then 0 else 2), s.push r) := fun r => timeErr2 ha hb (hs.push r)
 unfold recvE
 by_cases h : ofT a t ∧ ofT b t
 ·have e3 : ∀ r, callL AP (.fn 23) [tvp o a, tvp o b, I t] (s.push r) = some (tuR (recv a b t), s.push r) := fun r => path_received ha hb h.1 h.2 (hs.push r)
  rw [if_pos h] at e1
  rw [if_pos h]
  generalize recv a b t = rv at *
  rw [callL_go (show AP 13 = some c_path_ReceivedAt from rfl) rfl]
  rcases ho with rfl | rfl <;> simp (maxSteps := 1000000) only [go_sem, b_path_ReceivedAt, hs, e0, e1, e3, Nat.reduceEqDiff, reduceCtorEq, Nat.reduceAdd, Nat.reduceMul, Nat.reduceSub, Int.reduceLT, Int.reduceLE, Int.reduceEq, Int.reduceAdd, Int.reduceSub, Int.reduceNeg, Int.reduceToNat, Int.cast_ofNat_Int, ↓reduceIte, Nat.reduceLeDiff, Nat.lt_add_one, Nat.reduceLT, Nat.zero_lt_one, ne_eq, not_true, not_false_eq_true]
 ·rw [if_neg h] at e1
  rw [if_neg h]
  rw [callL_go (show AP 13 = some c_path_ReceivedAt from rfl) rfl]
  rcases ho with rfl | rfl <;> simp (maxSteps := 1000000) only [go_sem, b_path_ReceivedAt, hs, e0, e1, Nat.reduceEqDiff, reduceCtorEq, Nat.reduceAdd, Nat.reduceMul, Nat.reduceSub, Int.reduceLT, Int.reduceLE, Int.reduceEq, Int.reduceAdd, Int.reduceSub, Int.reduceNeg, Int.reduceToNat, Int.cast_ofNat_Int, ↓reduceIte, Nat.reduceLeDiff, Nat.lt_add_one, Nat.reduceLT, Nat.zero_lt_one, ne_eq, not_true, not_false_eq_true]
theorem path_RoundTrip (ho : o = .any ∨ o = .full) (ha : TOk a) (hb : TOk b) (hs : Ok s) : callL AP (.fn 14) [tvp o a, tvp o b, I t] s = some (tuR (rtrip a b t), s) := by
 have e0 : ∀ r, callL AP (.fn 13) [tvp o a, tvp o b, I t] (s.push r) = some (tuR (recvE a b t), s.push r) := fun r => path_ReceivedAt ho ha hb (hs.push r)
 unfold rtrip
 have e1 : ∀ r, callL AP (.fn 13) [tvp o b, tvp o a, I (recvE a b t).lo] (s.push r) = some (tuR (recvE b a (recvE a b t).lo), s.push r) := fun r => path_ReceivedAt ho hb ha (hs.push r)
 have e2 : ∀ r, callL AP (.fn 13) [tvp o b, tvp o a, I (recvE a b t).hi] (s.push r) = some (tuR (recvE b a (recvE a b t).hi), s.push r) := fun r => path_ReceivedAt ho hb ha (hs.push r)
 generalize recvE a b t = r0 at *
 generalize recvE b a r0.lo = r1 at *
 generalize recvE b a r0.hi = r2 at *
 obtain ⟨l0, h0, x0⟩ := r0
 obtain ⟨l1, h1, x1⟩ := r1
 obtain ⟨l2, h2, x2⟩ := r2
 by_cases c0 : x0 = 0
 ·subst c0
  simp only [if_true]
  generalize hq : firstErr [x1, x2] = fe
  have e3 : ∀ r : Rec, callL AP (.fn 24) [.slice .full 1 [[I x1], [I x2]]] (s.push r) = some (I fe, s.push r) := fun r => by rw [path_first2, hq]
  by_cases c1 : fe = 0
  ·subst c1
   rw [callL_go (show AP 14 = some c_path_RoundTrip from rfl) rfl]
   simp (maxSteps := 1000000) only [go_sem, b_path_RoundTrip, hs, e0, e1, e2, e3, Nat.reduceEqDiff, reduceCtorEq, Nat.reduceAdd, Nat.reduceMul, Nat.reduceSub, Int.reduceLT, Int.reduceLE, Int.reduceEq, Int.reduceAdd, Int.reduceSub, Int.reduceNeg, Int.reduceToNat, Int.cast_ofNat_Int, ↓reduceIte, Nat.reduceLeDiff, Nat.lt_add_one, Nat.reduceLT, Nat.zero_lt_one, ne_eq, not_true, not_false_eq_true]
  ·have hz : decide (fe ≠ 0) = true := by simp [c1]
   rw [if_neg c1]
   rw [callL_go (show AP 14 = some c_path_RoundTrip from rfl) rfl]
   simp (maxSteps := 1000000) only [go_sem, b_path_RoundTrip, hs, e0, e1, e2, e3, hz, c1, Nat.reduceEqDiff, reduceCtorEq, Nat.reduceAdd, Nat.reduceMul, Nat.reduceSub, Int.reduceLT, Int.reduceLE, Int.reduceEq, Int.reduceAdd, Int.reduceSub, Int.reduceNeg, Int.reduceToNat, Int.cast_ofNat_Int, ↓reduceIte, Nat.reduceLeDiff, Nat.lt_add_one, Nat.reduceLT, Nat.zero_lt_one, ne_eq, not_true, not_false_eq_true]
 ·have hz : decide (x0 ≠ 0) = true := by simp [c0]
  simp only [if_neg c0]
  rw [callL_go (show AP 14 = some c_path_RoundTrip from rfl) rfl]
  simp (maxSteps := 1000000) only [go_sem, b_path_RoundTrip, hs, e0, hz, c0, Nat.reduceEqDiff, reduceCtorEq, Nat.reduceAdd, Nat.reduceMul, Nat.reduceSub, Int.reduceLT, Int.reduceLE, Int.reduceEq, Int.reduceAdd, Int.reduceSub, Int.reduceNeg, Int.reduceToNat, Int.cast_ofNat_Int, ↓reduceIte, Nat.reduceLeDiff, Nat.lt_add_one, Nat.reduceLT, Nat.zero_lt_one, ne_eq, not_true, not_false_eq_true]
end
end Go.Ax.Sx.Lt

namespace Go.Ax.Sx.Lt
open Go.Ax
set_option linter.unusedSimpArgs false
set_option linter.unusedVariables false
set_option maxRecDepth 100000
theorem le_of_sq {x y : Int} (hy : 0 ≤ y) (h : x * x ≤ y * y) : x ≤ y := by
 rcases Int.lt_or_le y x with h1 | h1
 ·exfalso
  have a := Int.mul_le_mul_of_nonneg_right (show y + 1 ≤ x from h1) (show 0 ≤ x by omega)
  have b := Int.mul_le_mul_of_nonneg_left (show y + 1 ≤ x from h1) (show 0 ≤ y + 1 by omega)
  have c : (y + 1) * (y + 1) = y * y + 2 * y + 1 := by grind
  omega
 ·exact h1
theorem sq_le {x y : Int} (h1 : -y ≤ x) (h2 : x ≤ y) : x * x ≤ y * y := (sq_bound h1 h2).2
theorem sq_nn (x : Int) : 0 ≤ x * x := by
 rcases Int.le_total 0 x with h | h
 ·exact Int.mul_nonneg h h
 ·have := Int.mul_nonneg (show 0 ≤ -x by omega) (show 0 ≤ -x by omega)
  rwa [Int.neg_mul_neg] at this
theorem vdot_nn {u : V3} : 0 ≤ vdot u u := by
 have := sq_nn u.1; have := sq_nn u.2.1; have := sq_nn u.2.2
 unfold vdot; omega
theorem cauchy {u w : V3} {a b : Int} (ha : 0 ≤ a) (hb : 0 ≤ b) (hu : vdot u u ≤ a * a) (hw : vdot w w ≤ b * b) : vdot u w ≤ a * b := by
 refine le_of_sq (Int.mul_nonneg ha hb) ?_
 have e : vdot u u * vdot w w = vdot u w * vdot u w + ((u.1 * w.2.1 - u.2.1 * w.1) * (u.1 * w.2.1 - u.2.1 * w.1) + (u.1 * w.2.2 - u.2.2 * w.1) * (u.1 * w.2.2 - u.2.2 * w.1) + (u.2.1 * w.2.2 - u.2.2 * w.2.1) * (u.2.1 * w.2.2 - u.2.2 * w.2.1)) := by
  unfold vdot; grind
 have h1 := Int.mul_le_mul_of_nonneg_right hu (vdot_nn (u := w))
 have h2 := Int.mul_le_mul_of_nonneg_left hw (Int.mul_nonneg ha ha)
 have h3 : a * a * (b * b) = a * b * (a * b) := by grind
 have n1 := sq_nn (u.1 * w.2.1 - u.2.1 * w.1)
 have n2 := sq_nn (u.1 * w.2.2 - u.2.2 * w.1)
 have n3 := sq_nn (u.2.1 * w.2.2 - u.2.2 * w.2.1)
 omega
theorem triangle {u w : V3} {a b : Int} (ha : 0 ≤ a) (hb : 0 ≤ b) (hu : vdot u u ≤ a * a) (hw : vdot w w ≤ b * b) : vdot (vadd u w) (vadd u w) ≤ (a + b) * (a + b) := by
 have h := cauchy ha hb hu hw
 have e : vdot (vadd u w) (vadd u w) = vdot u u + 2 * vdot u w + vdot w w := by unfold vdot vadd; grind
 have e2 : (a + b) * (a + b) = a * a + 2 * (a * b) + b * b := by grind
 omega
theorem vdot_mul {u : V3} {k : Int} : vdot (vmul u k) (vmul u k) = k * k * vdot u u := by unfold vdot vmul; grind
def wayP (p q : V3 × Int) : V3 := vsub (vmul q.1 p.2) (vmul p.1 q.2)
def Dle (p q : V3 × Int) (n : Int) : Prop := vdot (wayP p q) (wayP p q) ≤ sqd n (p.2 * q.2)
theorem Dle.tri {p q r : V3 × Int} {n m : Int} (hp : 1 ≤ p.2) (hq : 1 ≤ q.2) (hr : 1 ≤ r.2) (hn : 0 ≤ n) (hm : 0 ≤ m) (h1 : Dle p q n) (h2 : Dle q r m) : Dle p r (n + m) := by
 obtain ⟨p, pd⟩ := p
 obtain ⟨q, qd⟩ := q
 obtain ⟨r, rd⟩ := r
 unfold Dle sqd at *
 simp only at hp hq hr h1 h2 ⊢
 have e : vmul (wayP (p, pd) (r, rd)) qd = vadd (vmul (wayP (p, pd) (q, qd)) rd) (vmul (wayP (q, qd) (r, rd)) pd) := by
  unfold wayP vmul vadd vsub; grind
 generalize wayP (p, pd) (q, qd) = u at *
 generalize wayP (q, qd) (r, rd) = w at *
 generalize wayP (p, pd) (r, rd) = x at *
 have a1 : vdot (vmul u rd) (vmul u rd) ≤ (n * (pd * qd) * rd) * (n * (pd * qd) * rd) := by
  rw [vdot_mul]
  have := Int.mul_le_mul_of_nonneg_left h1 (sq_nn rd)
  have e2 : rd * rd * (n * (pd * qd) * (n * (pd * qd))) = (n * (pd * qd) * rd) * (n * (pd * qd) * rd) := by grind
  omega
 have a2 : vdot (vmul w pd) (vmul w pd) ≤ (m * (qd * rd) * pd) * (m * (qd * rd) * pd) := by
  rw [vdot_mul]
  have := Int.mul_le_mul_of_nonneg_left h2 (sq_nn pd)
  have e2 : pd * pd * (m * (qd * rd) * (m * (qd * rd))) = (m * (qd * rd) * pd) * (m * (qd * rd) * pd) := by grind
  omega
 have n1 : 0 ≤ n * (pd * qd) * rd := Int.mul_nonneg (Int.mul_nonneg hn (Int.mul_nonneg (by omega) (by omega))) (by omega)
 have n2 : 0 ≤ m * (qd * rd) * pd := Int.mul_nonneg (Int.mul_nonneg hm (Int.mul_nonneg (by omega) (by omega))) (by omega)
 have t := triangle n1 n2 a1 a2
 rw [← e, vdot_mul] at t
 have e3 : (n * (pd * qd) * rd + m * (qd * rd) * pd) * (n * (pd * qd) * rd + m * (qd * rd) * pd) = qd * qd * ((n + m) * (pd * rd) * ((n + m) * (pd * rd))) := by grind
 rw [e3] at t
 exact Int.le_of_mul_le_mul_left t (Int.mul_pos (by omega) (by omega))
theorem Dle.symm {p q : V3 × Int} {n : Int} (h : Dle p q n) : Dle q p n := by
 unfold Dle at *
 have e : vdot (wayP q p) (wayP q p) = vdot (wayP p q) (wayP p q) := by unfold wayP vdot vsub vmul; grind
 rw [e, Int.mul_comm q.2]; exact h
theorem Dle.mono {p q : V3 × Int} {n m : Int} (hp : 1 ≤ p.2) (hq : 1 ≤ q.2) (hn : 0 ≤ n) (hnm : n ≤ m) (h : Dle p q n) : Dle p q m := by
 unfold Dle sqd at *
 have hd : 0 ≤ p.2 * q.2 := Int.mul_nonneg (by omega) (by omega)
 have h1 := Int.mul_le_mul_of_nonneg_right hnm hd
 have h2 := Int.mul_nonneg hn hd
 exact Int.le_trans h (sq_le (by omega) h1)
section
variable {l : List Kn} {t t' : Int}
def xat (a b : Kn) (t : Int) : V3 := vadd (vmul a.p (b.t - t)) (vmul b.p (t - a.t))
theorem plc_rep (hv : VT l) {i : Nat} {a b : Kn} (ha : l[i]? = some a) (hb : l[i + 1]? = some b) (h1 : a.t ≤ t) (h2 : t ≤ b.t) : vmul (plc l t).1 (b.t - a.t) = vmul (xat a b t) (plc l t).2 := by
 have hlt := hv.next ha hb
 have hle : t ≤ lst l := by
  obtain ⟨c, hc⟩ := get_some (l := l) (k := l.length - 1) (by have := hv.pos; omega)
  have := hv.mono' (i := i + 1) (j := l.length - 1) (by have := (List.getElem?_eq_some_iff.1 hb).1; omega) hb hc
  unfold lst; rw [hc]; show t ≤ c.t; omega
 have hge : fst l ≤ t := by
  obtain ⟨c, hc⟩ := get_some hv.pos
  have := hv.mono' (Nat.zero_le i) hc ha
  unfold fst; rw [hc]; show c.t ≤ t; omega
 by_cases hat : a.t = t
 ·have hs : Seg l t i a := ⟨ha, by omega, fun j c hj hc => by
   have hjl := (List.getElem?_eq_some_iff.1 ha).1
   obtain ⟨d, hd⟩ := get_some (l := l) (k := j + 1) (by omega)
   have h3 := hv.next hc hd
   have h4 := hv.mono' (i := j + 1) (j := i) (by omega) hd ha
   omega⟩
  have : plc l t = (a.p, 1) := by unfold plc; rw [hs.eq, ha]; simp [hat]
  rw [this]
  subst hat
  unfold xat vmul vadd
  simp only
  refine Prod.ext ?_ (Prod.ext ?_ ?_) <;> simp only <;> grind
 ·have hs : Seg l t (i + 1) b := ⟨hb, h2, fun j c hj hc => by
   have h4 := hv.mono' (i := j) (j := i) (by omega) hc ha
   omega⟩
  by_cases hbt : b.t = t
  ·have : plc l t = (b.p, 1) := by unfold plc; rw [hs.eq, hb]; simp [hbt]
   rw [this]
   subst hbt
   unfold xat vmul vadd
   simp only
   refine Prod.ext ?_ (Prod.ext ?_ ?_) <;> simp only <;> grind
  ·have : plc l t = (vadd (vmul a.p (b.t - a.t)) (vmul (vsub b.p a.p) (t - a.t)), b.t - a.t) := by unfold plc; rw [hs.eq, hb]; simp [hbt, ha]
   rw [this]
   unfold xat vmul vadd vsub
   simp only
   refine Prod.ext ?_ (Prod.ext ?_ ?_) <;> simp only <;> grind
theorem lip1 (hv : VT l) (h1 : fst l ≤ t) (h2 : t + 1 ≤ lst l) : Dle (plc l t) (plc l (t + 1)) 1 := by
 obtain ⟨j, b, hs⟩ := seg_ex hv h2
 have hpk := plc_ok hv h1 (by omega)
 have hqk := plc_ok hv (t := t + 1) (by omega) h2
 cases j with
 | zero =>
  exfalso
  have h3 := hs.le
  unfold fst at h1
  rw [hs.get] at h1
  have : b.t ≤ t := h1
  omega
 | succ i =>
  obtain ⟨a, ha⟩ := get_some (l := l) (k := i) (by have := (List.getElem?_eq_some_iff.1 hs.get).1; omega)
  have hat := hs.lt i a (Nat.lt_succ_self i) ha
  have hst := kStep_some (hv.step i a b ha hs.get)
  have r1 := plc_rep (t := t) hv ha hs.get (by omega) (by have := hs.le; omega)
  have r2 := plc_rep (t := t + 1) hv ha hs.get (by omega) hs.le
  have d1 := hpk.d1
  have d2 := hqk.d1
  generalize plc l t = p at *
  generalize plc l (t + 1) = q at *
  obtain ⟨p, pd⟩ := p
  obtain ⟨q, qd⟩ := q
  unfold Dle sqd
  simp only at r1 r2 d1 d2 ⊢
  have e : vmul (wayP (p, pd) (q, qd)) (b.t - a.t) = vmul (vsub b.p a.p) (pd * qd) := by
   have x1 : vmul (wayP (p, pd) (q, qd)) (b.t - a.t) = vsub (vmul (vmul q (b.t - a.t)) pd) (vmul (vmul p (b.t - a.t)) qd) := by
    unfold wayP vmul vsub
    refine Prod.ext ?_ (Prod.ext ?_ ?_) <;> simp only <;> grind
   rw [x1, r1, r2]
   unfold xat vmul vsub vadd
   refine Prod.ext ?_ (Prod.ext ?_ ?_) <;> simp only <;> grind
  have v := vdot_mul (u := wayP (p, pd) (q, qd)) (k := b.t - a.t)
  rw [e, vdot_mul] at v
  have n0 := vdot_nn (u := vsub b.p a.p)
  have m1 := Int.mul_le_mul_of_nonneg_left (show vdot (vsub b.p a.p) (vsub b.p a.p) ≤ (b.t - a.t) * (b.t - a.t) by omega) (sq_nn (pd * qd))
  rw [v] at m1
  have e3 : pd * qd * (pd * qd) * ((b.t - a.t) * (b.t - a.t)) = (b.t - a.t) * (b.t - a.t) * (1 * (pd * qd) * (1 * (pd * qd))) := by grind
  rw [e3] at m1
  exact Int.le_of_mul_le_mul_left m1 (Int.mul_pos (by omega) (by omega))
theorem Dle.self {p : V3 × Int} : Dle p p 0 := by
 unfold Dle wayP sqd
 have : vsub (vmul p.1 p.2) (vmul p.1 p.2) = (0, 0, 0) := by unfold vsub; simp
 rw [this]; simp [vdot]
theorem lip (hv : VT l) : ∀ (n : Nat) {t : Int}, fst l ≤ t → t + n ≤ lst l → Dle (plc l t) (plc l (t + n)) n
 | 0, t, h1, h2 => by
  rw [show t + ((0 : Nat) : Int) = t by omega]; exact Dle.self
 | n + 1, t, h1, h2 => by
  have a := lip hv n (t := t) h1 (by omega)
  have b := lip1 hv (t := t + n) (by omega) (by omega)
  have := Dle.tri (plc_ok hv h1 (by omega)).d1 (plc_ok hv (t := t + n) (by omega) (by omega)).d1 (plc_ok hv (t := t + n + 1) (by omega) (by omega)).d1 (by omega) (by decide) a b
  rw [show t + ((n + 1 : Nat) : Int) = t + n + 1 by omega, show ((n + 1 : Nat) : Int) = (n : Int) + 1 by omega]
  exact this
theorem lip' (hv : VT l) (h1 : fst l ≤ t) (h2 : t ≤ t') (h3 : t' ≤ lst l) : Dle (plc l t) (plc l t') (t' - t) := by
 have := lip hv (t' - t).toNat (t := t) h1 (by omega)
 rw [show (((t' - t).toNat : Nat) : Int) = t' - t by omega, show t + (t' - t) = t' by omega] at this
 exact this
end
end Go.Ax.Sx.Lt

namespace Go.Ax.Sx.Lt
open Go.Ax
set_option linter.unusedSimpArgs false
set_option linter.unusedVariables false
set_option maxRecDepth 100000
def shK (v : V3) (k : Kn) : Kn := ⟨k.t, k.x + v.1, k.y + v.2.1, k.z + v.2.2⟩
def shL (v : V3) (l : List Kn) : List Kn := l.map (shK v)
section
variable {v w : V3} {l l' : List Kn} {t t' : Int}
theorem sh_get {i : Nat} : (shL v l)[i]? = (l[i]?).map (shK v) := by unfold shL; rw [List.getElem?_map]
theorem sh_len : (shL v l).length = l.length := by unfold shL; rw [List.length_map]
theorem sh_fst : fst (shL v l) = fst l := by
 unfold fst; rw [sh_get]; cases l[0]? <;> rfl
theorem sh_lst : lst (shL v l) = lst l := by
 unfold lst; rw [sh_get, sh_len]; cases l[l.length - 1]? <;> rfl
theorem sh_seg : segI (shL v l) t = segI l t := by
 unfold segI shL
 rw [List.findIdx_map]; rfl
theorem sh_plc : plc (shL v l) t = (if (l[segI l t]?).isSome ∧ ((∃ b, l[segI l t]? = some b ∧ b.t = t) ∨ (l[segI l t - 1]?).isSome) then (vadd (plc l t).1 (vmul v (plc l t).2), (plc l t).2) else ((0, 0, 0), 1)) := by
 unfold plc
 rw [sh_seg, sh_get, sh_get]
 cases h : l[segI l t]? with
 | none => simp
 | some b =>
  simp only [Option.map_some, Option.isSome_some, true_and, Option.some.injEq, exists_eq_left']
  by_cases hb : b.t = t
  ·have : (shK v b).t = t := hb
   simp only [this, hb, if_true, true_or]
   unfold Kn.p shK vadd vmul
   simp
  ·have : ¬ (shK v b).t = t := hb
   simp only [this, hb, if_false, false_or]
   cases h2 : l[segI l t - 1]? with
   | none => simp
   | some a =>
    simp only [Option.map_some, Option.isSome_some, if_true]
    unfold Kn.p shK vadd vmul vsub
    simp only
    refine Prod.ext (Prod.ext ?_ (Prod.ext ?_ ?_)) ?_ <;> simp only <;> grind
theorem sh_plc' (hv : VT l) (h1 : fst l ≤ t) (h2 : t ≤ lst l) : plc (shL v l) t = (vadd (plc l t).1 (vmul v (plc l t).2), (plc l t).2) := by
 rw [sh_plc]
 cases at_ex hv h1 h2 with
 | knot i b h e p => rw [if_pos]; rw [h.eq, h.get]; exact ⟨rfl, .inl ⟨b, rfl, e⟩⟩
 | mid i a b h ha c1 c2 p => rw [if_pos]; rw [h.eq, h.get, Nat.add_sub_cancel, ha]; exact ⟨rfl, .inr rfl⟩
end
structure Enc (a c : Gp) : Prop where
 ea : a.dbt = 0
 ed : c.den = a.den
 near1 : max 0 (ab c.v.1 - c.dbt * c.den) ≤ ab a.v.1 ∧ ab a.v.1 ≤ ab c.v.1 + c.dbt * c.den
 near2 : max 0 (ab c.v.2.1 - c.dbt * c.den) ≤ ab a.v.2.1 ∧ ab a.v.2.1 ≤ ab c.v.2.1 + c.dbt * c.den
 near3 : max 0 (ab c.v.2.2 - c.dbt * c.den) ≤ ab a.v.2.2 ∧ ab a.v.2.2 ≤ ab c.v.2.2 + c.dbt * c.den
theorem enc_gap {p q : V3 × Int} {v w : V3} {d d' : Int} (hp : 1 ≤ p.2) (hq : 1 ≤ q.2) (hv : vin d v) (hw : vin d' w) :
  Enc (gapP p q (0 + 0)) (gapP (vadd p.1 (vmul v p.2), p.2) (vadd q.1 (vmul w q.2), q.2) (d + d')) := by
 obtain ⟨⟨p1, p2, p3⟩, pd⟩ := p
 obtain ⟨⟨q1, q2, q3⟩, qd⟩ := q
 obtain ⟨v1, v2, v3⟩ := v
 obtain ⟨w1, w2, w3⟩ := w
 simp only [vin] at hp hq hv hw
 have hD : 0 ≤ pd * qd := Int.mul_nonneg (by omega) (by omega)
 have key : ∀ x y u z : Int, -d ≤ u → u ≤ d → -d' ≤ z → z ≤ d' → max 0 (ab ((y + z * qd) * pd - (x + u * pd) * qd) - (d + d') * (pd * qd)) ≤ ab (y * pd - x * qd) ∧ ab (y * pd - x * qd) ≤ ab ((y + z * qd) * pd - (x + u * pd) * qd) + (d + d') * (pd * qd) := fun x y u z h1 h2 h3 h4 => by
  have e : (y + z * qd) * pd - (x + u * pd) * qd = y * pd - x * qd + (z - u) * (pd * qd) := by grind
  have m1 := Int.mul_le_mul_of_nonneg_right (show z - u ≤ d + d' by omega) hD
  have m2 := Int.mul_le_mul_of_nonneg_right (show -(d + d') ≤ z - u by omega) hD
  rw [Int.neg_mul] at m2
  rw [e]
  generalize (z - u) * (pd * qd) = k at *
  generalize (d + d') * (pd * qd) = m at *
  generalize y * pd - x * qd = r at *
  show max 0 (max (r + k) (-(r + k)) - m) ≤ max r (-r) ∧ max r (-r) ≤ max (r + k) (-(r + k)) + m
  omega
 exact ⟨rfl, rfl, key p1 q1 v1 w1 hv.1.1 hv.1.2 hw.1.1 hw.1.2, key p2 q2 v2 w2 hv.2.1.1 hv.2.1.2 hw.2.1.1 hw.2.1.2, key p3 q3 v3 w3 hv.2.2.1 hv.2.2.2 hw.2.2.1 hw.2.2.2⟩
theorem ab_sq {x : Int} : ab x * ab x = x * x := by
 show max x (-x) * max x (-x) = x * x
 rcases Int.le_total x (-x) with h | h
 ·rw [Int.max_eq_right h, Int.neg_mul_neg]
 ·rw [Int.max_eq_left h]
theorem ab_nn {x : Int} : 0 ≤ ab x := by show 0 ≤ max x (-x); omega
theorem nearS_zero {g : Gp} (h : g.dbt = 0) : nearS g = vdot g.v g.v := by
 have e : ∀ x, nearF g (ab x) = ab x := fun x => by
  unfold nearF; rw [h, Int.zero_mul]; have := ab_nn (x := x); omega
 unfold nearS sumS
 simp only [e, ab_sq]; rfl
theorem farS_zero {g : Gp} (h : g.dbt = 0) : farS g = vdot g.v g.v := by
 have e : ∀ x, farF g (ab x) = ab x := fun x => by
  unfold farF; rw [h, Int.zero_mul]; omega
 unfold farS sumS
 simp only [e, ab_sq]; rfl
theorem Enc.near {a c : Gp} (h : Enc a c) : nearS c ≤ nearS a := by
 obtain ⟨h0, hd, h1, h2, h3⟩ := h
 have e : ∀ x, nearF a (ab x) = ab x := fun x => by
  unfold nearF; rw [h0, Int.zero_mul]; have := ab_nn (x := x); omega
 unfold nearS sumS
 simp only [e]
 have s1 := sq_le (x := nearF c (ab c.v.1)) (y := ab a.v.1) (by unfold nearF; have := ab_nn (x := a.v.1); omega) h1.1
 have s2 := sq_le (x := nearF c (ab c.v.2.1)) (y := ab a.v.2.1) (by unfold nearF; have := ab_nn (x := a.v.2.1); omega) h2.1
 have s3 := sq_le (x := nearF c (ab c.v.2.2)) (y := ab a.v.2.2) (by unfold nearF; have := ab_nn (x := a.v.2.2); omega) h3.1
 omega
theorem Enc.far {a c : Gp} (h : Enc a c) : farS a ≤ farS c := by
 obtain ⟨h0, hd, h1, h2, h3⟩ := h
 have e : ∀ x, farF a (ab x) = ab x := fun x => by
  unfold farF; rw [h0, Int.zero_mul]; omega
 unfold farS sumS
 simp only [e]
 have s1 := sq_le (x := ab a.v.1) (y := farF c (ab c.v.1)) (by unfold farF; have := ab_nn (x := a.v.1); omega) h1.2
 have s2 := sq_le (x := ab a.v.2.1) (y := farF c (ab c.v.2.1)) (by unfold farF; have := ab_nn (x := a.v.2.1); omega) h2.2
 have s3 := sq_le (x := ab a.v.2.2) (y := farF c (ab c.v.2.2)) (by unfold farF; have := ab_nn (x := a.v.2.2); omega) h3.2
 omega
theorem sqd_mono {n m d : Int} (h0 : 0 ≤ n) (h : n ≤ m) (hd : 0 ≤ d) : sqd n d ≤ sqd m d := by
 unfold sqd
 have h1 := Int.mul_le_mul_of_nonneg_right h hd
 have h2 := Int.mul_nonneg h0 hd
 exact sq_le (by omega) h1
theorem search_le {f g : Int → Bool} {N : Int} (hN : 0 ≤ N) (hfg : ∀ i, 0 ≤ i → i < N → f i = true → g i = true) (hm : ∀ i j, 0 ≤ i → i ≤ j → j < N → g i = true → g j = true) : search g N ≤ search f N := by
 obtain ⟨⟨a1, a2⟩, a3, a4⟩ := search_spec (f := f) hN
 obtain ⟨⟨b1, b2⟩, b3, b4⟩ := search_spec (f := g) hN
 generalize search f N = x at *
 generalize search g N = y at *
 rcases Int.lt_or_le x y with h | h
 ·exfalso
  rcases b3 with b3 | b3
  ·omega
  ·rcases a4 with a4 | a4
   ·omega
   ·have := hm x (y - 1) a1 (by omega) (by omega) (hfg x a1 (by omega) a4)
    rw [this] at b3; cases b3
 ·exact h
theorem Enc.lo {a c : Gp} (h : Enc a c) (hd : 0 ≤ a.den) : disLo c ≤ disLo a := by
 unfold disLo
 refine search_le (by decide) (fun i h1 h2 hf => ?_) fun i j h1 h2 h3 hg => ?_
 ·rw [decide_eq_true_eq] at hf ⊢
  have := h.near
  rw [h.ed]; omega
 ·rw [decide_eq_true_eq] at hg ⊢
  have := sqd_mono (n := i + 1) (m := j + 1) (by omega) (by omega) (d := c.den) (by rw [h.ed]; exact hd)
  omega
theorem Enc.hi {a c : Gp} (h : Enc a c) (hd : 0 ≤ a.den) : disHi a ≤ disHi c := by
 unfold disHi
 refine search_le (by decide) (fun i h1 h2 hf => ?_) fun i j h1 h2 h3 hg => ?_
 ·rw [Bool.not_eq_true', decide_eq_false_iff_not] at hf ⊢
  have := h.far
  rw [h.ed] at hf; omega
 ·rw [Bool.not_eq_true', decide_eq_false_iff_not] at hg ⊢
  have := sqd_mono (n := i) (m := j) h1 h2 hd
  omega
end Go.Ax.Sx.Lt

namespace Go.Ax.Sx.Lt
open Go.Ax
set_option linter.unusedSimpArgs false
set_option linter.unusedVariables false
set_option maxRecDepth 100000
section
variable {l l' : List Kn} {t t' r r' : Int}
abbrev tru (l : List Kn) : List Kn × Int := (l, 0)
theorem arr_iff : arrB (tru l) t (tru l') r = true ↔ Dle (plc l t) (plc l' r) (r - t) := by
 unfold arrB
 have e : farS (gp (tru l) t (tru l') r) = vdot (wayP (plc l t) (plc l' r)) (wayP (plc l t) (plc l' r)) := farS_zero (g := gp (tru l) t (tru l') r) rfl
 rw [e]
 simp only [Bool.not_eq_true', decide_eq_false_iff_not]
 unfold Dle
 show ¬ sqd (r - t) ((plc l t).2 * (plc l' r).2) < _ ↔ _
 omega
theorem mis_arr : misB (tru l) t (tru l') r = !arrB (tru l) t (tru l') r := by
 unfold arrB misB
 rw [nearS_zero (g := gp (tru l) t (tru l') r) rfl, farS_zero (g := gp (tru l) t (tru l') r) rfl, Bool.not_not]
theorem arr_late (hv : VT l) (hv' : VT l') (h1 : ofT (tru l) t) (h2 : fst l' ≤ r) (h3 : t ≤ r) (h4 : r ≤ r') (h5 : r' ≤ lst l') (h : arrB (tru l) t (tru l') r = true) : arrB (tru l) t (tru l') r' = true := by
 rw [arr_iff] at h ⊢
 have a := lip' hv' h2 h4 h5
 have := Dle.tri (plc_ok hv h1.1 h1.2).d1 (plc_ok hv' h2 (by omega)).d1 (plc_ok hv' (by omega) h5).d1 (by omega) (by omega) h a
 rwa [show r - t + (r' - r) = r' - t by omega] at this
theorem arr_early (hv : VT l) (hv' : VT l') (h1 : fst l ≤ t) (h2 : t ≤ t') (h3 : t' ≤ lst l) (h4 : ofT (tru l') r) (h5 : t' ≤ r) (h : arrB (tru l) t' (tru l') r = true) : arrB (tru l) t (tru l') r = true := by
 rw [arr_iff] at h ⊢
 have a := lip' hv h1 h2 h3
 have := Dle.tri (plc_ok hv h1 (by omega)).d1 (plc_ok hv (t := t') (by omega) h3).d1 (plc_ok hv' h4.1 h4.2).d1 (by omega) (by omega) a h
 rwa [show t' - t + (r - t') = r - t by omega] at this
theorem early_late : earlyI (tru l) (tru l') t = lateI (tru l) (tru l') t := by
 unfold earlyI lateI
 refine search_congr fun i _ _ => ?_
 rw [mis_arr, Bool.not_not]
theorem late_spec (h2 : t ≤ lst l') : 0 ≤ lateI (tru l) (tru l') t ∧ t + lateI (tru l) (tru l') t ≤ lst l' := by
 have := (search_spec (f := fun i => arrB (tru l) t (tru l') (t + i)) (N := lst l' - t) (by omega)).1
 unfold lateI
 simp only at this ⊢
 omega
theorem late_mono (hv : VT l) (hv' : VT l') (h1 : ofT (tru l) t) (h2 : ofT (tru l') t) (h3 : ofT (tru l) t') (h4 : ofT (tru l') t') (h5 : t ≤ t') : t + lateI (tru l) (tru l') t ≤ t' + lateI (tru l) (tru l') t' := by
 obtain ⟨⟨a1, a2⟩, a3, a4⟩ := search_spec (f := fun i => arrB (tru l) t (tru l') (t + i)) (N := lst l' - t) (by have := h2.2; simp only at this; omega)
 obtain ⟨⟨b1, b2⟩, b3, b4⟩ := search_spec (f := fun i => arrB (tru l) t' (tru l') (t' + i)) (N := lst l' - t') (by have := h4.2; simp only at this; omega)
 rw [show search (fun i => arrB (tru l) t (tru l') (t + i)) (lst l' - t) = lateI (tru l) (tru l') t from rfl] at a1 a2 a3 a4
 rw [show search (fun i => arrB (tru l) t' (tru l') (t' + i)) (lst l' - t') = lateI (tru l) (tru l') t' from rfl] at b1 b2 b3 b4
 generalize lateI (tru l) (tru l') t = x at *
 generalize lateI (tru l) (tru l') t' = y at *
 have f1 := h1.1; have f2 := h1.2; have f3 := h2.1; have f4 := h2.2; have f5 := h3.1; have f6 := h3.2; have f7 := h4.1; have f8 := h4.2
 simp only at f1 f2 f3 f4 f5 f6 f7 f8
 rcases Int.lt_or_le (t' + y) (t + x) with h | h
 ·exfalso
  rcases b4 with b4 | b4
  ·omega
  ·rcases a3 with a3 | a3
   ·omega
   ·have c1 := arr_early hv hv' f1 h5 f6 ⟨by show fst l' ≤ t' + y; omega, by show t' + y ≤ lst l'; omega⟩ (by omega) b4
    have c2 := arr_late hv hv' (r := t' + y) (r' := t + (x - 1)) h1 (by omega) (by omega) (by omega) (by omega) c1
    rw [c2] at a3; cases a3
 ·exact h
theorem recvE_true (h1 : ofT (tru l) t) (h2 : ofT (tru l') t) : recvE (tru l) (tru l') t = if arrB (tru l) t (tru l') (lst l') = true then ⟨t + max 0 (lateI (tru l) (tru l') t - 1), t + lateI (tru l) (tru l') t, 0⟩ else ⟨0, 0, 12⟩ := by
 unfold recvE
 rw [if_pos ⟨h1, h2⟩]
 unfold recv
 rw [early_late]
 cases arrB (tru l) t (tru l') (lst l') <;> rfl
end
structure Ctx (l l' : List Kn) (v w : V3) (d0 d1 : Int) : Prop where
 va : VT l
 vb : VT l'
 vc : VT (shL v l)
 vd : VT (shL w l')
 w0 : wi d0 0 1000 = true
 w1 : wi d1 0 1000 = true
 i0 : vin d0 v
 i1 : vin d1 w
section
variable {l l' : List Kn} {v w : V3} {d0 d1 t r : Int}
theorem Ctx.swap (h : Ctx l l' v w d0 d1) : Ctx l' l w v d1 d0 := ⟨h.vb, h.va, h.vd, h.vc, h.w1, h.w0, h.i1, h.i0⟩
theorem Ctx.ta (h : Ctx l l' v w d0 d1) : TOk (tru l) := ⟨h.va, rfl⟩
theorem Ctx.tb (h : Ctx l l' v w d0 d1) : TOk (tru l') := ⟨h.vb, rfl⟩
theorem Ctx.tc (h : Ctx l l' v w d0 d1) : TOk (shL v l, d0) := ⟨h.vc, h.w0⟩
theorem Ctx.td (h : Ctx l l' v w d0 d1) : TOk (shL w l', d1) := ⟨h.vd, h.w1⟩
theorem of_sh {d : Int} : ofT (shL v l, d) t ↔ ofT (tru l) t := by unfold ofT; simp only [sh_fst, sh_lst]
theorem Ctx.enc (h : Ctx l l' v w d0 d1) (h1 : ofT (tru l) t) (h2 : ofT (tru l') r) : Enc (gp (tru l) t (tru l') r) (gp (shL v l, d0) t (shL w l', d1) r) := by
 have := enc_gap (plc_ok h.va h1.1 h1.2).d1 (plc_ok h.vb h2.1 h2.2).d1 h.i0 h.i1
 unfold gp gap
 simp only
 rw [sh_plc' h.va h1.1 h1.2, sh_plc' h.vb h2.1 h2.2]
 exact this
theorem Ctx.arr (h : Ctx l l' v w d0 d1) (h1 : ofT (tru l) t) (h2 : ofT (tru l') r) (ha : arrB (shL v l, d0) t (shL w l', d1) r = true) : arrB (tru l) t (tru l') r = true := by
 have e := h.enc h1 h2
 have := e.far
 unfold arrB at ha ⊢
 rw [Bool.not_eq_true', decide_eq_false_iff_not] at ha ⊢
 rw [e.ed] at ha; omega
theorem Ctx.mis (h : Ctx l l' v w d0 d1) (h1 : ofT (tru l) t) (h2 : ofT (tru l') r) (ha : misB (shL v l, d0) t (shL w l', d1) r = true) : misB (tru l) t (tru l') r = true := by
 have e := h.enc h1 h2
 have := e.near
 unfold misB at ha ⊢
 rw [decide_eq_true_eq] at ha ⊢
 rw [e.ed] at ha; omega
theorem recvE_err {a b : List Kn × Int} : (recvE a b t).e = 0 ∨ (recvE a b t).e = 2 ∨ (recvE a b t).e = 12 := by
 unfold recvE recv
 split
 ·split
  ·exact .inr (.inr rfl)
  ·exact .inl rfl
 ·exact .inr (.inl rfl)
theorem recvE_ofT {a b : List Kn × Int} (h : (recvE a b t).e = 0) : ofT a t ∧ ofT b t ∧ arrB a t b (lst b.1) = true := by
 unfold recvE recv at h
 split at h
 ·rename_i q
  split at h
  ·cases h
  ·rename_i q2
   exact ⟨q.1, q.2, by simpa using q2⟩
 ·cases h
theorem Ctx.recv (h : Ctx l l' v w d0 d1) (he : (recvE (shL v l, d0) (shL w l', d1) t).e = 0) :
  arrB (tru l) t (tru l') (lst l') = true ∧ (recvE (shL v l, d0) (shL w l', d1) t).lo ≤ t + max 0 (lateI (tru l) (tru l') t - 1) ∧ t + lateI (tru l) (tru l') t ≤ (recvE (shL v l, d0) (shL w l', d1) t).hi := by
 obtain ⟨h1, h2, h3⟩ := recvE_ofT he
 have g1 := of_sh.1 h1
 have g2 := of_sh.1 h2
 rw [show lst (shL w l', d1).1 = lst l' from sh_lst] at h3
 have f1 := g1.1; have f2 := g1.2; have f3 := g2.1; have f4 := g2.2
 simp only at f1 f2 f3 f4
 have ha := h.arr (r := lst l') g1 ⟨show fst l' ≤ lst l' by omega, Int.le_refl _⟩ h3
 have e : recvE (shL v l, d0) (shL w l', d1) t = ⟨t + max 0 (earlyI (shL v l, d0) (shL w l', d1) t - 1), t + lateI (shL v l, d0) (shL w l', d1) t, 0⟩ := by
  unfold recvE
  rw [if_pos ⟨h1, h2⟩]
  unfold Lt.recv
  rw [show lst (shL w l', d1).1 = lst l' from sh_lst, h3]
  rfl
 rw [e]
 refine ⟨ha, ?_, ?_⟩
 ·rw [← early_late]
  have : earlyI (shL v l, d0) (shL w l', d1) t ≤ earlyI (tru l) (tru l') t := by
   unfold earlyI
   rw [show lst (shL w l', d1).1 = lst l' from sh_lst, show lst (tru l').1 = lst l' from rfl]
   obtain ⟨⟨a1, a2⟩, a3, a4⟩ := search_spec (f := fun i => !misB (shL v l, d0) t (shL w l', d1) (t + i)) (N := lst l' - t) (by omega)
   obtain ⟨⟨b1, b2⟩, b3, b4⟩ := search_spec (f := fun i => !misB (tru l) t (tru l') (t + i)) (N := lst l' - t) (by omega)
   generalize search (fun i => !misB (shL v l, d0) t (shL w l', d1) (t + i)) (lst l' - t) = x at *
   generalize search (fun i => !misB (tru l) t (tru l') (t + i)) (lst l' - t) = y at *
   rcases Int.lt_or_le y x with q | q
   ·exfalso
    rcases b4 with b4 | b4
    ·omega
    ·rcases a3 with a3 | a3
     ·omega
     ·rw [mis_arr, Bool.not_not] at b4
      have c := arr_late h.va h.vb (r := t + y) (r' := t + (x - 1)) g1 (by omega) (by omega) (by omega) (by omega) b4
      have d := h.mis (r := t + (x - 1)) g1 ⟨show fst l' ≤ _ by omega, show _ ≤ lst l' by omega⟩ (by simpa using a3)
      rw [mis_arr, c] at d; cases d
   ·exact q
  show t + max 0 (earlyI (shL v l, d0) (shL w l', d1) t - 1) ≤ _
  omega
 ·have : lateI (tru l) (tru l') t ≤ lateI (shL v l, d0) (shL w l', d1) t := by
   unfold lateI
   rw [show lst (shL w l', d1).1 = lst l' from sh_lst, show lst (tru l').1 = lst l' from rfl]
   refine search_le (by omega) (fun i i1 i2 hf => h.arr g1 ⟨show fst l' ≤ _ by omega, show _ ≤ lst l' by omega⟩ hf) fun i j i1 i2 i3 hg => ?_
   exact arr_late h.va h.vb (r := t + i) (r' := t + j) g1 (by omega) (by omega) (by omega) (by omega) hg
  show _ ≤ t + lateI (shL v l, d0) (shL w l', d1) t
  omega
theorem Ctx.recv' (h : Ctx l l' v w d0 d1) (he : (recvE (shL v l, d0) (shL w l', d1) t).e = 0) :
  (recvE (tru l) (tru l') t).e = 0 ∧ (recvE (shL v l, d0) (shL w l', d1) t).lo ≤ (recvE (tru l) (tru l') t).lo ∧ (recvE (tru l) (tru l') t).hi ≤ (recvE (shL v l, d0) (shL w l', d1) t).hi ∧ (recvE (tru l) (tru l') t).lo ≤ (recvE (tru l) (tru l') t).hi := by
 obtain ⟨h1, h2, h3⟩ := h.recv he
 obtain ⟨g1, g2, _⟩ := recvE_ofT he
 have q := late_spec (l := l) (l' := l') (t := t) (of_sh.1 g2).2
 rw [recvE_true (of_sh.1 g1) (of_sh.1 g2), if_pos h1]
 refine ⟨rfl, h2, h3, ?_⟩
 show t + max 0 (lateI (tru l) (tru l') t - 1) ≤ t + lateI (tru l) (tru l') t
 omega
theorem firstErr_zero {a b : Int} : firstErr [a, b] = 0 ↔ a = 0 ∧ b = 0 := by
 unfold firstErr
 by_cases h : a = 0
 ·rw [if_pos h]
  unfold firstErr
  by_cases h2 : b = 0
  ·rw [if_pos h2]; simp [h, h2, firstErr]
  ·rw [if_neg h2]; simp [h2]
 ·rw [if_neg h]; simp [h]
theorem firstErr_of {a b : Int} {P : Int → Prop} (h0 : P 0) (ha : P a) (hb : P b) : P (firstErr [a, b]) := by
 unfold firstErr
 split
 ·unfold firstErr
  split
  ·exact h0
  ·exact hb
 ·exact ha
theorem rtrip_err {a b : List Kn × Int} : (rtrip a b t).e = 0 ∨ (rtrip a b t).e = 2 ∨ (rtrip a b t).e = 12 := by
 unfold rtrip
 split
 ·split
  ·exact .inl rfl
  ·exact firstErr_of (P := fun e => e = 0 ∨ e = 2 ∨ e = 12) (.inl rfl) recvE_err recvE_err
 ·exact recvE_err
theorem Ctx.trip (h : Ctx l l' v w d0 d1) (he : (rtrip (shL v l, d0) (shL w l', d1) t).e = 0) :
  (rtrip (tru l) (tru l') t).e = 0 ∧ (rtrip (shL v l, d0) (shL w l', d1) t).lo ≤ (rtrip (tru l) (tru l') t).lo ∧ (rtrip (tru l) (tru l') t).hi ≤ (rtrip (shL v l, d0) (shL w l', d1) t).hi := by
 unfold rtrip at he ⊢
 by_cases h0 : (recvE (shL v l, d0) (shL w l', d1) t).e = 0
 ·rw [if_pos h0] at he ⊢
  obtain ⟨y0, y1, y2, y3⟩ := h.recv' h0
  rw [if_pos y0]
  generalize recvE (shL v l, d0) (shL w l', d1) t = x at *
  generalize recvE (tru l) (tru l') t = y at *
  by_cases hf : firstErr [(recvE (shL w l', d1) (shL v l, d0) x.lo).e, (recvE (shL w l', d1) (shL v l, d0) x.hi).e] = 0
  ·rw [if_pos hf] at he ⊢
   obtain ⟨f1, f2⟩ := firstErr_zero.1 hf
   obtain ⟨p1, p2, p3⟩ := h.swap.recv f1
   obtain ⟨q1, q2, q3⟩ := h.swap.recv f2
   obtain ⟨o1, o2, _⟩ := recvE_ofT f1
   obtain ⟨o3, o4, _⟩ := recvE_ofT f2
   have o1 := of_sh.1 o1
   have o2 := of_sh.1 o2
   have o3 := of_sh.1 o3
   have o4 := of_sh.1 o4
   have a1 := o1.1; have a2 := o2.1; have a3 := o3.2; have a4 := o4.2
   simp only at a1 a2 a3 a4
   have ylo : ofT (tru l') y.lo ∧ ofT (tru l) y.lo := ⟨⟨show fst l' ≤ _ by omega, show _ ≤ lst l' by omega⟩, ⟨show fst l ≤ _ by omega, show _ ≤ lst l by omega⟩⟩
   have yhi : ofT (tru l') y.hi ∧ ofT (tru l) y.hi := ⟨⟨show fst l' ≤ _ by omega, show _ ≤ lst l' by omega⟩, ⟨show fst l ≤ _ by omega, show _ ≤ lst l by omega⟩⟩
   have ll : ofT (tru l) (lst l) := ⟨h.va.ord, Int.le_refl _⟩
   have b1 := arr_early h.vb h.va (t := y.lo) (t' := x.hi) ylo.1.1 (by omega) a3 ll a4 q1
   have b2 := arr_early h.vb h.va (t := y.hi) (t' := x.hi) yhi.1.1 (by omega) a3 ll a4 q1
   have m1 := late_mono h.vb h.va o1 o2 ylo.1 ylo.2 y1
   have m2 := late_mono h.vb h.va yhi.1 yhi.2 o3 o4 y2
   rw [recvE_true ylo.1 ylo.2, if_pos b1, recvE_true yhi.1 yhi.2, if_pos b2]
   have z : firstErr [(0 : Int), 0] = 0 := rfl
   rw [if_pos z]
   refine ⟨rfl, ?_, ?_⟩
   ·show (recvE (shL w l', d1) (shL v l, d0) x.lo).lo ≤ y.lo + max 0 (lateI (tru l') (tru l) y.lo - 1)
    omega
   ·show y.hi + lateI (tru l') (tru l) y.hi ≤ (recvE (shL w l', d1) (shL v l, d0) x.hi).hi
    omega
  ·rw [if_neg hf] at he
   exact absurd he hf
 ·rw [if_neg h0] at he
  exact absurd he h0
end
end Go.Ax.Sx.Lt

namespace Go.Ax.Sx.Lt
open Go.Ax
set_option linter.unusedSimpArgs false
set_option linter.unusedVariables false
set_option maxRecDepth 100000
def flK (l : List Kn) : List AV := (l.map rowK).flatten
theorem flK_cons {a : Kn} {l : List Kn} : flK (a :: l) = rowK a ++ flK l := rfl
theorem flK_len : ∀ {l : List Kn}, (flK l).length = l.length * 4
 | [] => rfl
 | a :: l => by rw [flK_cons, List.length_append, flK_len]; simp; omega
theorem chunks_fl : ∀ {l : List Kn}, chunks 4 l.length (flK l) = l.map rowK
 | [] => rfl
 | a :: l => by
  rw [flK_cons, List.length_cons, List.map_cons, ← chunks_fl (l := l)]
  rfl
theorem closeAll_fl : ∀ {l : List Kn}, closeAll (flK l) = some (flK l)
 | [] => rfl
 | a :: l => by
  have := closeAll_fl (l := l)
  rw [flK_cons]
  show closeAll (I a.t :: I a.x :: I a.y :: I a.z :: flK l) = _
  simp [closeAll, AV.close, AV.isClosed, AV.isClosed1, this]
theorem len_rsl {d b off es n cap : Nat} : lenOp false (.rsl d b off es n cap) = some (I (n : Int)) := rfl
theorem ix_rsl {d b es n : Nat} {i : Nat} (h : i < n) : indexAddrOp none es (.rsl d b 0 es n 0) (I (i : Int)) = some (.ptr d b (0 + i * es)) := by
 have h1 : idx (I (i : Int)) n = some i := by simp [idx]; omega
 simp [indexAddrOp, h1]
theorem fl_part : ∀ {l : List Kn} {k : Nat} {a : Kn}, l[k]? = some a → cutN (k * 4 + 1) 3 (flK l) = some [I a.x, I a.y, I a.z]
 | b :: l, 0, a, h => by
  injection h with h; subst h
  show cutN 1 3 (I b.t :: I b.x :: I b.y :: I b.z :: flK l) = _
  simp [cutN]
 | b :: l, k + 1, a, h => by
  have := fl_part (l := l) (k := k) (a := a) h
  rw [show (k + 1) * 4 + 1 = k * 4 + 1 + 4 by omega]
  exact this
theorem fl_set : ∀ {l : List Kn} {k : Nat} {a : Kn} {x y z : Int}, l[k]? = some a → overN (flK l) (k * 4 + 1) [I x, I y, I z] = some (flK (l.set k ⟨a.t, x, y, z⟩))
 | b :: l, 0, a, x, y, z, h => by
  injection h with h; subst h
  show overN (I b.t :: I b.x :: I b.y :: I b.z :: flK l) 1 [I x, I y, I z] = some (I b.t :: I x :: I y :: I z :: flK l)
  simp [overN]
 | b :: l, k + 1, a, x, y, z, h => by
  have := fl_set (l := l) (k := k) (a := a) (x := x) (y := y) (z := z) h
  rw [List.set_cons_succ, flK_cons, flK_cons, show (k + 1) * 4 + 1 = k * 4 + 1 + 4 by omega]
  show ((((overN (flK l) (k * 4 + 1) [I x, I y, I z]).map _).map _).map _).map _ = _
  rw [this]; rfl
section
variable {s : Sig} {o : Own} {l : List Kn} {d : Int}
def cpO (l : List Kn) : Own := if l.isEmpty then .full else .any
theorem cpO_pos (h : 0 < l.length) : cpO l = .any := by cases l with
 | nil => simp at h
 | cons => rfl
theorem cpO_or : cpO l = .any ∨ cpO l = .full := by unfold cpO; split <;> simp
abbrev LenOk (l : List Kn) : Prop := l.length * 32 ≤ 140737488355328
theorem LenOk.of (h : l.length ≤ 14) : LenOk l := by unfold LenOk; omega
theorem appf (h : 0 < l.length) (hl : LenOk l) {bx : List (List AV)} {tk : List (Option Nat)} : appendfOp (s.push ⟨bx, tk⟩) 4 (.slice .full 4 []) (.slice o 4 (l.map rowK)) = some (.rsl s.acts.length bx.length 0 4 l.length 0, s.push ⟨bx ++ [flK l], tk⟩) := by
 have e0 : (l.map rowK).isEmpty = false := by cases l with
  | nil => simp at h
  | cons => rfl
 have e1 : ¬ (([] : List (List AV)).flatten ++ (l.map rowK).flatten).isEmpty = true := fun q => by
  have q' : flK l = [] := List.isEmpty_iff.1 q
  have := flK_len (l := l)
  rw [q'] at this
  simp only [List.length_nil] at this
  omega
 by_cases hm : l.length ≤ most
 ·have x1 : appendfOp (s.push ⟨bx, tk⟩) 4 (.slice .full 4 []) (.slice o 4 (l.map rowK)) = appendmOp (s.push ⟨bx, tk⟩) 4 (.slice .full 4 []) (.slice o 4 (l.map rowK)) := by
   show (if _ then _ else if _ then _ else _) = _
   rw [if_neg (fun q => e1 q.1), if_neg (fun q => by have := q.2.2.2.2.1; rw [List.length_map] at this; omega)]
  rw [x1]
  show (if (l.map rowK).isEmpty = true then _ else if 4 = 4 then (if _ then _ else _) else none) = _
  rw [e0, if_neg Bool.false_ne_true, if_pos rfl, if_pos ⟨.inr ⟨rfl, rfl⟩, by rw [List.length_map]; show 0 + l.length ≤ most; omega⟩]
  rw [newBox_push, cur_push, nbox_push, List.length_map]
  show some (AV.rsl s.acts.length bx.length 0 4 (0 + l.length) 0, _) = _
  rw [Nat.zero_add]
  rfl
 ·show (if _ then _ else if _ then _ else _) = _
  rw [if_neg (fun q => e1 q.1), if_pos ⟨rfl, rfl, rfl, rfl, by rw [List.length_map]; omega, by rw [List.length_map]; exact hl⟩]
  rw [newBox_push, cur_push, nbox_push, List.length_map]
  rfl
theorem leave_fl {r : Rec} {b : Nat} {c : AV} (h : r.boxes[b]? = some (flK l)) : leaveCell (s.push r) (.rsl s.acts.length b 0 4 l.length 0) = some (.slice .any 4 (l.map rowK)) := by
 have hb : (s.push r).box s.acts.length b = some (flK l) := by rw [box_push]; exact h
 simp only [leaveCell, cur_push, if_true, hb, Option.bind_some, closeAll_fl]
 rw [if_pos (by rw [flK_len]; omega), Option.map_some, List.drop_zero, chunks_fl]
end
end Go.Ax.Sx.Lt

namespace Go.Ax.Sx.Lt
open Go.Ax
set_option linter.unusedSimpArgs false
set_option linter.unusedVariables false
set_option maxRecDepth 100000
section
variable {s : Sig} {o : Own} {l : List Kn} {d : Int}
theorem appf0 {m : Sig} : appendfOp m 4 (.slice .full 4 []) (.slice o 4 []) = some (.slice .full 4 [], m) := rfl
theorem ldd {bx : List (List AV)} {b off n : Nat} {g : Bool} (h : (bx.drop (b + 1)).any List.isEmpty = true) : loaddOp (s.push ⟨bx, []⟩) g n (.ptr s.acts.length b off) = (s.push ⟨bx, []⟩).load g n (.ptr s.acts.length b off) := loadd_ptr h
theorem r_Copy (hl : LenOk l) (hs : Ok s) : callL AP (.fn 5) [tv o l d] s = some (tv (cpO l) l d, s) := by
 have hc : (AV.slice o 4 (l.map rowK)).isCell = true := rfl
 have l1 : ∀ b0 b1 bs g n off, loaddOp (s.push ⟨b0 :: b1 :: [] :: bs, []⟩) g n (.ptr s.acts.length 0 off) = (s.push ⟨b0 :: b1 :: [] :: bs, []⟩).load g n (.ptr s.acts.length 0 off) := fun b0 b1 bs g n off => ldd (by simp)
 by_cases h0 : l.length = 0
 ·have : l = [] := List.eq_nil_of_length_eq_zero h0
  subst this
  rw [callL_go (show AP 5 = some c_r_Copy from rfl) rfl]
  simp (maxSteps := 1000000) only [go_sem, b_r_Copy, hs, rep1, l1, List.map_nil, appf0, Nat.reduceEqDiff, reduceCtorEq, Nat.reduceAdd, Nat.reduceMul, Nat.reduceSub, Int.reduceLT, Int.reduceLE, Int.reduceEq, Int.reduceAdd, Int.reduceSub, Int.reduceNeg, Int.reduceToNat, Int.cast_ofNat_Int, ↓reduceIte, Nat.reduceLeDiff, Nat.lt_add_one, Nat.reduceLT, Nat.zero_lt_one, ne_eq, not_true, not_false_eq_true]
  rfl
 ·have hp : 0 < l.length := by omega
  have hlv : ∀ bs, leaveCell (s.push ⟨bs ++ [flK l], []⟩) (.rsl s.acts.length bs.length 0 4 l.length 0) = some (.slice .any 4 (l.map rowK)) := fun bs => leave_fl (c := I 0) (by simp)
  have hlv4 : ∀ a b c, leaveCell (s.push ⟨[a, b, c, flK l], []⟩) (.rsl s.acts.length 3 0 4 l.length 0) = some (.slice .any 4 (l.map rowK)) := fun a b c => hlv [a, b, c]
  have ha3 : ∀ a b c, appendfOp (s.push ⟨[a, b, c], []⟩) 4 (.slice .full 4 []) (.slice o 4 (l.map rowK)) = some (.rsl s.acts.length 3 0 4 l.length 0, s.push ⟨[a, b, c, flK l], []⟩) := fun a b c => appf (bx := [a, b, c]) hp hl
  rw [cpO_pos hp]
  rw [callL_go (show AP 5 = some c_r_Copy from rfl) rfl]
  simp (maxSteps := 1000000) only [go_sem, b_r_Copy, hs, rep1, l1, ha3, hlv4, Nat.reduceEqDiff, reduceCtorEq, Nat.reduceAdd, Nat.reduceMul, Nat.reduceSub, Int.reduceLT, Int.reduceLE, Int.reduceEq, Int.reduceAdd, Int.reduceSub, Int.reduceNeg, Int.reduceToNat, Int.cast_ofNat_Int, ↓reduceIte, Nat.reduceLeDiff, Nat.lt_add_one, Nat.reduceLT, Nat.zero_lt_one, ne_eq, not_true, not_false_eq_true]
theorem r_Copy_inl (hp : 0 < l.length) (hl : LenOk l) (hs : Ok s) {a b c : List AV} : callL AP (.inl 5) [tv o l d] (s.push ⟨[a, b, c], []⟩) = some (.agg [.rsl s.acts.length 6 0 4 l.length 0, I d], s.push ⟨[a, b, c, [.slice o 4 (l.map rowK), I d], [.rsl s.acts.length 6 0 4 l.length 0, I d], [], flK l], []⟩) := by
 have l1 : ∀ b0 b1 bs g n off, loaddOp (s.push ⟨a :: b :: c :: b0 :: b1 :: [] :: bs, []⟩) g n (.ptr s.acts.length 3 off) = (s.push ⟨a :: b :: c :: b0 :: b1 :: [] :: bs, []⟩).load g n (.ptr s.acts.length 3 off) := fun b0 b1 bs g n off => ldd (by simp)
 have ha3 : ∀ b0 b1 b2, appendfOp (s.push ⟨[a, b, c, b0, b1, b2], []⟩) 4 (.slice .full 4 []) (.slice o 4 (l.map rowK)) = some (.rsl s.acts.length 6 0 4 l.length 0, s.push ⟨[a, b, c, b0, b1, b2, flK l], []⟩) := fun b0 b1 b2 => appf (bx := [a, b, c, b0, b1, b2]) hp hl
 rw [callL_inlgo (show AP 5 = some c_r_Copy from rfl) rfl (by have := hs.ro; simp only [Sig.push, List.length_append, List.length_cons, List.length_nil]; omega)]
 simp (maxSteps := 1000000) only [go_sem, b_r_Copy, hs, rep1, l1, ha3, rawsOf, resultRaw, Nat.reduceEqDiff, reduceCtorEq, Nat.reduceAdd, Nat.reduceMul, Nat.reduceSub, Int.reduceLT, Int.reduceLE, Int.reduceEq, Int.reduceAdd, Int.reduceSub, Int.reduceNeg, Int.reduceToNat, Int.cast_ofNat_Int, ↓reduceIte, Nat.reduceLeDiff, Nat.lt_add_one, Nat.reduceLT, Nat.zero_lt_one, ne_eq, not_true, not_false_eq_true]
end
end Go.Ax.Sx.Lt

namespace Go.Ax.Sx.Lt
open Go.Ax
set_option linter.unusedSimpArgs false
set_option linter.unusedVariables false
set_option maxRecDepth 100000
section
variable {v : V3} {l : List Kn}
def mix (v : V3) (l : List Kn) (k : Nat) : List Kn := shL v (l.take k) ++ l.drop k
theorem mix_get {k : Nat} {a : Kn} (h : l[k]? = some a) : (mix v l k)[k]? = some a := by
 have hk := (List.getElem?_eq_some_iff.1 h).1
 have : (shL v (l.take k)).length = k := by rw [sh_len, List.length_take]; omega
 unfold mix
 rw [List.getElem?_append_right (by omega), this, Nat.sub_self, List.getElem?_drop, Nat.add_zero]; exact h
theorem mix_set {k : Nat} {a : Kn} (h : l[k]? = some a) : (mix v l k).set k (shK v a) = mix v l (k + 1) := by
 have hk := (List.getElem?_eq_some_iff.1 h).1
 have : (shL v (l.take k)).length = k := by rw [sh_len, List.length_take]; omega
 unfold mix
 rw [List.set_append_right _ _ (by omega), this, Nat.sub_self, drop_get h, List.set_cons_zero]
 have e : l.take (k + 1) = l.take k ++ [a] := by rw [List.take_add_one, h]; rfl
 rw [e]
 unfold shL
 rw [List.map_append, List.append_assoc]; rfl
theorem mix_zero : mix v l 0 = l := by unfold mix shL; simp
theorem mix_all : mix v l l.length = shL v l := by unfold mix; simp
end
section
variable {s : Sig} {l : List Kn} {d e : Int} {v : V3}
theorem t_pathShifted (hv : VT l) (hm : vin 1000 v) (hs : Ok s) : callL AP (.fn 11) [tv .any l d, .agg (rowV v), I e] s = some (tv .any (shL v l) e, s) := by
 have hf := hv.few
 obtain ⟨v1, v2, v3⟩ := v
 simp only [vin] at hm
 have key : ∀ (k : Nat) ρ m, k ≤ l.length → (ρ 4 = .ptr s.acts.length 1 0 ∧ ρ 6 = .ptr s.acts.length 2 0 ∧ ρ 7 = .ptr s.acts.length 7 0 ∧ ρ 8 = I k ∧ ∃ b0 b3 b4 bs, m = s.push ⟨b0 :: rowV (v1, v2, v3) :: [.slice .nilS 0 [], I 0] :: b3 :: b4 :: [] :: flK (mix (v1, v2, v3) l k) :: [.rsl s.acts.length 6 0 4 l.length 0, I e] :: bs, []⟩) →
   go AP f_t_pathShifted (.c (.loop b_t_pathShifted_l0) :: k_t_pathShifted_0) ⟨ρ, m⟩ = some (tv .any (shL (v1, v2, v3) l) e, s) := by
  refine loop_up l.length _ (fun _ => _) ?_ ?_
  ·rintro k ρ m hk ⟨h4, h6, h7, h8, b0, b3, b4, bs, rfl⟩ ih
   obtain ⟨a, ha⟩ := get_some hk
   have hin := (kIn_iff.1 (hv.kin a (List.mem_of_getElem? ha))).2
   have hg := mix_get (v := (v1, v2, v3)) ha
   have hp := fl_part hg
   have hst := fl_set (x := a.x + v1) (y := a.y + v2) (z := a.z + v3) hg
   rw [show (⟨a.t, a.x + v1, a.y + v2, a.z + v3⟩ : Kn) = shK (v1, v2, v3) a from rfl, mix_set ha] at hst
   have hix := ix_rsl (d := s.acts.length) (b := 6) (es := 4) (i := k) (n := l.length) hk
   rw [Nat.zero_add] at hix
   obtain ⟨t, x, y, z⟩ := a
   simp only [vin, Kn.p] at hin hp hst
   have w1 : IntKind.i64.wrap (x + v1) = x + v1 := wrap_id (by omega) (by omega)
   have w2 : IntKind.i64.wrap (y + v2) = y + v2 := wrap_id (by omega) (by omega)
   have w3 : IntKind.i64.wrap (z + v3) = z + v3 := wrap_id (by omega) (by omega)
   simp (maxSteps := 1000000) only [go_sem, b_t_pathShifted_l0, b_t_pathShifted_r0, h4, h6, h7, h8, hs, len_rsl, lt_dec hk, hix, hp, hst, w1, w2, w3, wrap_succ hk (by omega), Nat.reduceEqDiff, reduceCtorEq, Nat.reduceAdd, Nat.reduceMul, Nat.reduceSub, Int.reduceLT, Int.reduceLE, Int.reduceEq, Int.reduceAdd, Int.reduceSub, Int.reduceNeg, Int.reduceToNat, Int.cast_ofNat_Int, ↓reduceIte, Nat.reduceLeDiff, Nat.lt_add_one, Nat.reduceLT, Nat.zero_lt_one, ne_eq, not_true, not_false_eq_true]
   exact ih _ _ ⟨h4, h6, h7, rfl, _, _, _, _, rfl⟩
  ·rintro ρ m ⟨h4, h6, h7, h8, b0, b3, b4, bs, rfl⟩
   rw [mix_all]
   have hlv : ∀ bs', leaveCell (s.push ⟨b0 :: rowV (v1, v2, v3) :: bs' :: b3 :: b4 :: [] :: flK (shL (v1, v2, v3) l) :: [.rsl s.acts.length 6 0 4 l.length 0, I e] :: bs, []⟩) (.rsl s.acts.length 6 0 4 l.length 0) = some (.slice .any 4 ((shL (v1, v2, v3) l).map rowK)) := fun bs' => by
    have := leave_fl (s := s) (l := shL (v1, v2, v3) l) (b := 6) (c := I 0) (r := ⟨b0 :: rowV (v1, v2, v3) :: bs' :: b3 :: b4 :: [] :: flK (shL (v1, v2, v3) l) :: [.rsl s.acts.length 6 0 4 l.length 0, I e] :: bs, []⟩) rfl
    rwa [sh_len] at this
   simp (maxSteps := 1000000) only [go_sem, b_t_pathShifted_l0, b_t_pathShifted_r0, h4, h6, h7, h8, hs, len_rsl, ge_dec, hlv, Nat.reduceEqDiff, reduceCtorEq, Nat.reduceAdd, Nat.reduceMul, Nat.reduceSub, Int.reduceLT, Int.reduceLE, Int.reduceEq, Int.reduceAdd, Int.reduceSub, Int.reduceNeg, Int.reduceToNat, Int.cast_ofNat_Int, ↓reduceIte, Nat.reduceLeDiff, Nat.lt_add_one, Nat.reduceLT, Nat.zero_lt_one, ne_eq, not_true, not_false_eq_true]
 have hcp : ∀ a b c, callL AP (.inl 5) [tv .any l d] (s.push ⟨[a, b, c], []⟩) = some (.agg [.rsl s.acts.length 6 0 4 l.length 0, I d], s.push ⟨[a, b, c, [.slice .any 4 (l.map rowK), I d], [.rsl s.acts.length 6 0 4 l.length 0, I d], [], flK l], []⟩) := fun a b c => r_Copy_inl hv.pos (.of (by omega)) hs
 rw [callL_go (show AP 11 = some c_t_pathShifted from rfl) rfl]
 simp (maxSteps := 1000000) only [go_sem, b_t_pathShifted, hs, hcp, Nat.reduceEqDiff, reduceCtorEq, Nat.reduceAdd, Nat.reduceMul, Nat.reduceSub, Int.reduceLT, Int.reduceLE, Int.reduceEq, Int.reduceAdd, Int.reduceSub, Int.reduceNeg, Int.reduceToNat, Int.cast_ofNat_Int, ↓reduceIte, Nat.reduceLeDiff, Nat.lt_add_one, Nat.reduceLT, Nat.zero_lt_one, ne_eq, not_true, not_false_eq_true]
 refine key 0 _ _ (Nat.zero_le _) ⟨rfl, rfl, rfl, rfl, [.slice .any 4 (l.map rowK), I d], [.slice .any 4 (l.map rowK), I d], [.rsl s.acts.length 6 0 4 l.length 0, I d], [], ?_⟩
 rw [mix_zero]
end
end Go.Ax.Sx.Lt

namespace Go.Ax.Sx.Lt
open Go.Ax
set_option linter.unusedSimpArgs false
set_option linter.unusedVariables false
set_option maxRecDepth 100000
def stK : List Kn := [⟨0, 0, 0, 0⟩, ⟨1000, 0, 0, 0⟩]
def prK : List Kn := [⟨0, 300, 400, 0⟩, ⟨1000, 600, 800, 0⟩]
theorem vt_of {l : List Kn} (h : trErr l 0 = 0) : TOk (l, 0) := ⟨(trErr_zero h).1, rfl⟩
theorem st_ok : TOk (stK, 0) := vt_of (by decide)
theorem pr_ok : TOk (prK, 0) := vt_of (by decide)
theorem awake1 : disLo (gp (stK, 0) 500 (prK, 0) 500) = 750 := by decide +kernel
theorem awake2 : disHi (gp (stK, 0) 500 (prK, 0) 500) = 750 := by decide +kernel
theorem awake3' : (recvE (stK, 0) (prK, 0) 0).lo = 999 ∧ (recvE (stK, 0) (prK, 0) 0).hi = 1000 ∧ (recvE (stK, 0) (prK, 0) 0).e = 0 := by decide +kernel
theorem rcv_ext {r : Rcv} {a b c : Int} (h : r.lo = a ∧ r.hi = b ∧ r.e = c) : r = ⟨a, b, c⟩ := by obtain ⟨x, y, z⟩ := r; obtain ⟨rfl, rfl, rfl⟩ := h; rfl
theorem awake3 : recvE (stK, 0) (prK, 0) 0 = ⟨999, 1000, 0⟩ := rcv_ext awake3'
section
variable {s : Sig}
theorem l_Station (hs : Ok s) : callL AP (.fn 15) [] s = some (tv .full stK 0, s) := by
 rw [callL_go (show AP 15 = some c_l_Station from rfl) rfl]
 simp (maxSteps := 1000000) only [go_sem, b_l_Station, hs, Nat.reduceEqDiff, reduceCtorEq, Nat.reduceAdd, Nat.reduceMul, Nat.reduceSub, Int.reduceLT, Int.reduceLE, Int.reduceEq, Int.reduceAdd, Int.reduceSub, Int.reduceNeg, Int.reduceToNat, Int.cast_ofNat_Int, ↓reduceIte, Nat.reduceLeDiff, Nat.lt_add_one, Nat.reduceLT, Nat.zero_lt_one, ne_eq, not_true, not_false_eq_true]
 rfl
theorem l_Probe (hs : Ok s) : callL AP (.fn 16) [] s = some (tv .full prK 0, s) := by
 rw [callL_go (show AP 16 = some c_l_Probe from rfl) rfl]
 simp (maxSteps := 1000000) only [go_sem, b_l_Probe, hs, Nat.reduceEqDiff, reduceCtorEq, Nat.reduceAdd, Nat.reduceMul, Nat.reduceSub, Int.reduceLT, Int.reduceLE, Int.reduceEq, Int.reduceAdd, Int.reduceSub, Int.reduceNeg, Int.reduceToNat, Int.cast_ofNat_Int, ↓reduceIte, Nat.reduceLeDiff, Nat.lt_add_one, Nat.reduceLT, Nat.zero_lt_one, ne_eq, not_true, not_false_eq_true]
 rfl
theorem t_pathAwake (hs : Ok s) : callL AP (.fn 4) [] s = some (B true, s) := by
 have e1 : ∀ r, callL AP (.fn 15) [] (s.push r) = some (tv .full stK 0, s.push r) := fun r => l_Station (hs.push r)
 have e2 : ∀ r, callL AP (.fn 16) [] (s.push r) = some (tv .full prK 0, s.push r) := fun r => l_Probe (hs.push r)
 have e3 : ∀ r, callL AP (.fn 12) [tv .full stK 0, tv .full prK 0, I 500] (s.push r) = some (.tuple [.agg [I 750, I 750], I 0], s.push r) := fun r => by
  have := path_DistanceAt (t := 500) (.inr rfl) st_ok pr_ok (by decide) (by decide) (hs.push r)
  rwa [awake1, awake2] at this
 have e4 : ∀ r, callL AP (.fn 13) [tv .full stK 0, tv .full prK 0, I 0] (s.push r) = some (.tuple [.agg [I 999, I 1000], I 0], s.push r) := fun r => by
  have := path_ReceivedAt (t := 0) (.inr rfl) st_ok pr_ok (hs.push r)
  rwa [awake3] at this
 have q1 : eqOp (.agg [.int, .int]) (.agg [I 750, I 750]) (.agg [I 750, I 750]) = some true := rfl
 have q2 : eqOp (.agg [.int, .int]) (.agg [I 999, I 1000]) (.agg [I 999, I 1000]) = some true := rfl
 generalize stK = A at *
 generalize prK = C at *
 rw [callL_go (show AP 4 = some c_t_pathAwake from rfl) rfl]
 simp (maxSteps := 1000000) only [go_sem, b_t_pathAwake, hs, e1, e2, e3, e4, q1, q2, Nat.reduceEqDiff, reduceCtorEq, Nat.reduceAdd, Nat.reduceMul, Nat.reduceSub, Int.reduceLT, Int.reduceLE, Int.reduceEq, Int.reduceAdd, Int.reduceSub, Int.reduceNeg, Int.reduceToNat, Int.cast_ofNat_Int, ↓reduceIte, Nat.reduceLeDiff, Nat.lt_add_one, Nat.reduceLT, Nat.zero_lt_one, ne_eq, not_true, not_false_eq_true]
end
end Go.Ax.Sx.Lt

namespace Go.Ax.Sx.Lt
open Go.Ax
set_option linter.unusedSimpArgs false
set_option linter.unusedVariables false
set_option maxRecDepth 100000
section
variable {s : Sig} {ro : Bool} {f : FuncId} {args : List AV} {v : AV} {b0 b1 b2 b3 b4 b5 b6 b7 b8 b9 : List AV}
abbrev zT : List AV := [.slice .nilS 0 [], I 0]
theorem fc3 (hs : Ok s) (h : ∀ m, Ok m → callL AP (.fn f) args m = some (v, m)) : fcallOp (callL AP) ro (s.push ⟨[b0, [], []], []⟩) [zT, zT] (.fn f) args = some (v, s.push ⟨[b0, [], []], []⟩) := fc_keep (hs.push _) h (by rw [tail_push]; simp [fills])
theorem fc5 (hs : Ok s) (h : ∀ m, Ok m → callL AP (.fn f) args m = some (v, m)) : fcallOp (callL AP) ro (s.push ⟨[b0, b1, b2, [], []], []⟩) [zT, zT] (.fn f) args = some (v, s.push ⟨[b0, b1, b2, [], []], []⟩) := fc_keep (hs.push _) h (by rw [tail_push]; simp [fills])
theorem fc6 (hs : Ok s) (h : ∀ m, Ok m → callL AP (.fn f) args m = some (v, m)) : fcallOp (callL AP) ro (s.push ⟨[b0, b1, b2, b3, b4, []], []⟩) [[I 0, I 0]] (.fn f) args = some (v, s.push ⟨[b0, b1, b2, b3, b4, []], []⟩) := fc_keep (hs.push _) h (by rw [tail_push]; simp [fills])
theorem fc7 (hs : Ok s) (h : ∀ m, Ok m → callL AP (.fn f) args m = some (v, m)) : fcallOp (callL AP) ro (s.push ⟨[b0, b1, b2, b3, b4, b5, []], []⟩) [[I 0, I 0]] (.fn f) args = some (v, s.push ⟨[b0, b1, b2, b3, b4, b5, []], []⟩) := fc_keep (hs.push _) h (by rw [tail_push]; simp [fills])
theorem fc8 (hs : Ok s) (h : ∀ m, Ok m → callL AP (.fn f) args m = some (v, m)) : fcallOp (callL AP) ro (s.push ⟨[b0, b1, b2, b3, b4, b5, b6, []], []⟩) [[I 0, I 0]] (.fn f) args = some (v, s.push ⟨[b0, b1, b2, b3, b4, b5, b6, []], []⟩) := fc_keep (hs.push _) h (by rw [tail_push]; simp [fills])
theorem fc9 (hs : Ok s) (h : ∀ m, Ok m → callL AP (.fn f) args m = some (v, m)) : fcallOp (callL AP) ro (s.push ⟨[b0, b1, b2, b3, b4, b5, b6, b7, []], []⟩) [[I 0, I 0]] (.fn f) args = some (v, s.push ⟨[b0, b1, b2, b3, b4, b5, b6, b7, []], []⟩) := fc_keep (hs.push _) h (by rw [tail_push]; simp [fills])
theorem fc10 (hs : Ok s) (h : ∀ m, Ok m → callL AP (.fn f) args m = some (v, m)) : fcallOp (callL AP) ro (s.push ⟨[b0, b1, b2, b3, b4, b5, b6, b7, b8, []], []⟩) [[I 0, I 0]] (.fn f) args = some (v, s.push ⟨[b0, b1, b2, b3, b4, b5, b6, b7, b8, []], []⟩) := fc_keep (hs.push _) h (by rw [tail_push]; simp [fills])
theorem fc11 (hs : Ok s) (h : ∀ m, Ok m → callL AP (.fn f) args m = some (v, m)) : fcallOp (callL AP) ro (s.push ⟨[b0, b1, b2, b3, b4, b5, b6, b7, b8, b9, []], []⟩) [[I 0, I 0]] (.fn f) args = some (v, s.push ⟨[b0, b1, b2, b3, b4, b5, b6, b7, b8, b9, []], []⟩) := fc_keep (hs.push _) h (by rw [tail_push]; simp [fills])
theorem slot9 {a b c d e f g h x : List AV} {z : AV} {r : List AV} : slotL [a, b, c, d, e, f, g, h, []] [] 1 (z :: r) = some (8, [a, b, c, d, e, f, g, h, z :: r]) := rfl
theorem slot10 {a b c d e f g h i x : List AV} {z : AV} {r : List AV} : slotL [a, b, c, d, e, f, g, h, i, []] [] 1 (z :: r) = some (9, [a, b, c, d, e, f, g, h, i, z :: r]) := rfl
theorem slot11 {a b c d e f g h i j x : List AV} {z : AV} {r : List AV} : slotL [a, b, c, d, e, f, g, h, i, j, []] [] 1 (z :: r) = some (10, [a, b, c, d, e, f, g, h, i, j, z :: r]) := rfl
end
section
variable {s : Sig} {l l' : List Kn} {dA dB D0 D1 t : Int} {S0 S1 : V3} {o1 o2 : Own}
theorem law (hA : LenOk l) (hB : LenOk l') (hs : Ok s) :
  callL AP (.fn 3) [.agg [.slice o1 4 (l.map rowK), I dA, .slice o2 4 (l'.map rowK), I dB, I D0, I D1, I S0.1, I S0.2.1, I S0.2.2, I S1.1, I S1.2.1, I S1.2.2, I t]] s = some (B true, s) := by
 have aw : ∀ r, callL AP (.fn 4) [] (s.push r) = some (B true, s.push r) := fun r => t_pathAwake (hs.push r)
 have cA : ∀ m, Ok m → callL AP (.fn 5) [.agg [.slice o1 4 (l.map rowK), I dA]] m = some (.agg [.slice (cpO l) 4 (l.map rowK), I dA], m) := fun m hm => r_Copy hA hm
 have cB : ∀ m, Ok m → callL AP (.fn 5) [.agg [.slice o2 4 (l'.map rowK), I dB]] m = some (.agg [.slice (cpO l') 4 (l'.map rowK), I dB], m) := fun m hm => r_Copy hB hm
 have fA : ∀ r, callL AP (.fn 6) [tv (cpO l) l 0] (s.push r) = some (B (decide (l.length ≤ 14)), s.push r) := fun r => l_Few (hs.push r)
 have fB : ∀ r, callL AP (.fn 6) [tv (cpO l') l' 0] (s.push r) = some (B (decide (l'.length ≤ 14)), s.push r) := fun r => l_Few (hs.push r)
 by_cases hl : l.length ≤ 14
 case neg =>
  have hl : decide (l.length ≤ 14) = false := decide_eq_false hl
  rw [hl] at fA
  rw [callL_go (show AP 3 = some c_t_TopPathLightTimes from rfl) rfl]
  simp (maxSteps := 1000000) only [go_sem, b_t_TopPathLightTimes, hs, aw, rep2, fc3 hs cA, fc3 hs cB, fA, Nat.reduceEqDiff, reduceCtorEq, Nat.reduceAdd, Nat.reduceMul, Nat.reduceSub, Int.reduceLT, Int.reduceLE, Int.reduceEq, Int.reduceAdd, Int.reduceSub, Int.reduceNeg, Int.reduceToNat, Int.cast_ofNat_Int, ↓reduceIte, Nat.reduceLeDiff, Nat.lt_add_one, Nat.reduceLT, Nat.zero_lt_one, ne_eq, not_true, not_false_eq_true]
 by_cases hl' : l'.length ≤ 14
 case neg =>
  have hl' : decide (l'.length ≤ 14) = false := decide_eq_false hl'
  rw [decide_eq_true hl] at fA
  rw [hl'] at fB
  rw [callL_go (show AP 3 = some c_t_TopPathLightTimes from rfl) rfl]
  simp (maxSteps := 1000000) only [go_sem, b_t_TopPathLightTimes, hs, aw, rep2, fc3 hs cA, fc3 hs cB, fA, fB, Nat.reduceEqDiff, reduceCtorEq, Nat.reduceAdd, Nat.reduceMul, Nat.reduceSub, Int.reduceLT, Int.reduceLE, Int.reduceEq, Int.reduceAdd, Int.reduceSub, Int.reduceNeg, Int.reduceToNat, Int.cast_ofNat_Int, ↓reduceIte, Nat.reduceLeDiff, Nat.lt_add_one, Nat.reduceLT, Nat.zero_lt_one, ne_eq, not_true, not_false_eq_true]
 rw [decide_eq_true hl] at fA
 rw [decide_eq_true hl'] at fB
 have be : ∀ r, callL AP (.fn 7) [tv (cpO l) l 0, tv (cpO l') l' 0] (s.push r) = some (I (botErr l 0 l' 0), s.push r) := fun r => r_BothErr cpO_or hl cpO_or hl' (hs.push r)
 by_cases hbe : botErr l 0 l' 0 = 0
 case neg =>
  have hz : decide (botErr l 0 l' 0 ≠ 0) = true := by simp [hbe]
  rw [callL_go (show AP 3 = some c_t_TopPathLightTimes from rfl) rfl]
  simp (maxSteps := 1000000) only [go_sem, b_t_TopPathLightTimes, hs, aw, rep2, fc3 hs cA, fc3 hs cB, fA, fB, be, hz, hbe, Bool.not_true, Nat.reduceEqDiff, reduceCtorEq, Nat.reduceAdd, Nat.reduceMul, Nat.reduceSub, Int.reduceLT, Int.reduceLE, Int.reduceEq, Int.reduceAdd, Int.reduceSub, Int.reduceNeg, Int.reduceToNat, Int.cast_ofNat_Int, ↓reduceIte, Nat.reduceLeDiff, Nat.lt_add_one, Nat.reduceLT, Nat.zero_lt_one, ne_eq, not_true, not_false_eq_true]
 have hbe' : trErr l 0 = 0 ∧ trErr l' 0 = 0 := by
  unfold botErr at hbe
  split at hbe
  ·exact ⟨by assumption, hbe⟩
  ·exact absurd hbe (by assumption)
 rw [hbe] at be
 have va := (trErr_zero hbe'.1).1
 have vb := (trErr_zero hbe'.2).1
 rw [cpO_pos va.pos] at cA fA be
 rw [cpO_pos vb.pos] at cB fB be
 have w0 : ∀ r, callL AP (.fn 8) [I D0, I 0, I 1000] (s.push r) = some (B (wi D0 0 1000), s.push r) := fun r => b_Within
 have w1 : ∀ r, callL AP (.fn 8) [I D1, I 0, I 1000] (s.push r) = some (B (wi D1 0 1000), s.push r) := fun r => b_Within
 cases hw0 : wi D0 0 1000 with
 | false =>
  rw [hw0] at w0
  rw [callL_go (show AP 3 = some c_t_TopPathLightTimes from rfl) rfl]
  simp (maxSteps := 1000000) only [go_sem, b_t_TopPathLightTimes, hs, aw, rep2, rep1, fc3 hs cA, fc3 hs cB, fA, fB, be, w0, w1, Bool.not_true, ne_eq, not_true, Nat.reduceEqDiff, reduceCtorEq, Nat.reduceAdd, Nat.reduceMul, Nat.reduceSub, Int.reduceLT, Int.reduceLE, Int.reduceEq, Int.reduceAdd, Int.reduceSub, Int.reduceNeg, Int.reduceToNat, Int.cast_ofNat_Int, ↓reduceIte, Nat.reduceLeDiff, Nat.lt_add_one, Nat.reduceLT, Nat.zero_lt_one, ne_eq, not_true, not_false_eq_true]
 | true =>
 rw [hw0] at w0
 cases hw1 : wi D1 0 1000 with
 | false =>
  rw [hw1] at w1
  rw [callL_go (show AP 3 = some c_t_TopPathLightTimes from rfl) rfl]
  simp (maxSteps := 1000000) only [go_sem, b_t_TopPathLightTimes, hs, aw, rep2, rep1, fc3 hs cA, fc3 hs cB, fA, fB, be, w0, w1, Bool.not_true, ne_eq, not_true, Nat.reduceEqDiff, reduceCtorEq, Nat.reduceAdd, Nat.reduceMul, Nat.reduceSub, Int.reduceLT, Int.reduceLE, Int.reduceEq, Int.reduceAdd, Int.reduceSub, Int.reduceNeg, Int.reduceToNat, Int.cast_ofNat_Int, ↓reduceIte, Nat.reduceLeDiff, Nat.lt_add_one, Nat.reduceLT, Nat.zero_lt_one, ne_eq, not_true, not_false_eq_true]
 | true =>
 rw [hw1] at w1
 have hd0 := wi_iff.1 hw0
 have hd1 := wi_iff.1 hw1
 have p0 : ∀ r, callL AP (.fn 9) [.agg [I S0.1, I S0.2.1, I S0.2.2], I D0] (s.push r) = some (B (vinB D0 S0), s.push r) := fun r => t_pathWithin (v := S0) (by omega) (by omega) (hs.push r)
 have p1 : ∀ r, callL AP (.fn 9) [.agg [I S1.1, I S1.2.1, I S1.2.2], I D1] (s.push r) = some (B (vinB D1 S1), s.push r) := fun r => t_pathWithin (v := S1) (by omega) (by omega) (hs.push r)
 cases hv0 : vinB D0 S0 with
 | false =>
  rw [hv0] at p0
  rw [callL_go (show AP 3 = some c_t_TopPathLightTimes from rfl) rfl]
  simp (maxSteps := 1000000) only [go_sem, b_t_TopPathLightTimes, hs, aw, rep2, rep1, fc3 hs cA, fc3 hs cB, fA, fB, be, w0, w1, p0, p1, Bool.not_true, ne_eq, not_true, Nat.reduceEqDiff, reduceCtorEq, Nat.reduceAdd, Nat.reduceMul, Nat.reduceSub, Int.reduceLT, Int.reduceLE, Int.reduceEq, Int.reduceAdd, Int.reduceSub, Int.reduceNeg, Int.reduceToNat, Int.cast_ofNat_Int, ↓reduceIte, Nat.reduceLeDiff, Nat.lt_add_one, Nat.reduceLT, Nat.zero_lt_one, ne_eq, not_true, not_false_eq_true]
 | true =>
 rw [hv0] at p0
 cases hv1 : vinB D1 S1 with
 | false =>
  rw [hv1] at p1
  rw [callL_go (show AP 3 = some c_t_TopPathLightTimes from rfl) rfl]
  simp (maxSteps := 1000000) only [go_sem, b_t_TopPathLightTimes, hs, aw, rep2, rep1, fc3 hs cA, fc3 hs cB, fA, fB, be, w0, w1, p0, p1, Bool.not_true, ne_eq, not_true, Nat.reduceEqDiff, reduceCtorEq, Nat.reduceAdd, Nat.reduceMul, Nat.reduceSub, Int.reduceLT, Int.reduceLE, Int.reduceEq, Int.reduceAdd, Int.reduceSub, Int.reduceNeg, Int.reduceToNat, Int.cast_ofNat_Int, ↓reduceIte, Nat.reduceLeDiff, Nat.lt_add_one, Nat.reduceLT, Nat.zero_lt_one, ne_eq, not_true, not_false_eq_true]
 | true =>
 rw [hv1] at p1
 have te : ∀ r, callL AP (.fn 10) [tv .any l 0, tv .any l' 0, I t] (s.push r) = some (I (tsErr l l' t), s.push r) := fun r => r_TimesErr va.pos hl vb.pos hl' (hs.push r)
 by_cases hte : tsErr l l' t = 0
 case neg =>
  have hz : decide (tsErr l l' t ≠ 0) = true := by simp [hte]
  rw [callL_go (show AP 3 = some c_t_TopPathLightTimes from rfl) rfl]
  simp (maxSteps := 1000000) only [go_sem, b_t_TopPathLightTimes, hs, aw, rep2, rep1, fc3 hs cA, fc3 hs cB, fA, fB, be, w0, w1, p0, p1, te, hz, hte, Bool.not_true, ne_eq, not_true, Nat.reduceEqDiff, reduceCtorEq, Nat.reduceAdd, Nat.reduceMul, Nat.reduceSub, Int.reduceLT, Int.reduceLE, Int.reduceEq, Int.reduceAdd, Int.reduceSub, Int.reduceNeg, Int.reduceToNat, Int.cast_ofNat_Int, ↓reduceIte, Nat.reduceLeDiff, Nat.lt_add_one, Nat.reduceLT, Nat.zero_lt_one, ne_eq, not_true, not_false_eq_true]
 rw [hte] at te
 have hvi0 := vinB_iff.1 hv0
 have hvi1 := vinB_iff.1 hv1
 have hk0 : vin 1000 S0 := by simp only [vin] at hvi0 ⊢; omega
 have hk1 : vin 1000 S1 := by simp only [vin] at hvi1 ⊢; omega
 have sc : ∀ m, Ok m → callL AP (.fn 11) [.agg [.slice .any 4 (l.map rowK), I 0], .agg [I S0.1, I S0.2.1, I S0.2.2], I D0] m = some (.agg [.slice .any 4 ((shL S0 l).map rowK), I D0], m) := fun m hm => t_pathShifted va hk0 hm
 have sd : ∀ m, Ok m → callL AP (.fn 11) [.agg [.slice .any 4 (l'.map rowK), I 0], .agg [I S1.1, I S1.2.1, I S1.2.2], I D1] m = some (.agg [.slice .any 4 ((shL S1 l').map rowK), I D1], m) := fun m hm => t_pathShifted vb hk1 hm
 have be2 : ∀ r, callL AP (.fn 7) [tv .any (shL S0 l) D0, tv .any (shL S1 l') D1] (s.push r) = some (I (botErr (shL S0 l) D0 (shL S1 l') D1), s.push r) := fun r => r_BothErr (.inl rfl) (by rw [sh_len]; exact hl) (.inl rfl) (by rw [sh_len]; exact hl') (hs.push r)
 by_cases hb2 : botErr (shL S0 l) D0 (shL S1 l') D1 = 0
 case neg =>
  have hz : decide (botErr (shL S0 l) D0 (shL S1 l') D1 ≠ 0) = true := by simp [hb2]
  rw [callL_go (show AP 3 = some c_t_TopPathLightTimes from rfl) rfl]
  simp (maxSteps := 1000000) only [go_sem, b_t_TopPathLightTimes, hs, aw, rep2, rep1, fc3 hs cA, fc3 hs cB, fA, fB, be, w0, w1, p0, p1, te, fc5 hs sc, fc5 hs sd, be2, hz, hb2, Bool.not_true, ne_eq, not_true, Nat.reduceEqDiff, reduceCtorEq, Nat.reduceAdd, Nat.reduceMul, Nat.reduceSub, Int.reduceLT, Int.reduceLE, Int.reduceEq, Int.reduceAdd, Int.reduceSub, Int.reduceNeg, Int.reduceToNat, Int.cast_ofNat_Int, ↓reduceIte, Nat.reduceLeDiff, Nat.lt_add_one, Nat.reduceLT, Nat.zero_lt_one, ne_eq, not_true, not_false_eq_true]
 rw [hb2] at be2
 have hb2' : trErr (shL S0 l) D0 = 0 ∧ trErr (shL S1 l') D1 = 0 := by
  unfold botErr at hb2
  split at hb2
  ·exact ⟨by assumption, hb2⟩
  ·exact absurd hb2 (by assumption)
 have ctx : Ctx l l' S0 S1 D0 D1 := ⟨va, vb, (trErr_zero hb2'.1).1, (trErr_zero hb2'.2).1, hw0, hw1, hvi0, hvi1⟩
 have hof : ofT (tru l) t ∧ ofT (tru l') t := by
  unfold tsErr tErr at hte
  cases q1 : wi t (fst l) (lst l) <;> cases q2 : wi t (fst l') (lst l') <;> simp [q1, q2] at hte
  exact ⟨wi_iff.1 q1, wi_iff.1 q2⟩
 obtain ⟨ot, ot'⟩ := hof
 have enc := ctx.enc ot ot'
 have gok := (gp_ok ctx.ta ctx.tb ot ot').d1
 have elo := enc.lo (by omega)
 have ehi := enc.hi (by omega)
 have dO : ∀ m, Ok m → callL AP (.fn 12) [.agg [.slice .any 4 (l.map rowK), I 0], .agg [.slice .any 4 (l'.map rowK), I 0], I t] m = some (.tuple [.agg [I (disLo (gp (tru l) t (tru l') t)), I (disHi (gp (tru l) t (tru l') t))], I 0], m) := fun m hm => path_DistanceAt (.inl rfl) ctx.ta ctx.tb ot ot' hm
 have dK : ∀ m, Ok m → callL AP (.fn 12) [.agg [.slice .any 4 ((shL S0 l).map rowK), I D0], .agg [.slice .any 4 ((shL S1 l').map rowK), I D1], I t] m = some (.tuple [.agg [I (disLo (gp (shL S0 l, D0) t (shL S1 l', D1) t)), I (disHi (gp (shL S0 l, D0) t (shL S1 l', D1) t))], I 0], m) := fun m hm => path_DistanceAt (.inl rfl) ctx.tc ctx.td (of_sh.2 ot) (of_sh.2 ot') hm
 have rC : ∀ m, Ok m → callL AP (.fn 13) [.agg [.slice .any 4 ((shL S0 l).map rowK), I D0], .agg [.slice .any 4 ((shL S1 l').map rowK), I D1], I t] m = some (tuR (recvE (shL S0 l, D0) (shL S1 l', D1) t), m) := fun m hm => path_ReceivedAt (.inl rfl) ctx.tc ctx.td hm
 have rT : ∀ m, Ok m → callL AP (.fn 13) [.agg [.slice .any 4 (l.map rowK), I 0], .agg [.slice .any 4 (l'.map rowK), I 0], I t] m = some (tuR (recvE (tru l) (tru l') t), m) := fun m hm => path_ReceivedAt (.inl rfl) ctx.ta ctx.tb hm
 have tC : ∀ m, Ok m → callL AP (.fn 14) [.agg [.slice .any 4 ((shL S0 l).map rowK), I D0], .agg [.slice .any 4 ((shL S1 l').map rowK), I D1], I t] m = some (tuR (rtrip (shL S0 l, D0) (shL S1 l', D1) t), m) := fun m hm => path_RoundTrip (.inl rfl) ctx.tc ctx.td hm
 have tT : ∀ m, Ok m → callL AP (.fn 14) [.agg [.slice .any 4 (l.map rowK), I 0], .agg [.slice .any 4 (l'.map rowK), I 0], I t] m = some (tuR (rtrip (tru l) (tru l') t), m) := fun m hm => path_RoundTrip (.inl rfl) ctx.ta ctx.tb hm
 have pa : ∀ m, Ok m → callL AP (.fn 5) [.agg [.slice .any 4 (l.map rowK), I 0]] m = some (.agg [.slice .any 4 (l.map rowK), I 0], m) := fun m hm => by
  have := r_Copy (o := .any) (l := l) (d := 0) hA hm
  rwa [cpO_pos va.pos] at this
 have pb : ∀ m, Ok m → callL AP (.fn 5) [.agg [.slice .any 4 (l'.map rowK), I 0]] m = some (.agg [.slice .any 4 (l'.map rowK), I 0], m) := fun m hm => by
  have := r_Copy (o := .any) (l := l') (d := 0) hB hm
  rwa [cpO_pos vb.pos] at this
 have pc : ∀ m, Ok m → callL AP (.fn 5) [.agg [.slice .any 4 ((shL S0 l).map rowK), I D0]] m = some (.agg [.slice .any 4 ((shL S0 l).map rowK), I D0], m) := fun m hm => by
  have := r_Copy (o := .any) (l := shL S0 l) (d := D0) (.of (by rw [sh_len]; exact hl)) hm
  rwa [cpO_pos ctx.vc.pos] at this
 have pd : ∀ m, Ok m → callL AP (.fn 5) [.agg [.slice .any 4 ((shL S1 l').map rowK), I D1]] m = some (.agg [.slice .any 4 ((shL S1 l').map rowK), I D1], m) := fun m hm => by
  have := r_Copy (o := .any) (l := shL S1 l') (d := D1) (.of (by rw [sh_len]; exact hl')) hm
  rwa [cpO_pos ctx.vd.pos] at this
 have er0 := recvE_err (t := t) (a := (shL S0 l, D0)) (b := (shL S1 l', D1))
 have er1 := rtrip_err (t := t) (a := (shL S0 l, D0)) (b := (shL S1 l', D1))
 have en0 : (recvE (shL S0 l, D0) (shL S1 l', D1) t).e = 2 → False := fun h => by
  unfold recvE at h
  rw [if_pos ⟨of_sh.2 ot, of_sh.2 ot'⟩] at h
  unfold recv at h
  split at h <;> cases h
 have rv := ctx.recv' (t := t)
 have tp := ctx.trip (t := t)
 generalize recvE (shL S0 l, D0) (shL S1 l', D1) t = rc at *
 generalize recvE (tru l) (tru l') t = rt at *
 generalize rtrip (shL S0 l, D0) (shL S1 l', D1) t = tc at *
 generalize rtrip (tru l) (tru l') t = tt at *
 generalize disLo (gp (tru l) t (tru l') t) = ol at *
 generalize disHi (gp (tru l) t (tru l') t) = oh at *
 generalize disLo (gp (shL S0 l, D0) t (shL S1 l', D1) t) = kl at *
 generalize disHi (gp (shL S0 l, D0) t (shL S1 l', D1) t) = kh at *
 generalize shL S0 l = l2 at *
 generalize shL S1 l' = l2' at *
 obtain ⟨c1, c2, c3⟩ := rc
 obtain ⟨x1, x2, x3⟩ := rt
 obtain ⟨y1, y2, y3⟩ := tc
 obtain ⟨z1, z2, z3⟩ := tt
 simp only at er0 er1 en0 rv tp
 have q1 : decide (ol < kl) = false := decide_eq_false (by omega)
 have q2 : decide (kh < oh) = false := decide_eq_false (by omega)
 by_cases hc3 : c3 = 0
 case neg =>
  have : c3 = 12 := by
   rcases er0 with h | h | h
   ·exact absurd h hc3
   ·exact (en0 h).elim
   ·exact h
  subst this
  rw [callL_go (show AP 3 = some c_t_TopPathLightTimes from rfl) rfl]
  simp (maxSteps := 1000000) only [go_sem, b_t_TopPathLightTimes, hs, aw, rep2, rep1, fc3 hs cA, fc3 hs cB, fA, fB, be, w0, w1, p0, p1, te, fc5 hs sc, fc5 hs sd, be2, fc6 hs pa, fc6 hs pb, fc6 hs dO, fc7 hs pc, fc7 hs pd, fc7 hs dK, q1, q2, fc8 hs pc, fc8 hs pd, fc8 hs rC, slot9, slot10, slot11, Bool.not_true, ne_eq, not_true, Nat.reduceEqDiff, reduceCtorEq, Nat.reduceAdd, Nat.reduceMul, Nat.reduceSub, Int.reduceLT, Int.reduceLE, Int.reduceEq, Int.reduceAdd, Int.reduceSub, Int.reduceNeg, Int.reduceToNat, Int.cast_ofNat_Int, ↓reduceIte, Nat.reduceLeDiff, Nat.lt_add_one, Nat.reduceLT, Nat.zero_lt_one, ne_eq, not_true, not_false_eq_true]
 subst hc3
 obtain ⟨rfl, rv1, rv2, rv3⟩ := rv rfl
 have q3 : decide (x1 < c1) = false := decide_eq_false (by omega)
 have q4 : decide (c2 < x2) = false := decide_eq_false (by omega)
 by_cases hy3 : y3 = 0
 case neg =>
  have hz : decide (y3 ≠ 0) = true := by simp [hy3]
  have : y3 = 12 ∨ y3 = 2 := by
   rcases er1 with h | h | h
   ·exact absurd h hy3
   ·exact .inr h
   ·exact .inl h
  rcases this with rfl | rfl <;>
  ·rw [callL_go (show AP 3 = some c_t_TopPathLightTimes from rfl) rfl]
   simp (maxSteps := 1000000) only [go_sem, b_t_TopPathLightTimes, hs, aw, rep2, rep1, fc3 hs cA, fc3 hs cB, fA, fB, be, w0, w1, p0, p1, te, fc5 hs sc, fc5 hs sd, be2, fc6 hs pa, fc6 hs pb, fc6 hs dO, fc7 hs pc, fc7 hs pd, fc7 hs dK, q1, q2, fc8 hs pc, fc8 hs pd, fc8 hs rC, fc9 hs pa, fc9 hs pb, fc9 hs rT, q3, q4, fc10 hs pc, fc10 hs pd, fc10 hs tC, slot9, slot10, slot11, Bool.not_true, ne_eq, not_true, Nat.reduceEqDiff, reduceCtorEq, Nat.reduceAdd, Nat.reduceMul, Nat.reduceSub, Int.reduceLT, Int.reduceLE, Int.reduceEq, Int.reduceAdd, Int.reduceSub, Int.reduceNeg, Int.reduceToNat, Int.cast_ofNat_Int, ↓reduceIte, Nat.reduceLeDiff, Nat.lt_add_one, Nat.reduceLT, Nat.zero_lt_one, ne_eq, not_true, not_false_eq_true]
 subst hy3
 obtain ⟨rfl, tp1, tp2⟩ := tp rfl
 have q5 : decide (y1 ≤ z1) = true := decide_eq_true (by omega)
 have q6 : decide (z2 ≤ y2) = true := decide_eq_true (by omega)
 rw [callL_go (show AP 3 = some c_t_TopPathLightTimes from rfl) rfl]
 simp (maxSteps := 1000000) only [go_sem, b_t_TopPathLightTimes, hs, aw, rep2, rep1, fc3 hs cA, fc3 hs cB, fA, fB, be, w0, w1, p0, p1, te, fc5 hs sc, fc5 hs sd, be2, fc6 hs pa, fc6 hs pb, fc6 hs dO, fc7 hs pc, fc7 hs pd, fc7 hs dK, q1, q2, fc8 hs pc, fc8 hs pd, fc8 hs rC, fc9 hs pa, fc9 hs pb, fc9 hs rT, q3, q4, fc10 hs pc, fc10 hs pd, fc10 hs tC, fc11 hs pa, fc11 hs pb, fc11 hs tT, q5, q6, slot9, slot10, slot11, Bool.not_true, ne_eq, not_true, Nat.reduceEqDiff, reduceCtorEq, Nat.reduceAdd, Nat.reduceMul, Nat.reduceSub, Int.reduceLT, Int.reduceLE, Int.reduceEq, Int.reduceAdd, Int.reduceSub, Int.reduceNeg, Int.reduceToNat, Int.cast_ofNat_Int, ↓reduceIte, Nat.reduceLeDiff, Nat.lt_add_one, Nat.reduceLT, Nat.zero_lt_one, ne_eq, not_true, not_false_eq_true]
end
end Go.Ax.Sx.Lt
