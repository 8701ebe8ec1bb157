/- A part of the proof. -/
import Derived.Test.YtdopccjokmnccaaT8
namespace Go.Ax.Sx.Lt
open Go.Ax
set_option linter.unusedSimpArgs false
set_option linter.unusedVariables false
set_option maxRecDepth 100000
section
variable {s : Sig}
theorem loadr_ptr {r : Rec} {q : Nat} {g : Bool} {n b off : Nat} : loadrOp (s.push r) q g n (.ptr s.acts.length b off) = if r.boxes.length ≤ b + q then none else (s.push r).load g n (.ptr s.acts.length b off) := by
 unfold loadrOp
 simp only [cur_push, nbox_push, true_and]
theorem loadr_eptr {m : Sig} {q : Nat} {g : Bool} {n off : Nat} {cs : List AV} : loadrOp m q g n (.eptr cs off) = m.load g n (.eptr cs off) := rfl
theorem fill_ptr {r : Rec} {k n b off : Nat} {y : AV} : fillOp (s.push r) k n (.ptr s.acts.length b off) y = if b = r.boxes.length - k ∧ 0 < k then (s.push r).store n (.ptr s.acts.length b off) y else none := by
 unfold fillOp
 simp only [cur_push, nbox_push, true_and]
theorem loadd_ptr {r : Rec} {g : Bool} {n b off : Nat} (h : (r.boxes.drop (b + 1)).any List.isEmpty = true) : loaddOp (s.push r) g n (.ptr s.acts.length b off) = (s.push r).load g n (.ptr s.acts.length b off) := by
 unfold loaddOp
 have : (s.push r).deadAbove b = true := by
  unfold Sig.deadAbove
  rw [cur_push]
  simp [Sig.push, h]
 simp only [cur_push, this, true_and, Bool.true_eq_false, if_false]
theorem loadd_eptr {m : Sig} {g : Bool} {n off : Nat} {cs : List AV} : loaddOp m g n (.eptr cs off) = m.load g n (.eptr cs off) := rfl
attribute [go_sem] loadr_ptr loadr_eptr fill_ptr loadd_eptr
theorem onBool_undef {β : Type} {f : Bool → β} {d : β} : onBool AV.undef f d = d := rfl
attribute [go_sem] onBool_undef
theorem rep1 : List.replicate 1 ([] : List AV) = [[]] := rfl
theorem rep2 : List.replicate 2 ([] : List AV) = [[], []] := rfl
section
variable {a b c d e f g r x : List AV} {z : AV}
theorem slot2 : slotL [a, []] [] 1 (z :: r) = some (1, [a, z :: r]) := rfl
theorem slot3 : slotL [a, b, []] [] 1 (z :: r) = some (2, [a, b, z :: r]) := rfl
theorem slot4 : slotL [a, b, c, []] [] 1 (z :: r) = some (3, [a, b, c, z :: r]) := rfl
theorem slot5 : slotL [a, b, c, d, []] [] 1 (z :: r) = some (4, [a, b, c, d, z :: r]) := rfl
theorem slot6 : slotL [a, b, c, d, e, []] [] 1 (z :: r) = some (5, [a, b, c, d, e, z :: r]) := rfl
theorem slot7 : slotL [a, b, c, d, e, f, []] [] 1 (z :: r) = some (6, [a, b, c, d, e, f, z :: r]) := rfl
theorem slot8 : slotL [a, b, c, d, e, f, g, []] [] 1 (z :: r) = some (7, [a, b, c, d, e, f, g, z :: r]) := rfl
theorem slot32 : slotL [a, [], []] [] 2 (z :: r) = some (1, [a, z :: r, []]) := rfl
theorem slot42 : slotL [a, b, [], []] [] 2 (z :: r) = some (2, [a, b, z :: r, []]) := rfl
theorem slot52 : slotL [a, b, c, [], []] [] 2 (z :: r) = some (3, [a, b, c, z :: r, []]) := rfl
theorem slot62 : slotL [a, b, c, d, [], []] [] 2 (z :: r) = some (4, [a, b, c, d, z :: r, []]) := rfl
theorem slot72 : slotL [a, b, c, d, e, [], []] [] 2 (z :: r) = some (5, [a, b, c, d, e, z :: r, []]) := rfl
end
attribute [go_sem] slot2 slot3 slot4 slot5 slot6 slot7 slot8 slot32 slot42 slot52 slot62 slot72
theorem tail_push {bx : List (List AV)} {tk : List (Option Nat)} {r : Nat} : (s.push ⟨bx, tk⟩).tail r = bx.drop (bx.length - r) := by
 unfold Sig.tail
 rw [cur_push]
 simp [Sig.push]
theorem setTail_ok {m : Sig} {r : Nat} {bx : List (List AV)} (h : Ok m) : Ok (m.setTail r bx) := ⟨by have := h.ro; simp only [Sig.setTail, Sig.onRec, List.length_modify]; exact this, h.lro⟩
theorem fc_keep {m : Sig} {ro : Bool} {zss : List (List AV)} {f : FuncId} {args : List AV} {v : AV} (hm : Ok m) (h : ∀ m, Ok m → callL AP (.fn f) args m = some (v, m)) (ht : m.tail zss.length ∈ fills zss) :
  fcallOp (callL AP) ro m zss (.fn f) args = some (v, m) := by
 have hd : ∀ m, Ok m → doCall (callL AP) ro m (.fn f) args = some (v, m) := fun m hm => by
  unfold doCall
  cases ro with
  | false => simp only [Bool.false_eq_true, if_false]; exact h m hm
  | true =>
   simp only [if_true]
   have := h (roS m) ok_roS
   rw [show ({ m with ro := m.acts.length, lro := m.loops.length } : Sig) = roS m from rfl, this]; rfl
 exact fcallOp_iff.2 ⟨hd m hm, ht, fun bx _ => hd _ (setTail_ok hm), rfl, rfl, rfl, fun _ => rfl, fun h => h⟩
theorem callL_inlgo {f : FuncId} {np nt : Nat} {b : ACode} {rs : List ARes} {own : Bool} (hf : AP f = some (.code np nt b rs own)) {as : List AV} {m : Sig} (hl : as.length = np) (hm : m.ro < m.acts.length) :
  callL AP (.inl f) as m = go AP (fun e st => match e with | .exit _ => none | _ => (rawsOf st rs).map fun l => (packed l, st.sig)) [.c b] ⟨argsT as, m⟩ := by
 rw [callL_inl hf, if_pos ⟨hl, hm⟩]
 simp only [go, goE]
 cases h : runL AP b ⟨argsT as, m⟩ with
 | none => rfl
 | some p => obtain ⟨e, st'⟩ := p; cases e <;> rfl
end
structure Kn where
 t : Int
 x : Int
 y : Int
 z : Int
abbrev rowK (k : Kn) : List AV := [I k.t, I k.x, I k.y, I k.z]
abbrev V3 := Int × Int × Int
abbrev rowV (v : V3) : List AV := [I v.1, I v.2.1, I v.2.2]
def Kn.p (k : Kn) : V3 := (k.x, k.y, k.z)
def vsub (a b : V3) : V3 := (a.1 - b.1, a.2.1 - b.2.1, a.2.2 - b.2.2)
def vadd (a b : V3) : V3 := (a.1 + b.1, a.2.1 + b.2.1, a.2.2 + b.2.2)
def vmul (a : V3) (n : Int) : V3 := (a.1 * n, a.2.1 * n, a.2.2 * n)
def vdot (a b : V3) : Int := a.1 * b.1 + a.2.1 * b.2.1 + a.2.2 * b.2.2
def vin (m : Int) (v : V3) : Prop := (-m ≤ v.1 ∧ v.1 ≤ m) ∧ (-m ≤ v.2.1 ∧ v.2.1 ≤ m) ∧ (-m ≤ v.2.2 ∧ v.2.2 ≤ m)
abbrev tv (o : Own) (l : List Kn) (d : Int) : AV := .agg [.slice o 4 (l.map rowK), I d]
def wi (a b c : Int) : Bool := decide (b ≤ a) && decide (a ≤ c)
theorem wi_iff {a b c : Int} : wi a b c = true ↔ b ≤ a ∧ a ≤ c := by simp [wi]
def vinB (m : Int) (v : V3) : Bool := (wi v.1 (-m) m && wi v.2.1 (-m) m) && wi v.2.2 (-m) m
theorem vinB_iff {m : Int} {v : V3} : vinB m v = true ↔ vin m v := by
 simp only [vinB, Bool.and_eq_true, wi_iff, vin, and_assoc]
def kIn (k : Kn) : Bool := wi k.t 0 1000000000000 && vinB 1000000 k.p
def kStep (a b : Kn) : Int :=
 if b.t ≤ a.t then 9 else if 10000 < b.t - a.t then 14 else if (b.t - a.t) * (b.t - a.t) < 4 * vdot (vsub b.p a.p) (vsub b.p a.p) then 23 else 0
def kErr (l : List Kn) (i : Nat) : Int := match l[i]? with
 | none => 0
 | some k => if kIn k = false then 2 else if i = 0 then 0 else match l[i - 1]? with
  | none => 0
  | some a => kStep a k
def ksErr (l : List Kn) : Nat → Nat → Int
 | 0, _ => 0
 | n + 1, i => if kErr l i = 0 then ksErr l n (i + 1) else kErr l i
def trErr (l : List Kn) (d : Int) : Int :=
 if l.length = 0 then 10 else if 12 < l.length then 8 else if ksErr l l.length 0 = 0 then (if wi d 0 1000 then 0 else 2) else ksErr l l.length 0
def trAt (l : List Kn) : Nat → Nat → Int
 | 0, _ => 0
 | n + 1, i => if kErr l i = 0 then trAt l n (i + 1) else i
structure VT (l : List Kn) : Prop where
 pos : 0 < l.length
 few : l.length ≤ 12
 kin : ∀ k ∈ l, kIn k = true
 step : ∀ (i : Nat) (a b : Kn), l[i]? = some a → l[i + 1]? = some b → kStep a b = 0
theorem ksErr_zero {l : List Kn} : ∀ {n i : Nat}, ksErr l n i = 0 → ∀ j, i ≤ j → j < i + n → kErr l j = 0
 | 0, i, _, j, h1, h2 => by omega
 | n + 1, i, h, j, h1, h2 => by
  simp only [ksErr] at h
  split at h
  ·rename_i h0
   by_cases hj : j = i
   ·rw [hj]; exact h0
   ·exact ksErr_zero h j (by omega) (by omega)
  ·exact absurd h (by assumption)
theorem kStep_some {a b : Kn} (h : kStep a b = 0) : a.t < b.t ∧ b.t - a.t ≤ 10000 ∧ 4 * vdot (vsub b.p a.p) (vsub b.p a.p) ≤ (b.t - a.t) * (b.t - a.t) := by
 unfold kStep at h
 split at h
 ·cases h
 ·split at h
  ·cases h
  ·split at h
   ·cases h
   ·omega
theorem trErr_zero {l : List Kn} {d : Int} (h : trErr l d = 0) : VT l ∧ wi d 0 1000 = true := by
 unfold trErr at h
 split at h
 ·cases h
 split at h
 ·cases h
 split at h
 ·rename_i h1 h2 h3
  split at h
  ·rename_i hd
   have hk := ksErr_zero h3
   refine ⟨⟨by omega, by omega, fun k hm => ?_, fun i a b ha hb => ?_⟩, hd⟩
   ·obtain ⟨i, hi⟩ := List.getElem?_of_mem hm
    have := hk i (Nat.zero_le _) (by have := (List.getElem?_eq_some_iff.1 hi).1; omega)
    unfold kErr at this
    rw [hi] at this
    simp only at this
    split at this
    ·cases this
    ·rename_i hq; simpa using hq
   ·have := hk (i + 1) (Nat.zero_le _) (by have := (List.getElem?_eq_some_iff.1 hb).1; omega)
    unfold kErr at this
    rw [hb] at this
    simp only [Nat.add_sub_cancel, ha] at this
    split at this
    ·cases this
    ·split at this
     ·omega
     ·exact this
  ·cases h
 ·exact absurd h (by assumption)
end Go.Ax.Sx.Lt

namespace Go.Ax.Sx.Lt
open Go.Ax
set_option linter.unusedSimpArgs false
set_option linter.unusedVariables false
set_option maxRecDepth 100000
section
variable {s : Sig}
theorem b_Within {a b c : Int} : callL AP (.fn 8) [I a, I b, I c] s = some (B (wi a b c), s) := by
 rw [callL_go (show AP 8 = some c_b_Within from rfl) rfl]
 simp (maxSteps := 1000000) only [go_sem, b_b_Within, Nat.reduceEqDiff, reduceCtorEq, Nat.reduceAdd, Nat.reduceMul, Nat.reduceSub, Int.reduceLT, Int.reduceLE, Int.reduceEq, Int.reduceAdd, Int.reduceSub, Int.reduceNeg, Int.reduceToNat, Int.cast_ofNat_Int, ↓reduceIte, Nat.reduceLeDiff, Nat.lt_add_one, Nat.reduceLT, Nat.zero_lt_one, ne_eq, not_true, not_false_eq_true]
 unfold wi
 cases decide (b ≤ a) <;> cases decide (a ≤ c) <;> rfl
theorem path_within {a b c : Int} : callL AP (.fn 29) [I a, I b, I c] s = some (B (wi a b c), s) := by
 rw [callL_go (show AP 29 = some c_path_within from rfl) rfl]
 simp (maxSteps := 1000000) only [go_sem, b_path_within, Nat.reduceEqDiff, reduceCtorEq, Nat.reduceAdd, Nat.reduceMul, Nat.reduceSub, Int.reduceLT, Int.reduceLE, Int.reduceEq, Int.reduceAdd, Int.reduceSub, Int.reduceNeg, Int.reduceToNat, Int.cast_ofNat_Int, ↓reduceIte, Nat.reduceLeDiff, Nat.lt_add_one, Nat.reduceLT, Nat.zero_lt_one, ne_eq, not_true, not_false_eq_true]
 unfold wi
 cases decide (b ≤ a) <;> cases decide (a ≤ c) <;> rfl
theorem b_IsTick {a : Int} : callL AP (.fn 53) [I a] s = some (B (wi a 0 1000000000000), s) := by
 rw [callL_go (show AP 53 = some c_b_IsTick from rfl) rfl]
 simp (maxSteps := 1000000) only [go_sem, b_b_IsTick, b_Within, Nat.reduceEqDiff, reduceCtorEq, Nat.reduceAdd, Nat.reduceMul, Nat.reduceSub, Int.reduceLT, Int.reduceLE, Int.reduceEq, Int.reduceAdd, Int.reduceSub, Int.reduceNeg, Int.reduceToNat, Int.cast_ofNat_Int, ↓reduceIte, Nat.reduceLeDiff, Nat.lt_add_one, Nat.reduceLT, Nat.zero_lt_one, ne_eq, not_true, not_false_eq_true]
theorem path_unless {c : Bool} {e : Int} : callL AP (.fn 44) [B c, I e] s = some (I (cond c 0 e), s) := by
 rw [callL_go (show AP 44 = some c_path_unless from rfl) rfl]
 simp (maxSteps := 1000000) only [go_sem, b_path_unless, Nat.reduceEqDiff, reduceCtorEq, Nat.reduceAdd, Nat.reduceMul, Nat.reduceSub, Int.reduceLT, Int.reduceLE, Int.reduceEq, Int.reduceAdd, Int.reduceSub, Int.reduceNeg, Int.reduceToNat, Int.cast_ofNat_Int, ↓reduceIte, Nat.reduceLeDiff, Nat.lt_add_one, Nat.reduceLT, Nat.zero_lt_one, ne_eq, not_true, not_false_eq_true]
 cases c <;> rfl
theorem path_small {a m : Int} (h0 : 0 ≤ m) (h1 : m < 9223372036854775808) : callL AP (.fn 57) [I a, I m] s = some (B (wi a (-m) m), s) := by
 rw [callL_go (show AP 57 = some c_path_small from rfl) rfl]
 simp (maxSteps := 1000000) only [go_sem, b_path_small, path_within, wrap_id (x := -m) (by omega) (by omega), Nat.reduceEqDiff, reduceCtorEq, Nat.reduceAdd, Nat.reduceMul, Nat.reduceSub, Int.reduceLT, Int.reduceLE, Int.reduceEq, Int.reduceAdd, Int.reduceSub, Int.reduceNeg, Int.reduceToNat, Int.cast_ofNat_Int, ↓reduceIte, Nat.reduceLeDiff, Nat.lt_add_one, Nat.reduceLT, Nat.zero_lt_one, ne_eq, not_true, not_false_eq_true]
def firstErr : List Int → Int
 | [] => 0
 | x :: r => if x = 0 then firstErr r else x
theorem path_first {l : List Int} {o : Own} (hl : (l.length : Int) < 9223372036854775808) : callL AP (.fn 24) [.slice o 1 (ints l)] s = some (I (firstErr l), s) := by
 have key : ∀ k ρ m, k ≤ l.length → (ρ 5 = .slice o 1 (ints l) ∧ ρ 6 = I l.length ∧ ρ 7 = I k ∧ m = s.push ⟨[], []⟩) → go AP f_path_first (.c (.loop b_path_first_l0) :: k_path_first_0) ⟨ρ, m⟩ = some (I (firstErr (l.drop k)), s) := by
  refine loop_up l.length _ _ ?_ ?_
  ·rintro k ρ m hk ⟨h5, h6, h7, rfl⟩ ih
   obtain ⟨x, hx⟩ := get_some hk
   have hr := ix_sl (o := o) (es := 1) (ints_get hx)
   simp (maxSteps := 1000000) only [go_sem, b_path_first_l0, b_path_first_r0, h5, h6, h7, lt_dec hk, hr, ints_len, wrap_succ hk hl, Nat.reduceEqDiff, reduceCtorEq, Nat.reduceAdd, Nat.reduceMul, Nat.reduceSub, Int.reduceLT, Int.reduceLE, Int.reduceEq, Int.reduceAdd, Int.reduceSub, Int.reduceNeg, Int.reduceToNat, Int.cast_ofNat_Int, ↓reduceIte, Nat.reduceLeDiff, Nat.lt_add_one, Nat.reduceLT, Nat.zero_lt_one, ne_eq, not_true, not_false_eq_true]
   rw [drop_get hx]
   by_cases h0 : x = 0
   ·subst h0
    simp only [ne_eq, not_true, decide_false, cond_false]
    refine (ih _ _ ?_).trans rfl
    exact ⟨h5, h6, rfl, rfl⟩
   ·simp only [ne_eq, h0, not_false_iff, decide_true, cond_true, firstErr, if_false]
  ·rintro ρ m ⟨h5, h6, h7, rfl⟩
   simp (maxSteps := 1000000) only [go_sem, b_path_first_l0, b_path_first_r0, h6, h7, ge_dec, Nat.reduceEqDiff, reduceCtorEq, Nat.reduceAdd, Nat.reduceMul, Nat.reduceSub, Int.reduceLT, Int.reduceLE, Int.reduceEq, Int.reduceAdd, Int.reduceSub, Int.reduceNeg, Int.reduceToNat, Int.cast_ofNat_Int, ↓reduceIte, Nat.reduceLeDiff, Nat.lt_add_one, Nat.reduceLT, Nat.zero_lt_one, ne_eq, not_true, not_false_eq_true]
   rw [List.drop_length]; rfl
 rw [callL_go (show AP 24 = some c_path_first from rfl) rfl]
 simp (maxSteps := 1000000) only [go_sem, b_path_first, ints_len, Nat.reduceEqDiff, reduceCtorEq, Nat.reduceAdd, Nat.reduceMul, Nat.reduceSub, Int.reduceLT, Int.reduceLE, Int.reduceEq, Int.reduceAdd, Int.reduceSub, Int.reduceNeg, Int.reduceToNat, Int.cast_ofNat_Int, ↓reduceIte, Nat.reduceLeDiff, Nat.lt_add_one, Nat.reduceLT, Nat.zero_lt_one, ne_eq, not_true, not_false_eq_true]
 exact key 0 _ _ (Nat.zero_le _) ⟨rfl, rfl, rfl, rfl⟩
theorem path_first2 {a b : Int} : callL AP (.fn 24) [.slice .full 1 [[I a], [I b]]] s = some (I (firstErr [a, b]), s) := path_first (l := [a, b]) (show (2 : Int) < _ by decide)
theorem path_first3 {a b c : Int} : callL AP (.fn 24) [.slice .full 1 [[I a], [I b], [I c]]] s = some (I (firstErr [a, b, c]), s) := path_first (l := [a, b, c]) (show (3 : Int) < _ by decide)
theorem b_Minus {a b : V3} {m : Int} (hm : m ≤ 4000000000000000000) (ha : vin m a) (hb : vin m b) (hs : Ok s) : callL AP (.fn 55) [.agg (rowV a), .agg (rowV b)] s = some (.agg (rowV (vsub a b)), s) := by
 obtain ⟨a1, a2, a3⟩ := a
 obtain ⟨b1, b2, b3⟩ := b
 simp only [vin] at ha hb
 rw [callL_go (show AP 55 = some c_b_Minus from rfl) rfl]
 simp (maxSteps := 1000000) only [go_sem, b_b_Minus, hs, wrap_id (x := a1 - b1) (by omega) (by omega), wrap_id (x := a2 - b2) (by omega) (by omega), wrap_id (x := a3 - b3) (by omega) (by omega), Nat.reduceEqDiff, reduceCtorEq, Nat.reduceAdd, Nat.reduceMul, Nat.reduceSub, Int.reduceLT, Int.reduceLE, Int.reduceEq, Int.reduceAdd, Int.reduceSub, Int.reduceNeg, Int.reduceToNat, Int.cast_ofNat_Int, ↓reduceIte, Nat.reduceLeDiff, Nat.lt_add_one, Nat.reduceLT, Nat.zero_lt_one, ne_eq, not_true, not_false_eq_true]
 rfl
theorem sq_bound {a m : Int} (h1 : -m ≤ a) (h2 : a ≤ m) : 0 ≤ a * a ∧ a * a ≤ m * m := by
 constructor
 ·rcases Int.le_total 0 a with h | h
  ·exact Int.mul_nonneg h h
  ·have := Int.mul_nonneg (show 0 ≤ -a by omega) (show 0 ≤ -a by omega)
   rwa [Int.neg_mul_neg] at this
 ·have h3 := Int.mul_nonneg (show 0 ≤ m - a by omega) (show 0 ≤ m + a by omega)
  rw [Int.sub_mul, Int.mul_add, Int.mul_add, Int.mul_comm a m] at h3
  omega
theorem b_Dot {v : V3} (hv : vin 2000000 v) (hs : Ok s) : callL AP (.fn 61) [.agg (rowV v), .agg (rowV v)] s = some (I (vdot v v), s) := by
 obtain ⟨a1, a2, a3⟩ := v
 simp only [vin] at hv
 have s1 := sq_bound hv.1.1 hv.1.2
 have s2 := sq_bound hv.2.1.1 hv.2.1.2
 have s3 := sq_bound hv.2.2.1 hv.2.2.2
 rw [callL_go (show AP 61 = some c_b_Dot from rfl) rfl]
 simp (maxSteps := 1000000) only [go_sem, b_b_Dot, hs, wrap_id (x := a1 * a1) (by omega) (by omega), wrap_id (x := a2 * a2) (by omega) (by omega), wrap_id (x := a3 * a3) (by omega) (by omega), wrap_id (x := a1 * a1 + a2 * a2) (by omega) (by omega), wrap_id (x := a1 * a1 + a2 * a2 + a3 * a3) (by omega) (by omega), Nat.reduceEqDiff, reduceCtorEq, Nat.reduceAdd, Nat.reduceMul, Nat.reduceSub, Int.reduceLT, Int.reduceLE, Int.reduceEq, Int.reduceAdd, Int.reduceSub, Int.reduceNeg, Int.reduceToNat, Int.cast_ofNat_Int, ↓reduceIte, Nat.reduceLeDiff, Nat.lt_add_one, Nat.reduceLT, Nat.zero_lt_one, ne_eq, not_true, not_false_eq_true]
 try rfl
theorem b_Square {v : V3} (hv : vin 2000000 v) (hs : Ok s) : callL AP (.fn 54) [.agg (rowV v)] s = some (I (vdot v v), s) := by
 have e : ∀ r, callL AP (.fn 61) [.agg (rowV v), .agg (rowV v)] (s.push r) = some (I (vdot v v), s.push r) := fun r => b_Dot hv (hs.push r)
 obtain ⟨a1, a2, a3⟩ := v
 rw [callL_go (show AP 54 = some c_b_Square from rfl) rfl]
 simp (maxSteps := 1000000) only [go_sem, b_b_Square, hs, e, Nat.reduceEqDiff, reduceCtorEq, Nat.reduceAdd, Nat.reduceMul, Nat.reduceSub, Int.reduceLT, Int.reduceLE, Int.reduceEq, Int.reduceAdd, Int.reduceSub, Int.reduceNeg, Int.reduceToNat, Int.cast_ofNat_Int, ↓reduceIte, Nat.reduceLeDiff, Nat.lt_add_one, Nat.reduceLT, Nat.zero_lt_one, ne_eq, not_true, not_false_eq_true]
theorem t_pathWithin {v : V3} {d : Int} (h0 : -9223372036854775808 < d) (h1 : d < 9223372036854775808) (hs : Ok s) : callL AP (.fn 9) [.agg (rowV v), I d] s = some (B (vinB d v), s) := by
 obtain ⟨a1, a2, a3⟩ := v
 rw [callL_go (show AP 9 = some c_t_pathWithin from rfl) rfl]
 simp (maxSteps := 1000000) only [go_sem, b_t_pathWithin, hs, b_Within, wrap_id (x := -d) (by omega) (by omega), Nat.reduceEqDiff, reduceCtorEq, Nat.reduceAdd, Nat.reduceMul, Nat.reduceSub, Int.reduceLT, Int.reduceLE, Int.reduceEq, Int.reduceAdd, Int.reduceSub, Int.reduceNeg, Int.reduceToNat, Int.cast_ofNat_Int, ↓reduceIte, Nat.reduceLeDiff, Nat.lt_add_one, Nat.reduceLT, Nat.zero_lt_one, ne_eq, not_true, not_false_eq_true]
 unfold vinB
 simp only
theorem l_Few {o : Own} {l : List Kn} {d : Int} (hs : Ok s) : callL AP (.fn 6) [tv o l d] s = some (B (decide (l.length ≤ 14)), s) := by
 rw [callL_go (show AP 6 = some c_l_Few from rfl) rfl]
 simp (maxSteps := 1000000) only [go_sem, b_l_Few, hs, Nat.reduceEqDiff, reduceCtorEq, Nat.reduceAdd, Nat.reduceMul, Nat.reduceSub, Int.reduceLT, Int.reduceLE, Int.reduceEq, Int.reduceAdd, Int.reduceSub, Int.reduceNeg, Int.reduceToNat, Int.cast_ofNat_Int, ↓reduceIte, Nat.reduceLeDiff, Nat.lt_add_one, Nat.reduceLT, Nat.zero_lt_one, ne_eq, not_true, not_false_eq_true]
 have : decide ((l.length : Int) ≤ 14) = decide (l.length ≤ 14) := by simp; omega
 rw [this]
end
end Go.Ax.Sx.Lt

namespace Go.Ax.Sx.Lt
open Go.Ax
set_option linter.unusedSimpArgs false
set_option linter.unusedVariables false
set_option maxRecDepth 100000
section
variable {s : Sig}
theorem vin_sub {a b : V3} {m : Int} (ha : vin m a) (hb : vin m b) : vin (2 * m) (vsub a b) := by
 simp only [vin, vsub] at *; omega
theorem kIn_iff {k : Kn} : kIn k = true ↔ (0 ≤ k.t ∧ k.t ≤ 1000000000000) ∧ vin 1000000 k.p := by
 simp only [kIn, Bool.and_eq_true, wi_iff, vinB_iff]
theorem ix_ks {o : Own} {l : List Kn} {k : Nat} {a : Kn} (h : l[k]? = some a) : indexAddrOp none 4 (.slice o 4 (l.map rowK)) (.v (.int .i64 (k : Int))) = some (.eptr (rowK a) 0) := ix_map h
theorem r_knotErr {o : Own} {l : List Kn} {i : Nat} (hi : i < l.length) (hl : (l.length : Int) < 1000000) (hp : ∀ j k, j < i → l[j]? = some k → kIn k = true) (hs : Ok s) :
  callL AP (.fn 43) [.slice o 4 (l.map rowK), I i] s = some (I (kErr l i), s) := by
 obtain ⟨k, hk⟩ := get_some hi
 have hr := ix_ks (o := o) hk
 have e0 : kErr l i = if kIn k = false then 2 else if i = 0 then 0 else match l[i - 1]? with
  | none => 0
  | some a => kStep a k := by unfold kErr; rw [hk]; try rfl
 rw [e0]
 clear e0
 have hw1 : ∀ b : Int, IntKind.i64.wrap (-1000000) = -1000000 := fun _ => by decide
 obtain ⟨t, x, y, z⟩ := k
 have hin : kIn ⟨t, x, y, z⟩ = ((wi t 0 1000000000000 && wi x (-1000000) 1000000) && wi y (-1000000) 1000000 && wi z (-1000000) 1000000) := by
  simp only [kIn, vinB, Kn.p]
  cases wi t 0 1000000000000 <;> cases wi x (-1000000) 1000000 <;> cases wi y (-1000000) 1000000 <;> cases wi z (-1000000) 1000000 <;> rfl
 rw [callL_go (show AP 43 = some c_r_knotErr from rfl) rfl]
 cases hki : kIn ⟨t, x, y, z⟩ with
 | false =>
  rw [hin] at hki
  cases h1 : wi t 0 1000000000000 <;> cases h2 : wi x (-1000000) 1000000 <;> cases h3 : wi y (-1000000) 1000000 <;> cases h4 : wi z (-1000000) 1000000 <;> rw [h1, h2, h3, h4] at hki <;> first
   | (cases hki; done)
   | (simp (maxSteps := 1000000) only [go_sem, b_r_knotErr, hs, hr, b_IsTick, b_Within, hw1, h1, h2, h3, h4, Bool.not_false, Bool.not_true, Nat.reduceEqDiff, reduceCtorEq, Nat.reduceAdd, Nat.reduceMul, Nat.reduceSub, Int.reduceLT, Int.reduceLE, Int.reduceEq, Int.reduceAdd, Int.reduceSub, Int.reduceNeg, Int.reduceToNat, Int.cast_ofNat_Int, ↓reduceIte, Nat.reduceLeDiff, Nat.lt_add_one, Nat.reduceLT, Nat.zero_lt_one, ne_eq, not_true, not_false_eq_true]; done)
 | true =>
  have hki' := kIn_iff.1 hki
  rw [hin] at hki
  simp only [Bool.and_eq_true] at hki
  obtain ⟨⟨⟨h1, h2⟩, h3⟩, h4⟩ := hki
  by_cases hi0 : i = 0
  ·subst hi0
   have hr : indexAddrOp none 4 (.slice o 4 (l.map rowK)) (.v (.int .i64 0)) = some (.eptr (rowK ⟨t, x, y, z⟩) 0) := hr
   simp (maxSteps := 1000000) only [go_sem, b_r_knotErr, hs, hr, b_IsTick, b_Within, hw1, h1, h2, h3, h4, Bool.not_true, Nat.reduceEqDiff, reduceCtorEq, Nat.reduceAdd, Nat.reduceMul, Nat.reduceSub, Int.reduceLT, Int.reduceLE, Int.reduceEq, Int.reduceAdd, Int.reduceSub, Int.reduceNeg, Int.reduceToNat, Int.cast_ofNat_Int, ↓reduceIte, Nat.reduceLeDiff, Nat.lt_add_one, Nat.reduceLT, Nat.zero_lt_one, ne_eq, not_true, not_false_eq_true]
  ·obtain ⟨a, ha⟩ := get_some (l := l) (k := i - 1) (by omega)
   have hr2 := ix_ks (o := o) ha
   have hai := kIn_iff.1 (hp (i - 1) a (by omega) ha)
   have hwi : IntKind.i64.wrap ((i : Int) - 1) = ((i - 1 : Nat) : Int) := by rw [wrap_id] <;> omega
   have hd0 : decide ((i : Int) = 0) = false := by simp; omega
   rw [ha]
   simp only [Bool.true_eq_false, if_false, hi0]
   obtain ⟨t', x', y', z'⟩ := a
   simp only [Kn.p] at hki' hai
   have hm1 : ∀ r, callL AP (.fn 55) [.agg [I x, I y, I z], .agg [I x', I y', I z']] (roS (s.push r)) = some (.agg (rowV (vsub (x, y, z) (x', y', z'))), roS (s.push r)) := fun r => b_Minus (m := 1000000) (by decide) hki'.2 hai.2 ok_roS
   have hv : vin 2000000 (vsub (x, y, z) (x', y', z')) := vin_sub hki'.2 hai.2
   have hm2 : ∀ r, callL AP (.fn 54) [.agg (rowV (vsub (x, y, z) (x', y', z')))] (roS (s.push r)) = some (I (vdot (vsub (x, y, z) (x', y', z')) (vsub (x, y, z) (x', y', z'))), roS (s.push r)) := fun r => b_Square hv ok_roS
   have hb : 0 ≤ vdot (vsub (x, y, z) (x', y', z')) (vsub (x, y, z) (x', y', z')) ∧ vdot (vsub (x, y, z) (x', y', z')) (vsub (x, y, z) (x', y', z')) ≤ 12000000000000 := by
    have s1 := sq_bound hv.1.1 hv.1.2
    have s2 := sq_bound hv.2.1.1 hv.2.1.2
    have s3 := sq_bound hv.2.2.1 hv.2.2.2
    simp only [vdot]
    omega
   rw [show kStep ⟨t', x', y', z'⟩ ⟨t, x, y, z⟩ = if t ≤ t' then 9 else if 10000 < t - t' then 14 else if (t - t') * (t - t') < 4 * vdot (x - x', y - y', z - z') (x - x', y - y', z - z') then 23 else 0 from rfl]
   have hx : vsub (x, y, z) (x', y', z') = (x - x', y - y', z - z') := rfl
   rw [hx] at hm1 hm2 hv hb
   generalize hq : vdot (x - x', y - y', z - z') (x - x', y - y', z - z') = q at *
   have hwt : IntKind.i64.wrap (t - t') = t - t' := wrap_id (by omega) (by omega)
   by_cases c1 : t ≤ t'
   ·simp (maxSteps := 1000000) only [go_sem, b_r_knotErr, hs, hr, hr2, hwi, hd0, b_IsTick, b_Within, hw1, h1, h2, h3, h4, Bool.not_true, c1, Nat.reduceEqDiff, reduceCtorEq, Nat.reduceAdd, Nat.reduceMul, Nat.reduceSub, Int.reduceLT, Int.reduceLE, Int.reduceEq, Int.reduceAdd, Int.reduceSub, Int.reduceNeg, Int.reduceToNat, Int.cast_ofNat_Int, ↓reduceIte, Nat.reduceLeDiff, Nat.lt_add_one, Nat.reduceLT, Nat.zero_lt_one, ne_eq, not_true, not_false_eq_true]
   ·by_cases c2 : 10000 < t - t'
    ·simp (maxSteps := 1000000) only [go_sem, b_r_knotErr, hs, hr, hr2, hwi, hd0, b_IsTick, b_Within, hw1, h1, h2, h3, h4, Bool.not_true, c1, hwt, c2, Nat.reduceEqDiff, reduceCtorEq, Nat.reduceAdd, Nat.reduceMul, Nat.reduceSub, Int.reduceLT, Int.reduceLE, Int.reduceEq, Int.reduceAdd, Int.reduceSub, Int.reduceNeg, Int.reduceToNat, Int.cast_ofNat_Int, ↓reduceIte, Nat.reduceLeDiff, Nat.lt_add_one, Nat.reduceLT, Nat.zero_lt_one, ne_eq, not_true, not_false_eq_true]
    ·have hsq := sq_bound (a := t - t') (m := 10000) (by omega) (by omega)
     have hw4 : IntKind.i64.wrap (4 * q) = 4 * q := wrap_id (by omega) (by omega)
     have hw5 : IntKind.i64.wrap ((t - t') * (t - t')) = (t - t') * (t - t') := wrap_id (by omega) (by omega)
     by_cases c3 : (t - t') * (t - t') < 4 * q
     ·simp (maxSteps := 1000000) only [go_sem, b_r_knotErr, hs, hr, hr2, hwi, hd0, b_IsTick, b_Within, hw1, h1, h2, h3, h4, Bool.not_true, c1, hwt, c2, hm1, hm2, hw4, hw5, c3, Nat.reduceEqDiff, reduceCtorEq, Nat.reduceAdd, Nat.reduceMul, Nat.reduceSub, Int.reduceLT, Int.reduceLE, Int.reduceEq, Int.reduceAdd, Int.reduceSub, Int.reduceNeg, Int.reduceToNat, Int.cast_ofNat_Int, ↓reduceIte, Nat.reduceLeDiff, Nat.lt_add_one, Nat.reduceLT, Nat.zero_lt_one, ne_eq, not_true, not_false_eq_true]
     ·simp (maxSteps := 1000000) only [go_sem, b_r_knotErr, hs, hr, hr2, hwi, hd0, b_IsTick, b_Within, hw1, h1, h2, h3, h4, Bool.not_true, c1, hwt, c2, hm1, hm2, hw4, hw5, c3, Nat.reduceEqDiff, reduceCtorEq, Nat.reduceAdd, Nat.reduceMul, Nat.reduceSub, Int.reduceLT, Int.reduceLE, Int.reduceEq, Int.reduceAdd, Int.reduceSub, Int.reduceNeg, Int.reduceToNat, Int.cast_ofNat_Int, ↓reduceIte, Nat.reduceLeDiff, Nat.lt_add_one, Nat.reduceLT, Nat.zero_lt_one, ne_eq, not_true, not_false_eq_true]
end
end Go.Ax.Sx.Lt

namespace Go.Ax.Sx.Lt
open Go.Ax
set_option linter.unusedSimpArgs false
set_option linter.unusedVariables false
set_option maxRecDepth 100000
section
variable {s : Sig} {o : Own} {l : List Kn} {d : Int}
theorem r_CheckTrack (ho : o = .any ∨ o = .full) (hl : l.length ≤ 14) (hs : Ok s) : ∃ a, callL AP (.fn 25) [tv o l d] s = some (.tuple [I a, I (trErr l d)], s) := by
 have hc : ((AV.slice o 4 (l.map rowK)).isClosed1 = true) := by rcases ho with rfl | rfl <;> rfl
 by_cases h0 : l.length = 0
 ·refine ⟨0, ?_⟩
  have : l = [] := List.eq_nil_of_length_eq_zero h0
  subst this
  rw [callL_go (show AP 25 = some c_r_CheckTrack from rfl) rfl]
  simp (maxSteps := 1000000) only [go_sem, b_r_CheckTrack, hs, Nat.reduceEqDiff, reduceCtorEq, Nat.reduceAdd, Nat.reduceMul, Nat.reduceSub, Int.reduceLT, Int.reduceLE, Int.reduceEq, Int.reduceAdd, Int.reduceSub, Int.reduceNeg, Int.reduceToNat, Int.cast_ofNat_Int, ↓reduceIte, Nat.reduceLeDiff, Nat.lt_add_one, Nat.reduceLT, Nat.zero_lt_one, ne_eq, not_true, not_false_eq_true]
  rfl
 by_cases h1 : 12 < l.length
 ·refine ⟨0, ?_⟩
  have e1 : decide ((l.length : Int) = 0) = false := decide_eq_false (by omega)
  have e2 : decide ((12 : Int) < (l.length : Int)) = true := decide_eq_true (by omega)
  rw [callL_go (show AP 25 = some c_r_CheckTrack from rfl) rfl]
  simp (maxSteps := 1000000) only [go_sem, b_r_CheckTrack, hs, e1, e2, Nat.reduceEqDiff, reduceCtorEq, Nat.reduceAdd, Nat.reduceMul, Nat.reduceSub, Int.reduceLT, Int.reduceLE, Int.reduceEq, Int.reduceAdd, Int.reduceSub, Int.reduceNeg, Int.reduceToNat, Int.cast_ofNat_Int, ↓reduceIte, Nat.reduceLeDiff, Nat.lt_add_one, Nat.reduceLT, Nat.zero_lt_one, ne_eq, not_true, not_false_eq_true]
  unfold trErr
  rw [if_neg h0, if_pos h1]
 have e1 : decide ((l.length : Int) = 0) = false := decide_eq_false (by omega)
 have e2 : decide ((12 : Int) < (l.length : Int)) = false := decide_eq_false (by omega)
 have key : ∀ (k : Nat) ρ m, k ≤ l.length → (ρ 1 = .ptr s.acts.length 0 0 ∧ ρ 4 = I k ∧ (∀ j a, j < k → l[j]? = some a → kIn a = true) ∧ m = s.push ⟨[[.slice o 4 (l.map rowK), I d]], []⟩) →
   go AP f_r_CheckTrack (.c (.loop b_r_CheckTrack_l0) :: k_r_CheckTrack_0) ⟨ρ, m⟩ = some (.tuple [I (if ksErr l (l.length - k) k = 0 then 0 else trAt l (l.length - k) k), I (if ksErr l (l.length - k) k = 0 then (if wi d 0 1000 then 0 else 2) else ksErr l (l.length - k) k)], s) := by
  refine loop_up l.length _ _ ?_ ?_
  ·rintro k ρ m hk ⟨h1, h4, hp, rfl⟩ ih
   have hkn : ∀ r, callL AP (.fn 43) [.slice o 4 (l.map rowK), I k] (s.push r) = some (I (kErr l k), s.push r) := fun r => r_knotErr hk (by omega) hp (hs.push r)
   have hn : l.length - k = (l.length - (k + 1)) + 1 := by omega
   rw [hn]
   simp only [ksErr, trAt]
   by_cases hz : kErr l k = 0
   ·have hz' : decide (kErr l k ≠ 0) = false := by simp [hz]
    rw [hz] at hkn
    simp (maxSteps := 1000000) only [go_sem, b_r_CheckTrack_l0, b_r_CheckTrack_r0, h1, h4, hs, lt_dec hk, hkn, wrap_succ hk (by omega), hz, ne_eq, not_true, Nat.reduceEqDiff, reduceCtorEq, Nat.reduceAdd, Nat.reduceMul, Nat.reduceSub, Int.reduceLT, Int.reduceLE, Int.reduceEq, Int.reduceAdd, Int.reduceSub, Int.reduceNeg, Int.reduceToNat, Int.cast_ofNat_Int, ↓reduceIte, Nat.reduceLeDiff, Nat.lt_add_one, Nat.reduceLT, Nat.zero_lt_one, ne_eq, not_true, not_false_eq_true]
    refine ih _ _ ⟨h1, rfl, fun j a hj ha => ?_, rfl⟩
    by_cases hjk : j = k
    ·subst hjk
     unfold kErr at hz
     rw [ha] at hz
     simp only at hz
     split at hz
     ·cases hz
     ·rename_i hq; simpa using hq
    ·exact hp j a (by omega) ha
   ·have hz' : decide (kErr l k ≠ 0) = true := by simp [hz]
    simp (maxSteps := 1000000) only [go_sem, b_r_CheckTrack_l0, b_r_CheckTrack_r0, h1, h4, hs, lt_dec hk, hkn, hz', hz, Nat.reduceEqDiff, reduceCtorEq, Nat.reduceAdd, Nat.reduceMul, Nat.reduceSub, Int.reduceLT, Int.reduceLE, Int.reduceEq, Int.reduceAdd, Int.reduceSub, Int.reduceNeg, Int.reduceToNat, Int.cast_ofNat_Int, ↓reduceIte, Nat.reduceLeDiff, Nat.lt_add_one, Nat.reduceLT, Nat.zero_lt_one, ne_eq, not_true, not_false_eq_true]
  ·rintro ρ m ⟨h1, h4, hp, rfl⟩
   cases hw : wi d 0 1000 with
   | true =>
    simp (maxSteps := 1000000) only [go_sem, b_r_CheckTrack_l0, b_r_CheckTrack_r0, h1, h4, hs, ge_dec, b_Within, hw, Nat.reduceEqDiff, reduceCtorEq, Nat.reduceAdd, Nat.reduceMul, Nat.reduceSub, Int.reduceLT, Int.reduceLE, Int.reduceEq, Int.reduceAdd, Int.reduceSub, Int.reduceNeg, Int.reduceToNat, Int.cast_ofNat_Int, ↓reduceIte, Nat.reduceLeDiff, Nat.lt_add_one, Nat.reduceLT, Nat.zero_lt_one, ne_eq, not_true, not_false_eq_true]
    simp [ksErr, Nat.sub_self]
   | false =>
    simp (maxSteps := 1000000) only [go_sem, b_r_CheckTrack_l0, b_r_CheckTrack_r0, h1, h4, hs, ge_dec, b_Within, hw, Nat.reduceEqDiff, reduceCtorEq, Nat.reduceAdd, Nat.reduceMul, Nat.reduceSub, Int.reduceLT, Int.reduceLE, Int.reduceEq, Int.reduceAdd, Int.reduceSub, Int.reduceNeg, Int.reduceToNat, Int.cast_ofNat_Int, ↓reduceIte, Nat.reduceLeDiff, Nat.lt_add_one, Nat.reduceLT, Nat.zero_lt_one, ne_eq, not_true, not_false_eq_true]
    simp [ksErr, Nat.sub_self]
 refine ⟨if ksErr l l.length 0 = 0 then 0 else trAt l l.length 0, ?_⟩
 rw [callL_go (show AP 25 = some c_r_CheckTrack from rfl) rfl]
 simp (maxSteps := 1000000) only [go_sem, b_r_CheckTrack, hs, e1, e2, Nat.reduceEqDiff, reduceCtorEq, Nat.reduceAdd, Nat.reduceMul, Nat.reduceSub, Int.reduceLT, Int.reduceLE, Int.reduceEq, Int.reduceAdd, Int.reduceSub, Int.reduceNeg, Int.reduceToNat, Int.cast_ofNat_Int, ↓reduceIte, Nat.reduceLeDiff, Nat.lt_add_one, Nat.reduceLT, Nat.zero_lt_one, ne_eq, not_true, not_false_eq_true]
 refine (key 0 _ _ (Nat.zero_le _) ⟨rfl, rfl, fun j a hj => by omega, rfl⟩).trans ?_
 unfold trErr
 rw [if_neg h0, if_neg h1, Nat.sub_zero]
theorem r_TrackErr (ho : o = .any ∨ o = .full) (hl : l.length ≤ 14) (hs : Ok s) : callL AP (.fn 17) [tv o l d] s = some (I (trErr l d), s) := by
 have e : ∀ r, ∃ a, callL AP (.fn 25) [tv o l d] (s.push r) = some (.tuple [I a, I (trErr l d)], s.push r) := fun r => r_CheckTrack ho hl (hs.push r)
 obtain ⟨a, ha⟩ := e ⟨[[.slice o 4 (l.map rowK), I d]], []⟩
 rw [callL_go (show AP 17 = some c_r_TrackErr from rfl) rfl]
 simp (maxSteps := 1000000) only [go_sem, b_r_TrackErr, hs, ha, Nat.reduceEqDiff, reduceCtorEq, Nat.reduceAdd, Nat.reduceMul, Nat.reduceSub, Int.reduceLT, Int.reduceLE, Int.reduceEq, Int.reduceAdd, Int.reduceSub, Int.reduceNeg, Int.reduceToNat, Int.cast_ofNat_Int, ↓reduceIte, Nat.reduceLeDiff, Nat.lt_add_one, Nat.reduceLT, Nat.zero_lt_one, ne_eq, not_true, not_false_eq_true]
def botErr (l : List Kn) (d : Int) (l' : List Kn) (d' : Int) : Int := if trErr l d = 0 then trErr l' d' else trErr l d
theorem r_BothErr {o' : Own} {l' : List Kn} {d' : Int} (ho : o = .any ∨ o = .full) (hl : l.length ≤ 14) (ho' : o' = .any ∨ o' = .full) (hl' : l'.length ≤ 14) (hs : Ok s) :
  callL AP (.fn 7) [tv o l d, tv o' l' d'] s = some (I (botErr l d l' d'), s) := by
 have e1 : ∀ r, callL AP (.fn 17) [tv o l d] (s.push r) = some (I (trErr l d), s.push r) := fun r => r_TrackErr ho hl (hs.push r)
 have e2 : ∀ r, callL AP (.fn 17) [tv o' l' d'] (s.push r) = some (I (trErr l' d'), s.push r) := fun r => r_TrackErr ho' hl' (hs.push r)
 rw [callL_go (show AP 7 = some c_r_BothErr from rfl) rfl]
 unfold botErr
 by_cases h : trErr l d = 0
 ·have hz : decide (trErr l d ≠ 0) = false := by simp [h]
  simp (maxSteps := 1000000) only [go_sem, b_r_BothErr, hs, e1, e2, hz, h, ne_eq, not_true, Nat.reduceEqDiff, reduceCtorEq, Nat.reduceAdd, Nat.reduceMul, Nat.reduceSub, Int.reduceLT, Int.reduceLE, Int.reduceEq, Int.reduceAdd, Int.reduceSub, Int.reduceNeg, Int.reduceToNat, Int.cast_ofNat_Int, ↓reduceIte, Nat.reduceLeDiff, Nat.lt_add_one, Nat.reduceLT, Nat.zero_lt_one, ne_eq, not_true, not_false_eq_true]
 ·have hz : decide (trErr l d ≠ 0) = true := by simp [h]
  simp (maxSteps := 1000000) only [go_sem, b_r_BothErr, hs, e1, e2, hz, h, Nat.reduceEqDiff, reduceCtorEq, Nat.reduceAdd, Nat.reduceMul, Nat.reduceSub, Int.reduceLT, Int.reduceLE, Int.reduceEq, Int.reduceAdd, Int.reduceSub, Int.reduceNeg, Int.reduceToNat, Int.cast_ofNat_Int, ↓reduceIte, Nat.reduceLeDiff, Nat.lt_add_one, Nat.reduceLT, Nat.zero_lt_one, ne_eq, not_true, not_false_eq_true]
def fst (l : List Kn) : Int := match l[0]? with | some k => k.t | none => 0
def lst (l : List Kn) : Int := match l[l.length - 1]? with | some k => k.t | none => 0
theorem r_First (h0 : 0 < l.length) (hs : Ok s) : callL AP (.fn 26) [tv .any l d] s = some (I (fst l), s) := by
 obtain ⟨k, hk⟩ := get_some h0
 have hr : indexAddrOp none 4 (.slice .any 4 (l.map rowK)) (.v (.int .i64 0)) = some (.eptr (rowK k) 0) := ix_ks (k := 0) hk
 rw [callL_go (show AP 26 = some c_r_First from rfl) rfl]
 simp (maxSteps := 1000000) only [go_sem, b_r_First, hs, hr, Nat.reduceEqDiff, reduceCtorEq, Nat.reduceAdd, Nat.reduceMul, Nat.reduceSub, Int.reduceLT, Int.reduceLE, Int.reduceEq, Int.reduceAdd, Int.reduceSub, Int.reduceNeg, Int.reduceToNat, Int.cast_ofNat_Int, ↓reduceIte, Nat.reduceLeDiff, Nat.lt_add_one, Nat.reduceLT, Nat.zero_lt_one, ne_eq, not_true, not_false_eq_true]
 unfold fst; rw [hk]
theorem r_Last (h0 : 0 < l.length) (hl : l.length ≤ 14) (hs : Ok s) : callL AP (.fn 27) [tv .any l d] s = some (I (lst l), s) := by
 obtain ⟨k, hk⟩ := get_some (l := l) (k := l.length - 1) (by omega)
 have hr := ix_ks (o := .any) hk
 have hw : IntKind.i64.wrap ((l.length : Int) - 1) = ((l.length - 1 : Nat) : Int) := by rw [wrap_id] <;> omega
 rw [callL_go (show AP 27 = some c_r_Last from rfl) rfl]
 simp (maxSteps := 1000000) only [go_sem, b_r_Last, hs, hw, hr, Nat.reduceEqDiff, reduceCtorEq, Nat.reduceAdd, Nat.reduceMul, Nat.reduceSub, Int.reduceLT, Int.reduceLE, Int.reduceEq, Int.reduceAdd, Int.reduceSub, Int.reduceNeg, Int.reduceToNat, Int.cast_ofNat_Int, ↓reduceIte, Nat.reduceLeDiff, Nat.lt_add_one, Nat.reduceLT, Nat.zero_lt_one, ne_eq, not_true, not_false_eq_true]
 unfold lst; rw [hk]
theorem path_last (h0 : 0 < l.length) (hl : l.length ≤ 14) (hs : Ok s) : callL AP (.fn 30) [tv o l d] s = some (I (lst l), s) := by
 obtain ⟨k, hk⟩ := get_some (l := l) (k := l.length - 1) (by omega)
 have hr := ix_ks (o := o) hk
 have hw : IntKind.i64.wrap ((l.length : Int) - 1) = ((l.length - 1 : Nat) : Int) := by rw [wrap_id] <;> omega
 rw [callL_go (show AP 30 = some c_path_last from rfl) rfl]
 simp (maxSteps := 1000000) only [go_sem, b_path_last, hs, hw, hr, Nat.reduceEqDiff, reduceCtorEq, Nat.reduceAdd, Nat.reduceMul, Nat.reduceSub, Int.reduceLT, Int.reduceLE, Int.reduceEq, Int.reduceAdd, Int.reduceSub, Int.reduceNeg, Int.reduceToNat, Int.cast_ofNat_Int, ↓reduceIte, Nat.reduceLeDiff, Nat.lt_add_one, Nat.reduceLT, Nat.zero_lt_one, ne_eq, not_true, not_false_eq_true]
 unfold lst; rw [hk]
def tErr (l : List Kn) (t : Int) : Int := if wi t (fst l) (lst l) then 0 else 2
theorem r_TimeErr {t : Int} (h0 : 0 < l.length) (hl : l.length ≤ 14) (hs : Ok s) : callL AP (.fn 18) [tv .any l d, I t] s = some (I (tErr l t), s) := by
 have e1 : ∀ r, callL AP (.fn 26) [tv .any l d] (roS (s.push r)) = some (I (fst l), roS (s.push r)) := fun r => r_First h0 ok_roS
 have e2 : ∀ r, callL AP (.fn 27) [tv .any l d] (s.push r) = some (I (lst l), s.push r) := fun r => r_Last h0 hl (hs.push r)
 rw [callL_go (show AP 18 = some c_r_TimeErr from rfl) rfl]
 unfold tErr
 cases hw : wi t (fst l) (lst l) <;> simp (maxSteps := 1000000) only [go_sem, b_r_TimeErr, hs, e1, e2, b_Within, hw, Nat.reduceEqDiff, reduceCtorEq, Nat.reduceAdd, Nat.reduceMul, Nat.reduceSub, Int.reduceLT, Int.reduceLE, Int.reduceEq, Int.reduceAdd, Int.reduceSub, Int.reduceNeg, Int.reduceToNat, Int.cast_ofNat_Int, ↓reduceIte, Nat.reduceLeDiff, Nat.lt_add_one, Nat.reduceLT, Nat.zero_lt_one, ne_eq, not_true, not_false_eq_true]
def tsErr (l l' : List Kn) (t : Int) : Int := if tErr l t = 0 then tErr l' t else tErr l t
theorem r_TimesErr {l' : List Kn} {d' t : Int} (h0 : 0 < l.length) (hl : l.length ≤ 14) (h0' : 0 < l'.length) (hl' : l'.length ≤ 14) (hs : Ok s) : callL AP (.fn 10) [tv .any l d, tv .any l' d', I t] s = some (I (tsErr l l' t), s) := by
 have e1 : ∀ r, callL AP (.fn 18) [tv .any l d, I t] (s.push r) = some (I (tErr l t), s.push r) := fun r => r_TimeErr h0 hl (hs.push r)
 have e2 : ∀ r, callL AP (.fn 18) [tv .any l' d', I t] (s.push r) = some (I (tErr l' t), s.push r) := fun r => r_TimeErr h0' hl' (hs.push r)
 rw [callL_go (show AP 10 = some c_r_TimesErr from rfl) rfl]
 unfold tsErr
 by_cases h : tErr l t = 0
 ·simp (maxSteps := 1000000) only [go_sem, b_r_TimesErr, hs, e1, e2, h, ne_eq, not_true, Nat.reduceEqDiff, reduceCtorEq, Nat.reduceAdd, Nat.reduceMul, Nat.reduceSub, Int.reduceLT, Int.reduceLE, Int.reduceEq, Int.reduceAdd, Int.reduceSub, Int.reduceNeg, Int.reduceToNat, Int.cast_ofNat_Int, ↓reduceIte, Nat.reduceLeDiff, Nat.lt_add_one, Nat.reduceLT, Nat.zero_lt_one, ne_eq, not_true, not_false_eq_true]
 ·have hz : decide (tErr l t ≠ 0) = true := by simp [h]
  simp (maxSteps := 1000000) only [go_sem, b_r_TimesErr, hs, e1, e2, hz, h, Nat.reduceEqDiff, reduceCtorEq, Nat.reduceAdd, Nat.reduceMul, Nat.reduceSub, Int.reduceLT, Int.reduceLE, Int.reduceEq, Int.reduceAdd, Int.reduceSub, Int.reduceNeg, Int.reduceToNat, Int.cast_ofNat_Int, ↓reduceIte, Nat.reduceLeDiff, Nat.lt_add_one, Nat.reduceLT, Nat.zero_lt_one, ne_eq, not_true, not_false_eq_true]
end
end Go.Ax.Sx.Lt

namespace Go.Ax.Sx.Lt
open Go.Ax
set_option linter.unusedSimpArgs false
set_option linter.unusedVariables false
set_option maxRecDepth 100000
section
variable {s : Sig} {l : List Kn} {d : Int}
theorem path_ofPoint {v : V3} (hs : Ok s) : callL AP (.fn 47) [.agg (rowV v)] s = some (.agg (rowV v), s) := by
 obtain ⟨a, b, c⟩ := v
 rw [callL_go (show AP 47 = some c_path_ofPoint from rfl) rfl]
 simp (maxSteps := 1000000) only [go_sem, b_path_ofPoint, hs, Nat.reduceEqDiff, reduceCtorEq, Nat.reduceAdd, Nat.reduceMul, Nat.reduceSub, Int.reduceLT, Int.reduceLE, Int.reduceEq, Int.reduceAdd, Int.reduceSub, Int.reduceNeg, Int.reduceToNat, Int.cast_ofNat_Int, ↓reduceIte, Nat.reduceLeDiff, Nat.lt_add_one, Nat.reduceLT, Nat.zero_lt_one, ne_eq, not_true, not_false_eq_true]
theorem path_triple_minus {a b : V3} {m : Int} (hm : m ≤ 4000000000000000000) (ha : vin m a) (hb : vin m b) (hs : Ok s) : callL AP (.fn 48) [.agg (rowV a), .agg (rowV b)] s = some (.agg (rowV (vsub a b)), s) := by
 obtain ⟨a1, a2, a3⟩ := a
 obtain ⟨b1, b2, b3⟩ := b
 simp only [vin] at ha hb
 rw [callL_go (show AP 48 = some c_path_triple_minus from rfl) rfl]
 simp (maxSteps := 1000000) only [go_sem, b_path_triple_minus, hs, wrap_id (x := a1 - b1) (by omega) (by omega), wrap_id (x := a2 - b2) (by omega) (by omega), wrap_id (x := a3 - b3) (by omega) (by omega), Nat.reduceEqDiff, reduceCtorEq, Nat.reduceAdd, Nat.reduceMul, Nat.reduceSub, Int.reduceLT, Int.reduceLE, Int.reduceEq, Int.reduceAdd, Int.reduceSub, Int.reduceNeg, Int.reduceToNat, Int.cast_ofNat_Int, ↓reduceIte, Nat.reduceLeDiff, Nat.lt_add_one, Nat.reduceLT, Nat.zero_lt_one, ne_eq, not_true, not_false_eq_true]
 rfl
theorem path_triple_dot {v : V3} (hv : vin 2000000 v) (hs : Ok s) : callL AP (.fn 59) [.agg (rowV v), .agg (rowV v)] s = some (I (vdot v v), s) := by
 obtain ⟨a1, a2, a3⟩ := v
 simp only [vin] at hv
 have s1 := sq_bound hv.1.1 hv.1.2
 have s2 := sq_bound hv.2.1.1 hv.2.1.2
 have s3 := sq_bound hv.2.2.1 hv.2.2.2
 rw [callL_go (show AP 59 = some c_path_triple_dot from rfl) rfl]
 simp (maxSteps := 1000000) only [go_sem, b_path_triple_dot, hs, wrap_id (x := a1 * a1) (by omega) (by omega), wrap_id (x := a2 * a2) (by omega) (by omega), wrap_id (x := a3 * a3) (by omega) (by omega), wrap_id (x := a1 * a1 + a2 * a2) (by omega) (by omega), wrap_id (x := a1 * a1 + a2 * a2 + a3 * a3) (by omega) (by omega), Nat.reduceEqDiff, reduceCtorEq, Nat.reduceAdd, Nat.reduceMul, Nat.reduceSub, Int.reduceLT, Int.reduceLE, Int.reduceEq, Int.reduceAdd, Int.reduceSub, Int.reduceNeg, Int.reduceToNat, Int.cast_ofNat_Int, ↓reduceIte, Nat.reduceLeDiff, Nat.lt_add_one, Nat.reduceLT, Nat.zero_lt_one, ne_eq, not_true, not_false_eq_true]
 try rfl
theorem path_knotErr_1 {a : Int} : callL AP (.fn 56) [I a] s = some (B (wi a (-1000000) 1000000), s) := by
 rw [callL_go (show AP 56 = some c_path_knotErr_1 from rfl) rfl]
 have e : ∀ r, callL AP (.fn 57) [I a, I 1000000] (s.push r) = some (B (wi a (-1000000) 1000000), s.push r) := fun r => path_small (by decide) (by decide)
 simp (maxSteps := 1000000) only [go_sem, b_path_knotErr_1, e, Nat.reduceEqDiff, reduceCtorEq, Nat.reduceAdd, Nat.reduceMul, Nat.reduceSub, Int.reduceLT, Int.reduceLE, Int.reduceEq, Int.reduceAdd, Int.reduceSub, Int.reduceNeg, Int.reduceToNat, Int.cast_ofNat_Int, ↓reduceIte, Nat.reduceLeDiff, Nat.lt_add_one, Nat.reduceLT, Nat.zero_lt_one, ne_eq, not_true, not_false_eq_true]
theorem path_triple_all {v : V3} (hs : Ok s) : callL AP (.fn 58) [.agg (rowV v), .fn 56 [] []] s = some (B (vinB 1000000 v), s) := by
 obtain ⟨a1, a2, a3⟩ := v
 rw [callL_go (show AP 58 = some c_path_triple_all from rfl) rfl]
 simp (maxSteps := 1000000) only [go_sem, b_path_triple_all, hs, path_knotErr_1, Nat.reduceEqDiff, reduceCtorEq, Nat.reduceAdd, Nat.reduceMul, Nat.reduceSub, Int.reduceLT, Int.reduceLE, Int.reduceEq, Int.reduceAdd, Int.reduceSub, Int.reduceNeg, Int.reduceToNat, Int.cast_ofNat_Int, ↓reduceIte, Nat.reduceLeDiff, Nat.lt_add_one, Nat.reduceLT, Nat.zero_lt_one, ne_eq, not_true, not_false_eq_true]
 unfold vinB
 try rfl
theorem path_knotErr0 {k : Kn} (hk : kIn k = true) (hs : Ok s) : callL AP (.fn 45) [.agg (rowK k), .v (.pointer none)] s = some (I 0, s) := by
 obtain ⟨t, x, y, z⟩ := k
 simp only [kIn, Bool.and_eq_true, Kn.p] at hk
 obtain ⟨h1, h2⟩ := hk
 have e1 : ∀ r, callL AP (.fn 47) [.agg [I x, I y, I z]] (s.push r) = some (.agg [I x, I y, I z], s.push r) := fun r => path_ofPoint (v := (x, y, z)) (hs.push r)
 have e2 : ∀ r, callL AP (.fn 58) [.agg [I x, I y, I z], .fn 56 [] []] (s.push r) = some (B (vinB 1000000 (x, y, z)), s.push r) := fun r => path_triple_all (v := (x, y, z)) (hs.push r)
 rw [h2] at e2
 rw [callL_go (show AP 45 = some c_path_knotErr from rfl) rfl]
 have hq : eqOp .ptr (.v (.pointer none)) (.v (.pointer none)) = some true := rfl
 simp (maxSteps := 1000000) only [go_sem, b_path_knotErr, hs, e1, e2, path_within, h1, path_unless, hq, Nat.reduceEqDiff, reduceCtorEq, Nat.reduceAdd, Nat.reduceMul, Nat.reduceSub, Int.reduceLT, Int.reduceLE, Int.reduceEq, Int.reduceAdd, Int.reduceSub, Int.reduceNeg, Int.reduceToNat, Int.cast_ofNat_Int, ↓reduceIte, Nat.reduceLeDiff, Nat.lt_add_one, Nat.reduceLT, Nat.zero_lt_one, ne_eq, not_true, not_false_eq_true]
theorem path_knotErr1 {a k : Kn} (hk : kIn k = true) (ha : kIn a = true) (hst : kStep a k = 0) (hs : Ok s) : callL AP (.fn 45) [.agg (rowK k), .eptr (rowK a) 0] s = some (I 0, s) := by
 have hst := kStep_some hst
 have hki := kIn_iff.1 hk
 have hai := kIn_iff.1 ha
 obtain ⟨t, x, y, z⟩ := k
 obtain ⟨t', x', y', z'⟩ := a
 simp only [kIn, Bool.and_eq_true, Kn.p] at hk
 simp only [Kn.p] at hst hki hai
 obtain ⟨h1, h2⟩ := hk
 have e1 : ∀ r, callL AP (.fn 47) [.agg [I x, I y, I z]] (s.push r) = some (.agg [I x, I y, I z], s.push r) := fun r => path_ofPoint (v := (x, y, z)) (hs.push r)
 have e2 : ∀ r, callL AP (.fn 58) [.agg [I x, I y, I z], .fn 56 [] []] (s.push r) = some (B (vinB 1000000 (x, y, z)), s.push r) := fun r => path_triple_all (v := (x, y, z)) (hs.push r)
 rw [h2] at e2
 have hv : vin 2000000 (vsub (x, y, z) (x', y', z')) := vin_sub hki.2 hai.2
 have hx : vsub (x, y, z) (x', y', z') = (x - x', y - y', z - z') := rfl
 rw [hx] at hv hst
 have e3 : ∀ tl, [tl] ∈ fills [[I 0, I 0, I 0]] → ∀ b, fcallOp (callL AP) true (s.push ⟨b ++ [tl], []⟩) [[I 0, I 0, I 0]] (.fn 47) [.agg [I x', I y', I z']] = some (.agg [I x', I y', I z'], s.push ⟨b ++ [tl], []⟩) := fun tl ht b =>
  fc_keep (hs.push _) (fun m hm => path_ofPoint (v := (x', y', z')) hm) (by rw [tail_push]; simpa using ht)
 have e4 : ∀ tl, [tl] ∈ fills [[I 0, I 0, I 0]] → ∀ b, fcallOp (callL AP) true (s.push ⟨b ++ [tl], []⟩) [[I 0, I 0, I 0]] (.fn 48) [.agg [I x, I y, I z], .agg [I x', I y', I z']] = some (.agg [I (x - x'), I (y - y'), I (z - z')], s.push ⟨b ++ [tl], []⟩) := fun tl ht b =>
  fc_keep (hs.push _) (fun m hm => path_triple_minus (m := 1000000) (by decide) hki.2 hai.2 hm) (by rw [tail_push]; simpa using ht)
 have e3' : ∀ b1 b2, fcallOp (callL AP) true (s.push ⟨[b1, b2, []], []⟩) [[I 0, I 0, I 0]] (.fn 47) [.agg [I x', I y', I z']] = some (.agg [I x', I y', I z'], s.push ⟨[b1, b2, []], []⟩) := fun b1 b2 => e3 [] (by simp [fills]) [b1, b2]
 have e4' : ∀ b1 b2, fcallOp (callL AP) true (s.push ⟨[b1, b2, []], []⟩) [[I 0, I 0, I 0]] (.fn 48) [.agg [I x, I y, I z], .agg [I x', I y', I z']] = some (.agg [I (x - x'), I (y - y'), I (z - z')], s.push ⟨[b1, b2, []], []⟩) := fun b1 b2 => e4 [] (by simp [fills]) [b1, b2]
 have e5 : ∀ r, callL AP (.fn 59) [.agg [I (x - x'), I (y - y'), I (z - z')], .agg [I (x - x'), I (y - y'), I (z - z')]] (s.push r) = some (I (vdot (x - x', y - y', z - z') (x - x', y - y', z - z')), s.push r) := fun r => path_triple_dot hv (hs.push r)
 have hb : 0 ≤ vdot (x - x', y - y', z - z') (x - x', y - y', z - z') ∧ vdot (x - x', y - y', z - z') (x - x', y - y', z - z') ≤ 12000000000000 := by
  have s1 := sq_bound hv.1.1 hv.1.2
  have s2 := sq_bound hv.2.1.1 hv.2.1.2
  have s3 := sq_bound hv.2.2.1 hv.2.2.2
  dsimp only at s1 s2 s3
  simp only [vdot]
  omega
 generalize hq : vdot (x - x', y - y', z - z') (x - x', y - y', z - z') = q at *
 have hsq := sq_bound (a := t - t') (m := 10000) (by omega) (by omega)
 have hw4 : IntKind.i64.wrap (4 * q) = 4 * q := wrap_id (by omega) (by omega)
 have hw5 : IntKind.i64.wrap ((t - t') * (t - t')) = (t - t') * (t - t') := wrap_id (by omega) (by omega)
 have hwt : IntKind.i64.wrap (t - t') = t - t' := wrap_id (by omega) (by omega)
 have hp : eqOp .ptr (.eptr [I t', I x', I y', I z'] 0) (.v (.pointer none)) = some false := rfl
 have d1 : decide (0 < t - t') = true := decide_eq_true (by omega)
 have d2 : decide (t - t' ≤ 10000) = true := decide_eq_true (by omega)
 have d3 : decide (4 * q ≤ (t - t') * (t - t')) = true := decide_eq_true (by omega)
 rw [callL_go (show AP 45 = some c_path_knotErr from rfl) rfl]
 simp (maxSteps := 1000000) only [go_sem, b_path_knotErr, hs, e1, e2, path_within, h1, path_unless, hp, rep1, e3', e4', hwt, hw4, hw5, e5, d1, d2, d3, path_first3, Nat.reduceEqDiff, reduceCtorEq, Nat.reduceAdd, Nat.reduceMul, Nat.reduceSub, Int.reduceLT, Int.reduceLE, Int.reduceEq, Int.reduceAdd, Int.reduceSub, Int.reduceNeg, Int.reduceToNat, Int.cast_ofNat_Int, ↓reduceIte, Nat.reduceLeDiff, Nat.lt_add_one, Nat.reduceLT, Nat.zero_lt_one, ne_eq, not_true, not_false_eq_true]
 rfl
end
end Go.Ax.Sx.Lt

namespace Go.Ax.Sx.Lt
open Go.Ax
set_option linter.unusedSimpArgs false
set_option linter.unusedVariables false
set_option maxRecDepth 100000
section
variable {o : Own} {s : Sig} {l : List Kn} {d : Int}
def prevP (l : List Kn) (k : Nat) : AV := if k = 0 then .v (.pointer none) else match l[k - 1]? with
 | some a => .eptr (rowK a) 0
 | none => AV.undef
theorem knotErr_at (hv : VT l) {k : Nat} {a : Kn} (ha : l[k]? = some a) (hs : Ok s) : callL AP (.fn 45) [.agg (rowK a), prevP l k] s = some (I 0, s) := by
 have hka := hv.kin a (List.mem_of_getElem? ha)
 unfold prevP
 split
 ·exact path_knotErr0 hka hs
 ·rename_i h0
  obtain ⟨b, hb⟩ := get_some (l := l) (k := k - 1) (by have := (List.getElem?_eq_some_iff.1 ha).1; omega)
  rw [hb]
  exact path_knotErr1 hka (hv.kin b (List.mem_of_getElem? hb)) (hv.step (k - 1) b a hb (by rw [Nat.sub_add_cancel (by omega)]; exact ha)) hs
theorem path_CheckTrack (hv : VT l) (hd : wi d 0 1000 = true) (hs : Ok s) : callL AP (.fn 28) [tv o l d] s = some (.tuple [I 0, I 0], s) := by
 have hl := hv.few
 have h0 := hv.pos
 have key : ∀ (k : Nat) ρ m, k ≤ l.length → (ρ 1 = .ptr s.acts.length 0 0 ∧ ρ 5 = prevP l k ∧ ρ 25 = I l.length ∧ ρ 26 = I k ∧ m = s.push ⟨[[.slice o 4 (l.map rowK), I d]], []⟩) →
   go AP f_path_CheckTrack (.c (.loop b_path_CheckTrack_l0) :: k_path_CheckTrack_0) ⟨ρ, m⟩ = some (.tuple [I 0, I 0], s) := by
  refine loop_up l.length _ (fun _ => _) ?_ ?_
  ·rintro k ρ m hk ⟨h1, h5, h25, h26, rfl⟩ ih
   obtain ⟨a, ha⟩ := get_some hk
   have hr := ix_ks (o := o) ha
   have hkn : ∀ r, callL AP (.fn 45) [.agg (rowK a), prevP l k] (s.push r) = some (I 0, s.push r) := fun r => knotErr_at hv ha (hs.push r)
   simp (maxSteps := 1000000) only [go_sem, b_path_CheckTrack_l0, b_path_CheckTrack_r0, h1, h5, h25, h26, hs, lt_dec hk, hr, hkn, wrap_succ hk (by omega), Nat.reduceEqDiff, reduceCtorEq, Nat.reduceAdd, Nat.reduceMul, Nat.reduceSub, Int.reduceLT, Int.reduceLE, Int.reduceEq, Int.reduceAdd, Int.reduceSub, Int.reduceNeg, Int.reduceToNat, Int.cast_ofNat_Int, ↓reduceIte, Nat.reduceLeDiff, Nat.lt_add_one, Nat.reduceLT, Nat.zero_lt_one, ne_eq, not_true, not_false_eq_true]
   refine ih _ _ ⟨h1, ?_, h25, rfl, rfl⟩
   show _ = prevP l (k + 1)
   unfold prevP
   rw [if_neg (Nat.succ_ne_zero k), Nat.add_sub_cancel, ha]; rfl
  ·rintro ρ m ⟨h1, h5, h25, h26, rfl⟩
   simp (maxSteps := 1000000) only [go_sem, b_path_CheckTrack_l0, b_path_CheckTrack_r0, h1, h25, h26, hs, ge_dec, path_within, path_unless, hd, Nat.reduceEqDiff, reduceCtorEq, Nat.reduceAdd, Nat.reduceMul, Nat.reduceSub, Int.reduceLT, Int.reduceLE, Int.reduceEq, Int.reduceAdd, Int.reduceSub, Int.reduceNeg, Int.reduceToNat, Int.cast_ofNat_Int, ↓reduceIte, Nat.reduceLeDiff, Nat.lt_add_one, Nat.reduceLT, Nat.zero_lt_one, ne_eq, not_true, not_false_eq_true]
 have e1 : decide ((0 : Int) < (l.length : Int)) = true := decide_eq_true (by omega)
 have e2 : decide ((l.length : Int) ≤ 12) = true := decide_eq_true (by omega)
 rw [callL_go (show AP 28 = some c_path_CheckTrack from rfl) rfl]
 simp (maxSteps := 1000000) only [go_sem, b_path_CheckTrack, hs, e1, e2, path_unless, path_first2, firstErr, if_true, Nat.reduceEqDiff, reduceCtorEq, Nat.reduceAdd, Nat.reduceMul, Nat.reduceSub, Int.reduceLT, Int.reduceLE, Int.reduceEq, Int.reduceAdd, Int.reduceSub, Int.reduceNeg, Int.reduceToNat, Int.cast_ofNat_Int, ↓reduceIte, Nat.reduceLeDiff, Nat.lt_add_one, Nat.reduceLT, Nat.zero_lt_one, ne_eq, not_true, not_false_eq_true]
 exact key 0 _ _ (Nat.zero_le _) ⟨rfl, rfl, rfl, rfl, rfl⟩
abbrev rowT (o : Own) (p : List Kn × Int) : List AV := [.slice o 4 (p.1.map rowK), I p.2]
theorem path_trackErr {L : List (List Kn × Int)} (hL : L.length ≤ 2) (hv : ∀ p ∈ L, VT p.1 ∧ wi p.2 0 1000 = true) (hs : Ok s) : callL AP (.fn 19) [.slice .full 2 (L.map (rowT o))] s = some (I 0, s) := by
 have key : ∀ (k : Nat) ρ m, k ≤ L.length → (ρ 7 = .slice .full 2 (L.map (rowT o)) ∧ ρ 8 = I L.length ∧ ρ 9 = I k ∧ ∃ bx, m = s.push ⟨bx, []⟩) →
   go AP f_path_trackErr (.c (.loop b_path_trackErr_l0) :: k_path_trackErr_0) ⟨ρ, m⟩ = some (I 0, s) := by
  refine loop_up L.length _ (fun _ => _) ?_ ?_
  ·rintro k ρ m hk ⟨h7, h8, h9, bx, rfl⟩ ih
   obtain ⟨p, hp⟩ := get_some hk
   obtain ⟨v1, v2⟩ := hv p (List.mem_of_getElem? hp)
   have hr := ix_map (o := .full) (es := 2) (f := rowT o) hp
   have hc : ∀ r, callL AP (.fn 28) [.agg [.slice o 4 (p.1.map rowK), I p.2]] (s.push r) = some (.tuple [I 0, I 0], s.push r) := fun r => path_CheckTrack v1 v2 (hs.push r)
   simp (maxSteps := 1000000) only [go_sem, b_path_trackErr_l0, b_path_trackErr_r0, h7, h8, h9, hs, lt_dec hk, hr, hc, wrap_succ hk (by omega), Nat.reduceEqDiff, reduceCtorEq, Nat.reduceAdd, Nat.reduceMul, Nat.reduceSub, Int.reduceLT, Int.reduceLE, Int.reduceEq, Int.reduceAdd, Int.reduceSub, Int.reduceNeg, Int.reduceToNat, Int.cast_ofNat_Int, ↓reduceIte, Nat.reduceLeDiff, Nat.lt_add_one, Nat.reduceLT, Nat.zero_lt_one, ne_eq, not_true, not_false_eq_true]
   exact ih _ _ ⟨h7, h8, rfl, _, rfl⟩
  ·rintro ρ m ⟨h7, h8, h9, bx, rfl⟩
   simp (maxSteps := 1000000) only [go_sem, b_path_trackErr_l0, b_path_trackErr_r0, h8, h9, hs, ge_dec, Nat.reduceEqDiff, reduceCtorEq, Nat.reduceAdd, Nat.reduceMul, Nat.reduceSub, Int.reduceLT, Int.reduceLE, Int.reduceEq, Int.reduceAdd, Int.reduceSub, Int.reduceNeg, Int.reduceToNat, Int.cast_ofNat_Int, ↓reduceIte, Nat.reduceLeDiff, Nat.lt_add_one, Nat.reduceLT, Nat.zero_lt_one, ne_eq, not_true, not_false_eq_true]
 rw [callL_go (show AP 19 = some c_path_trackErr from rfl) rfl]
 simp (maxSteps := 1000000) only [go_sem, b_path_trackErr, hs, Nat.reduceEqDiff, reduceCtorEq, Nat.reduceAdd, Nat.reduceMul, Nat.reduceSub, Int.reduceLT, Int.reduceLE, Int.reduceEq, Int.reduceAdd, Int.reduceSub, Int.reduceNeg, Int.reduceToNat, Int.cast_ofNat_Int, ↓reduceIte, Nat.reduceLeDiff, Nat.lt_add_one, Nat.reduceLT, Nat.zero_lt_one, ne_eq, not_true, not_false_eq_true]
 exact key 0 _ _ (Nat.zero_le _) ⟨rfl, rfl, rfl, _, rfl⟩
theorem path_timeErr {L : List (List Kn × Int)} {t : Int} (hL : L.length ≤ 2) (hv : ∀ p ∈ L, VT p.1) (hs : Ok s) :
  callL AP (.fn 20) [I t, .slice .full 2 (L.map (rowT o))] s = some (I (if (L.all fun p => wi t (fst p.1) (lst p.1)) = true then 0 else 2), s) := by
 have key : ∀ (k : Nat) ρ m, k ≤ L.length → (ρ 0 = I t ∧ ρ 7 = .slice .full 2 (L.map (rowT o)) ∧ ρ 8 = I L.length ∧ ρ 9 = I k ∧ ∃ bx, m = s.push ⟨bx, []⟩) →
   go AP f_path_timeErr (.c (.loop b_path_timeErr_l0) :: k_path_timeErr_0) ⟨ρ, m⟩ = some (I (if ((L.drop k).all fun p => wi t (fst p.1) (lst p.1)) = true then 0 else 2), s) := by
  refine loop_up L.length _ _ ?_ ?_
  ·rintro k ρ m hk ⟨h0, h7, h8, h9, bx, rfl⟩ ih
   obtain ⟨p, hp⟩ := get_some hk
   have v1 := hv p (List.mem_of_getElem? hp)
   have hr := ix_map (o := .full) (es := 2) (f := rowT o) hp
   obtain ⟨a, ha⟩ := get_some v1.pos
   have hr2 : indexAddrOp none 4 (.slice o 4 (p.1.map rowK)) (.v (.int .i64 0)) = some (.eptr (rowK a) 0) := ix_ks (k := 0) ha
   have hf : fst p.1 = a.t := by unfold fst; rw [ha]
   have hc : ∀ r, callL AP (.fn 30) [.agg [.slice o 4 (p.1.map rowK), I p.2]] (roS (s.push r)) = some (I (lst p.1), roS (s.push r)) := fun r => path_last v1.pos (by have := v1.few; omega) ok_roS
   rw [drop_get hp, List.all_cons, hf]
   cases hw : wi t a.t (lst p.1) with
   | true =>
    simp (maxSteps := 1000000) only [go_sem, b_path_timeErr_l0, b_path_timeErr_r0, h0, h7, h8, h9, hs, lt_dec hk, hr, hr2, hc, path_within, hw, wrap_succ hk (by omega), Nat.reduceEqDiff, reduceCtorEq, Nat.reduceAdd, Nat.reduceMul, Nat.reduceSub, Int.reduceLT, Int.reduceLE, Int.reduceEq, Int.reduceAdd, Int.reduceSub, Int.reduceNeg, Int.reduceToNat, Int.cast_ofNat_Int, ↓reduceIte, Nat.reduceLeDiff, Nat.lt_add_one, Nat.reduceLT, Nat.zero_lt_one, ne_eq, not_true, not_false_eq_true]
    exact ih _ _ ⟨h0, h7, h8, rfl, _, rfl⟩
   | false =>
    simp (maxSteps := 1000000) only [go_sem, b_path_timeErr_l0, b_path_timeErr_r0, h0, h7, h8, h9, hs, lt_dec hk, hr, hr2, hc, path_within, hw, Bool.not_false, Nat.reduceEqDiff, reduceCtorEq, Nat.reduceAdd, Nat.reduceMul, Nat.reduceSub, Int.reduceLT, Int.reduceLE, Int.reduceEq, Int.reduceAdd, Int.reduceSub, Int.reduceNeg, Int.reduceToNat, Int.cast_ofNat_Int, ↓reduceIte, Nat.reduceLeDiff, Nat.lt_add_one, Nat.reduceLT, Nat.zero_lt_one, ne_eq, not_true, not_false_eq_true]
    rfl
  ·rintro ρ m ⟨h0, h7, h8, h9, bx, rfl⟩
   simp (maxSteps := 1000000) only [go_sem, b_path_timeErr_l0, b_path_timeErr_r0, h8, h9, hs, ge_dec, Nat.reduceEqDiff, reduceCtorEq, Nat.reduceAdd, Nat.reduceMul, Nat.reduceSub, Int.reduceLT, Int.reduceLE, Int.reduceEq, Int.reduceAdd, Int.reduceSub, Int.reduceNeg, Int.reduceToNat, Int.cast_ofNat_Int, ↓reduceIte, Nat.reduceLeDiff, Nat.lt_add_one, Nat.reduceLT, Nat.zero_lt_one, ne_eq, not_true, not_false_eq_true]
   rw [List.drop_length]; rfl
 rw [callL_go (show AP 20 = some c_path_timeErr from rfl) rfl]
 simp (maxSteps := 1000000) only [go_sem, b_path_timeErr, hs, Nat.reduceEqDiff, reduceCtorEq, Nat.reduceAdd, Nat.reduceMul, Nat.reduceSub, Int.reduceLT, Int.reduceLE, Int.reduceEq, Int.reduceAdd, Int.reduceSub, Int.reduceNeg, Int.reduceToNat, Int.cast_ofNat_Int, ↓reduceIte, Nat.reduceLeDiff, Nat.lt_add_one, Nat.reduceLT, Nat.zero_lt_one, ne_eq, not_true, not_false_eq_true]
 exact key 0 _ _ (Nat.zero_le _) ⟨rfl, rfl, rfl, rfl, _, rfl⟩
end
end Go.Ax.Sx.Lt

namespace Go.Ax.Sx.Lt
open Go.Ax
set_option linter.unusedSimpArgs false
set_option linter.unusedVariables false
set_option maxRecDepth 100000
abbrev U (n : Int) : AV := .v (.int .u64 n)
abbrev wd (n : Int) : List AV := [U (n / 18446744073709551616), U (n % 18446744073709551616)]
section
variable {a b : Int}
theorem au_add (h : 0 ≤ a + b) (h2 : a + b < 18446744073709551616) : arithOp .add (.v (.int .u64 a)) (.v (.int .u64 b)) = some (.v (.int .u64 (a + b))) := by
 show some (AV.v (.int .u64 (IntKind.u64.wrap (a + b)))) = _
 rw [u64_id h h2]
theorem au_mul (h : 0 ≤ a * b) (h2 : a * b < 18446744073709551616) : arithOp .mul (.v (.int .u64 a)) (.v (.int .u64 b)) = some (.v (.int .u64 (a * b))) := by
 show some (AV.v (.int .u64 (IntKind.u64.wrap (a * b)))) = _
 rw [u64_id h h2]
theorem u64_mod : IntKind.u64.wrap a = a % 18446744073709551616 := by
 have e1 : ((2 : Int) ^ (64 : Nat)) = 18446744073709551616 := by decide
 show (if (false && decide (a % (2 : Int) ^ (64 : Nat) ≥ (2 : Int) ^ (64 - 1 : Nat))) = true then a % (2 : Int) ^ (64 : Nat) - (2 : Int) ^ (64 : Nat) else a % (2 : Int) ^ (64 : Nat)) = _
 simp only [e1, Bool.false_and, Bool.false_eq_true, if_false]
theorem au_mulw : arithOp .mul (.v (.int .u64 a)) (.v (.int .u64 b)) = some (.v (.int .u64 (a * b % 18446744073709551616))) := by
 show some (AV.v (.int .u64 (IntKind.u64.wrap (a * b)))) = _
 rw [u64_mod]
theorem au_shr : arithOp .shr (.v (.int .u64 a)) (.v (.int .u64 32)) = some (.v (.int .u64 (a / 4294967296))) := by
 have : a.fdiv 4294967296 = a / 4294967296 := by rw [Int.fdiv_eq_ediv_of_nonneg _ (by decide)]
 simp [arithOp, isShift, shiftOp, IntKind.bits, this]
theorem au_and (h : 0 ≤ a) (h2 : a < 18446744073709551616) : arithOp .and (.v (.int .u64 a)) (.v (.int .u64 4294967295)) = some (.v (.int .u64 (a % 4294967296))) := by
 have e : ((BitVec.ofInt 64 a &&& BitVec.ofInt 64 4294967295).toNat : Int) = a % 4294967296 := by
  obtain ⟨n, rfl⟩ := Int.eq_ofNat_of_zero_le h
  have h3 : n < 18446744073709551616 := by omega
  have e1 : (BitVec.ofInt 64 (n : Int)).toNat = n := by
   simp only [BitVec.toNat_ofInt]
   omega
  have e2 : (BitVec.ofInt 64 4294967295).toNat = 2 ^ 32 - 1 := by decide
  rw [BitVec.toNat_and, e1, e2, Nat.and_two_pow_sub_one_eq_mod]
  omega
 show some (AV.v (.int .u64 (IntKind.u64.wrap ((BitVec.ofInt 64 a &&& BitVec.ofInt 64 4294967295).toNat : Int)))) = _
 rw [e, u64_id (by omega) (by omega)]
theorem au_lss : arithOp .lss (.v (.int .u64 a)) (.v (.int .u64 b)) = some (.v (.bool (decide (a < b)))) := rfl
theorem au_eql : arithOp .eql (.v (.int .u64 a)) (.v (.int .u64 b)) = some (.v (.bool (decide (a = b)))) := by
 simp only [arithOp, isShift, intOp]; by_cases h : a = b <;> simp [h]
end
attribute [go_sem] au_shr au_lss au_eql
theorem mul_bound {a b m : Int} (h1 : 0 ≤ a) (h2 : a ≤ m) (h3 : 0 ≤ b) (h4 : b ≤ m) : 0 ≤ a * b ∧ a * b ≤ m * m :=
 ⟨Int.mul_nonneg h1 h3, Int.le_trans (Int.mul_le_mul_of_nonneg_right h2 h3) (Int.mul_le_mul_of_nonneg_left h4 (by omega))⟩
section
variable {s : Sig}
theorem math_bits_Mul64 {x y : Int} (hx : 0 ≤ x) (hx2 : x < 18446744073709551616) (hy : 0 ≤ y) (hy2 : y < 18446744073709551616) :
  callL AP (.fn 52) [U x, U y] s = some (.tuple [U (x * y / 18446744073709551616), U (x * y % 18446744073709551616)], s) := by
 obtain ⟨x0, hx0⟩ : ∃ q, q = x % 4294967296 := ⟨_, rfl⟩
 obtain ⟨x1, hx1⟩ : ∃ q, q = x / 4294967296 := ⟨_, rfl⟩
 obtain ⟨y0, hy0⟩ : ∃ q, q = y % 4294967296 := ⟨_, rfl⟩
 obtain ⟨y1, hy1⟩ : ∃ q, q = y / 4294967296 := ⟨_, rfl⟩
 have b00 := mul_bound (a := x0) (b := y0) (m := 4294967295) (by omega) (by omega) (by omega) (by omega)
 have b10 := mul_bound (a := x1) (b := y0) (m := 4294967295) (by omega) (by omega) (by omega) (by omega)
 have b01 := mul_bound (a := x0) (b := y1) (m := 4294967295) (by omega) (by omega) (by omega) (by omega)
 have b11 := mul_bound (a := x1) (b := y1) (m := 4294967295) (by omega) (by omega) (by omega) (by omega)
 have exy : x * y = x1 * y1 * 18446744073709551616 + (x1 * y0 + x0 * y1) * 4294967296 + x0 * y0 := by
  have e1 : x = x1 * 4294967296 + x0 := by omega
  have e2 : y = y1 * 4294967296 + y0 := by omega
  rw [e1, e2]
  grind
 have m00 := au_mul (a := x0) (b := y0) b00.1 (by omega)
 have m10 := au_mul (a := x1) (b := y0) b10.1 (by omega)
 have m01 := au_mul (a := x0) (b := y1) b01.1 (by omega)
 have m11 := au_mul (a := x1) (b := y1) b11.1 (by omega)
 have mxy := au_mulw (a := x) (b := y)
 rw [exy] at mxy
 rw [exy]
 generalize x0 * y0 = p00 at *
 generalize x1 * y0 = p10 at *
 generalize x0 * y1 = p01 at *
 generalize x1 * y1 = p11 at *
 have a1 := au_add (a := p10) (b := p00 / 4294967296) (by omega) (by omega)
 have n1 := au_and (a := p10 + p00 / 4294967296) (by omega) (by omega)
 have a2 := au_add (a := (p10 + p00 / 4294967296) % 4294967296) (b := p01) (by omega) (by omega)
 have a3 := au_add (a := p11) (b := (p10 + p00 / 4294967296) / 4294967296) (by omega) (by omega)
 have a4 := au_add (a := p11 + (p10 + p00 / 4294967296) / 4294967296) (b := ((p10 + p00 / 4294967296) % 4294967296 + p01) / 4294967296) (by omega) (by omega)
 rw [callL_go (show AP 52 = some c_math_bits_Mul64 from rfl) rfl]
 simp (maxSteps := 1000000) only [go_sem, b_math_bits_Mul64, au_and hx hx2, au_and hy hy2, ← hx0, ← hx1, ← hy0, ← hy1, m00, m10, m01, m11, mxy, a1, n1, a2, a3, a4, Nat.reduceEqDiff, reduceCtorEq, Nat.reduceAdd, Nat.reduceMul, Nat.reduceSub, Int.reduceLT, Int.reduceLE, Int.reduceEq, Int.reduceAdd, Int.reduceSub, Int.reduceNeg, Int.reduceToNat, Int.cast_ofNat_Int, ↓reduceIte, Nat.reduceLeDiff, Nat.lt_add_one, Nat.reduceLT, Nat.zero_lt_one, ne_eq, not_true, not_false_eq_true]
 have hh : p11 + (p10 + p00 / 4294967296) / 4294967296 + ((p10 + p00 / 4294967296) % 4294967296 + p01) / 4294967296 = (p11 * 18446744073709551616 + (p10 + p01) * 4294967296 + p00) / 18446744073709551616 := by
  clear mxy exy a1 n1 a2 a3 a4 m00 m10 m01 m11 hx0 hx1 hy0 hy1
  omega
 rw [hh]
theorem path_squared {n : Int} (h1 : -9223372036854775808 < n) (h2 : n < 9223372036854775808) (hs : Ok s) : callL AP (.fn 37) [I n] s = some (.agg (wd (n * n)), s) := by
 have hm : 0 ≤ max n (-n) ∧ max n (-n) < 9223372036854775808 := by omega
 have e : ∀ r, callL AP (.fn 52) [U (max n (-n)), U (max n (-n))] (s.push r) = some (.tuple [U (max n (-n) * max n (-n) / 18446744073709551616), U (max n (-n) * max n (-n) % 18446744073709551616)], s.push r) := fun r => math_bits_Mul64 hm.1 (by omega) hm.1 (by omega)
 have hq : max n (-n) * max n (-n) = n * n := by
  rcases Int.le_total n (-n) with h | h
  ·rw [Int.max_eq_right h, Int.neg_mul_neg]
  ·rw [Int.max_eq_left h]
 rw [hq] at e
 rw [callL_go (show AP 37 = some c_path_squared from rfl) rfl]
 simp (maxSteps := 1000000) only [go_sem, b_path_squared, hs, wrap_id (x := -n) (by omega) (by omega), u64_id hm.1 (by omega), e, Nat.reduceEqDiff, reduceCtorEq, Nat.reduceAdd, Nat.reduceMul, Nat.reduceSub, Int.reduceLT, Int.reduceLE, Int.reduceEq, Int.reduceAdd, Int.reduceSub, Int.reduceNeg, Int.reduceToNat, Int.cast_ofNat_Int, ↓reduceIte, Nat.reduceLeDiff, Nat.lt_add_one, Nat.reduceLT, Nat.zero_lt_one, ne_eq, not_true, not_false_eq_true]
theorem path_wide_less {a b : Int} (ha : 0 ≤ a) (hb : 0 ≤ b) (hs : Ok s) : callL AP (.fn 36) [.agg (wd a), .agg (wd b)] s = some (B (decide (a < b)), s) := by
 rw [callL_go (show AP 36 = some c_path_wide_less from rfl) rfl]
 have e : decide (a < b) = (decide (a / 18446744073709551616 < b / 18446744073709551616) || (decide (a / 18446744073709551616 = b / 18446744073709551616) && decide (a % 18446744073709551616 < b % 18446744073709551616))) := by
  rw [Bool.eq_iff_iff]
  simp only [Bool.or_eq_true, Bool.and_eq_true, decide_eq_true_eq]
  omega
 simp (maxSteps := 1000000) only [go_sem, b_path_wide_less, hs, e, Nat.reduceEqDiff, reduceCtorEq, Nat.reduceAdd, Nat.reduceMul, Nat.reduceSub, Int.reduceLT, Int.reduceLE, Int.reduceEq, Int.reduceAdd, Int.reduceSub, Int.reduceNeg, Int.reduceToNat, Int.cast_ofNat_Int, ↓reduceIte, Nat.reduceLeDiff, Nat.lt_add_one, Nat.reduceLT, Nat.zero_lt_one, ne_eq, not_true, not_false_eq_true]
theorem path_wide_plus {a b : Int} (ha : 0 ≤ a) (hb : 0 ≤ b) (hab : a + b < 340282366920938463463374607431768211456) (hs : Ok s) : callL AP (.fn 60) [.agg (wd a), .agg (wd b)] s = some (.agg (wd (a + b)), s) := by
 have e : ∀ m, callL AP (.nat 62) [U (a % 18446744073709551616), U (b % 18446744073709551616), U 0] m = some (.tuple [U ((a % 18446744073709551616 + b % 18446744073709551616 + 0) % 18446744073709551616), U ((a % 18446744073709551616 + b % 18446744073709551616 + 0) / 18446744073709551616)], m) := fun m => by
  rw [callL_nat (show AP 62 = some (.nat pAdd64F) from rfl)]
  have : closeAll [U (a % 18446744073709551616), U (b % 18446744073709551616), U 0] = some [U (a % 18446744073709551616), U (b % 18446744073709551616), U 0] := rfl
  rw [this]
  simp only [Option.bind_some, pAdd64F]
  rw [if_pos ⟨by omega, by omega, by omega, by omega⟩]
  rfl
 have a1 := au_add (a := a / 18446744073709551616) (b := b / 18446744073709551616) (by omega) (by omega)
 have a2 := au_add (a := a / 18446744073709551616 + b / 18446744073709551616) (b := (a % 18446744073709551616 + b % 18446744073709551616 + 0) / 18446744073709551616) (by omega) (by omega)
 have e1 : a / 18446744073709551616 + b / 18446744073709551616 + (a % 18446744073709551616 + b % 18446744073709551616 + 0) / 18446744073709551616 = (a + b) / 18446744073709551616 := by omega
 have e2 : (a % 18446744073709551616 + b % 18446744073709551616 + 0) % 18446744073709551616 = (a + b) % 18446744073709551616 := by omega
 rw [e1] at a2
 rw [e2] at e
 rw [callL_go (show AP 60 = some c_path_wide_plus from rfl) rfl]
 simp (maxSteps := 1000000) only [go_sem, b_path_wide_plus, hs, e, a1, a2, Nat.reduceEqDiff, reduceCtorEq, Nat.reduceAdd, Nat.reduceMul, Nat.reduceSub, Int.reduceLT, Int.reduceLE, Int.reduceEq, Int.reduceAdd, Int.reduceSub, Int.reduceNeg, Int.reduceToNat, Int.cast_ofNat_Int, ↓reduceIte, Nat.reduceLeDiff, Nat.lt_add_one, Nat.reduceLT, Nat.zero_lt_one, ne_eq, not_true, not_false_eq_true]
end
end Go.Ax.Sx.Lt

namespace Go.Ax.Sx.Lt
open Go.Ax
set_option linter.unusedSimpArgs false
set_option linter.unusedVariables false
set_option maxRecDepth 100000
def srch (f : Int → Bool) : Nat → Int → Int → Int
 | 0, i, _ => i
 | n + 1, i, j => if i < j then (if f ((i + j) / 2) = true then srch f n i ((i + j) / 2) else srch f n ((i + j) / 2 + 1) j) else i
def search (f : Int → Bool) (n : Int) : Int := srch f n.toNat 0 n
theorem srch_spec {f : Int → Bool} {N : Int} : ∀ {n : Nat} {i j : Int}, j - i ≤ n → 0 ≤ i → i ≤ j → j ≤ N → (i = 0 ∨ f (i - 1) = false) → (j = N ∨ f j = true) →
  (0 ≤ srch f n i j ∧ srch f n i j ≤ N) ∧ (srch f n i j = 0 ∨ f (srch f n i j - 1) = false) ∧ (srch f n i j = N ∨ f (srch f n i j) = true)
 | 0, i, j, h1, h2, h3, h4, h5, h6 => by
  have : i = j := by omega
  subst this
  exact ⟨⟨h2, h4⟩, h5, h6⟩
 | n + 1, i, j, h1, h2, h3, h4, h5, h6 => by
  simp only [srch]
  split
  ·split
   ·exact srch_spec (by omega) h2 (by omega) (by omega) h5 (.inr (by assumption))
   ·rename_i hf
    refine srch_spec (by omega) (by omega) (by omega) h4 (.inr ?_) h6
    rw [Int.add_sub_cancel]; simpa using hf
  ·have : i = j := by omega
   subst this
   exact ⟨⟨h2, h4⟩, h5, h6⟩
theorem search_spec {f : Int → Bool} {N : Int} (hN : 0 ≤ N) : (0 ≤ search f N ∧ search f N ≤ N) ∧ (search f N = 0 ∨ f (search f N - 1) = false) ∧ (search f N = N ∨ f (search f N) = true) :=
 srch_spec (by omega) (by omega) hN (by omega) (.inl rfl) (.inl rfl)
theorem srch_congr {f g : Int → Bool} {N : Int} : ∀ {n : Nat} {i j : Int}, 0 ≤ i → j ≤ N → (∀ h, 0 ≤ h → h < N → f h = g h) → srch f n i j = srch g n i j
 | 0, _, _, _, _, _ => rfl
 | n + 1, i, j, h1, h2, h => by
  simp only [srch]
  split
  ·rw [h _ (by omega) (by omega)]
   split
   ·exact srch_congr h1 (by omega) h
   ·exact srch_congr (by omega) h2 h
  ·rfl
theorem search_congr {f g : Int → Bool} {N : Int} (h : ∀ i, 0 ≤ i → i < N → f i = g i) : search f N = search g N := srch_congr (by omega) (Int.le_refl _) h
section
variable {s : Sig}
theorem sort_Search {f : Int → Bool} {N : Int} {g : FuncId} {caps : List AV} (hN : 0 ≤ N) (hN2 : N < 4000000000000000000)
  (hg : ∀ h, 0 ≤ h → h < N → ∀ r, callL AP (.fn g) (I h :: caps) (s.push r) = some (B (f h), s.push r)) : callL AP (.fn 34) [I N, .fn g [] caps] s = some (I (search f N), s) := by
 have key : ∀ (n : Nat) (i j : Int) (ρ : Nat → AV), j - i ≤ n → 0 ≤ i → i ≤ j → j ≤ N → ρ 1 = .fn g [] caps → ρ 5 = I i → ρ 6 = I j → go AP f_sort_Search (.c (.loop b_sort_Search_l0) :: k_sort_Search_0) ⟨ρ, s.push ⟨[], []⟩⟩ = some (I (srch f n i j), s) := by
  intro n
  induction n with
  | zero =>
   intro i j ρ h1 h2 h3 h4 r1 r5 r6
   have : i = j := by omega
   subst this
   have hd : decide (i < i) = false := decide_eq_false (by omega)
   rw [go_loop]
   simp (maxSteps := 1000000) only [go_sem, b_sort_Search_l0, b_sort_Search_r0, r1, r5, r6, hd, Nat.reduceEqDiff, reduceCtorEq, Nat.reduceAdd, Nat.reduceMul, Nat.reduceSub, Int.reduceLT, Int.reduceLE, Int.reduceEq, Int.reduceAdd, Int.reduceSub, Int.reduceNeg, Int.reduceToNat, Int.cast_ofNat_Int, ↓reduceIte, Nat.reduceLeDiff, Nat.lt_add_one, Nat.reduceLT, Nat.zero_lt_one, ne_eq, not_true, not_false_eq_true]
   rfl
  | succ n ih =>
   intro i j ρ h1 h2 h3 h4 r1 r5 r6
   by_cases hij : i < j
   ·have hd : decide (i < j) = true := decide_eq_true hij
    have w1 : IntKind.i64.wrap (i + j) = i + j := wrap_id (by omega) (by omega)
    have w2 : IntKind.u64.wrap (i + j) = i + j := u64_id (by omega) (by omega)
    have w3 : IntKind.i64.wrap ((i + j) / 2) = (i + j) / 2 := wrap_id (by omega) (by omega)
    have w4 : IntKind.i64.wrap ((i + j) / 2 + 1) = (i + j) / 2 + 1 := wrap_id (by omega) (by omega)
    have hc := hg ((i + j) / 2) (by omega) (by omega)
    simp only [srch, if_pos hij]
    rw [go_loop]
    cases hf : f ((i + j) / 2) with
    | true =>
     rw [hf] at hc
     simp (maxSteps := 1000000) only [go_sem, b_sort_Search_l0, b_sort_Search_r0, r1, r5, r6, hd, w1, w2, w3, w4, hc, Nat.reduceEqDiff, reduceCtorEq, Nat.reduceAdd, Nat.reduceMul, Nat.reduceSub, Int.reduceLT, Int.reduceLE, Int.reduceEq, Int.reduceAdd, Int.reduceSub, Int.reduceNeg, Int.reduceToNat, Int.cast_ofNat_Int, ↓reduceIte, Nat.reduceLeDiff, Nat.lt_add_one, Nat.reduceLT, Nat.zero_lt_one, ne_eq, not_true, not_false_eq_true]
     exact ih i ((i + j) / 2) _ (by omega) h2 (by omega) (by omega) r1 r5 rfl
    | false =>
     rw [hf] at hc
     simp (maxSteps := 1000000) only [go_sem, b_sort_Search_l0, b_sort_Search_r0, r1, r5, r6, hd, w1, w2, w3, w4, hc, Bool.false_eq_true, Nat.reduceEqDiff, reduceCtorEq, Nat.reduceAdd, Nat.reduceMul, Nat.reduceSub, Int.reduceLT, Int.reduceLE, Int.reduceEq, Int.reduceAdd, Int.reduceSub, Int.reduceNeg, Int.reduceToNat, Int.cast_ofNat_Int, ↓reduceIte, Nat.reduceLeDiff, Nat.lt_add_one, Nat.reduceLT, Nat.zero_lt_one, ne_eq, not_true, not_false_eq_true]
     exact ih ((i + j) / 2 + 1) j _ (by omega) (by omega) (by omega) h4 r1 rfl r6
   ·have hd : decide (i < j) = false := decide_eq_false hij
    simp only [srch, if_neg hij]
    rw [go_loop]
    simp (maxSteps := 1000000) only [go_sem, b_sort_Search_l0, b_sort_Search_r0, r1, r5, r6, hd, Nat.reduceEqDiff, reduceCtorEq, Nat.reduceAdd, Nat.reduceMul, Nat.reduceSub, Int.reduceLT, Int.reduceLE, Int.reduceEq, Int.reduceAdd, Int.reduceSub, Int.reduceNeg, Int.reduceToNat, Int.cast_ofNat_Int, ↓reduceIte, Nat.reduceLeDiff, Nat.lt_add_one, Nat.reduceLT, Nat.zero_lt_one, ne_eq, not_true, not_false_eq_true]
 rw [callL_go (show AP 34 = some c_sort_Search from rfl) rfl]
 simp (maxSteps := 1000000) only [go_sem, b_sort_Search, Nat.reduceEqDiff, reduceCtorEq, Nat.reduceAdd, Nat.reduceMul, Nat.reduceSub, Int.reduceLT, Int.reduceLE, Int.reduceEq, Int.reduceAdd, Int.reduceSub, Int.reduceNeg, Int.reduceToNat, Int.cast_ofNat_Int, ↓reduceIte, Nat.reduceLeDiff, Nat.lt_add_one, Nat.reduceLT, Nat.zero_lt_one, ne_eq, not_true, not_false_eq_true]
 exact key N.toNat 0 N _ (by omega) (by omega) hN (by omega) rfl rfl rfl
end
end Go.Ax.Sx.Lt

namespace Go.Ax.Sx.Lt
open Go.Ax
set_option linter.unusedSimpArgs false
set_option linter.unusedVariables false
set_option maxRecDepth 100000
section
variable {l : List Kn} {t : Int}
theorem VT.next (hv : VT l) {i : Nat} {a b : Kn} (ha : l[i]? = some a) (hb : l[i + 1]? = some b) : a.t < b.t := (kStep_some (hv.step i a b ha hb)).1
theorem VT.mono (hv : VT l) {i : Nat} {a : Kn} (ha : l[i]? = some a) : ∀ {n : Nat} {b : Kn}, l[i + n]? = some b → a.t ≤ b.t
 | 0, b, hb => by
  rw [Nat.add_zero, ha] at hb
  injection hb with hb
  subst hb
  exact Int.le_refl _
 | n + 1, b, hb => by
  have hlt := (List.getElem?_eq_some_iff.1 hb).1
  obtain ⟨c, hc⟩ := get_some (l := l) (k := i + n) (by omega)
  have h1 := hv.mono ha hc
  have h2 := hv.next hc hb
  omega
theorem VT.mono' (hv : VT l) {i j : Nat} {a b : Kn} (hij : i ≤ j) (ha : l[i]? = some a) (hb : l[j]? = some b) : a.t ≤ b.t :=
 hv.mono ha (n := j - i) (by rw [Nat.add_sub_cancel' hij]; exact hb)
structure Seg (l : List Kn) (t : Int) (i : Nat) (b : Kn) : Prop where
 get : l[i]? = some b
 le : t ≤ b.t
 lt : ∀ (j : Nat) (a : Kn), j < i → l[j]? = some a → a.t < t
theorem seg_ex (hv : VT l) (h2 : t ≤ lst l) : ∃ i b, Seg l t i b := by
 have key : ∀ n i, l.length - i ≤ n → i < l.length → (∀ (j : Nat) (a : Kn), j < i → l[j]? = some a → a.t < t) → ∃ i b, Seg l t i b := by
  intro n
  induction n with
  | zero => intro i h1 h3; omega
  | succ n ih =>
   intro i h1 h3 h4
   obtain ⟨b, hb⟩ := get_some h3
   by_cases hle : t ≤ b.t
   ·exact ⟨i, b, hb, hle, h4⟩
   ·by_cases hi : i + 1 < l.length
    ·refine ih (i + 1) (by omega) hi fun j a hj ha => ?_
     by_cases hji : j = i
     ·subst hji; rw [hb] at ha; injection ha with ha; subst ha; omega
     ·exact h4 j a (by omega) ha
    ·exfalso
     have e : i = l.length - 1 := by omega
     unfold lst at h2
     rw [← e, hb] at h2
     exact hle h2
 exact key l.length 0 (by omega) hv.pos (fun j a hj => by omega)
def segI (l : List Kn) (t : Int) : Nat := l.findIdx fun k => decide (t ≤ k.t)
theorem Seg.eq {i : Nat} {b : Kn} (h : Seg l t i b) : segI l t = i := by
 obtain ⟨hi1, hi2⟩ := List.getElem?_eq_some_iff.1 h.get
 have hi : i < l.length ∧ l[i] = b := ⟨hi1, hi2⟩
 unfold segI
 rw [List.findIdx_eq hi.1]
 refine ⟨by rw [hi.2]; simp [h.le], fun j hj => ?_⟩
 have hjl : j < l.length := Nat.lt_trans hj hi.1
 have := h.lt j l[j] hj (List.getElem?_eq_getElem hjl)
 simp; omega
def plc (l : List Kn) (t : Int) : V3 × Int := match l[segI l t]? with
 | none => ((0, 0, 0), 1)
 | some b => if b.t = t then (b.p, 1) else match l[segI l t - 1]? with
  | none => ((0, 0, 0), 1)
  | some a => (vadd (vmul a.p (b.t - a.t)) (vmul (vsub b.p a.p) (t - a.t)), b.t - a.t)
inductive Atk (l : List Kn) (t : Int) : Prop
 | knot (i : Nat) (b : Kn) (h : Seg l t i b) (e : b.t = t) (p : plc l t = (b.p, 1))
 | mid (i : Nat) (a b : Kn) (h : Seg l t (i + 1) b) (ha : l[i]? = some a) (h1 : a.t < t) (h2 : t < b.t) (p : plc l t = (vadd (vmul a.p (b.t - a.t)) (vmul (vsub b.p a.p) (t - a.t)), b.t - a.t))
theorem at_ex (hv : VT l) (h1 : fst l ≤ t) (h2 : t ≤ lst l) : Atk l t := by
 obtain ⟨i, b, h⟩ := seg_ex hv h2
 have e := h.eq
 by_cases hb : b.t = t
 ·exact .knot i b h hb (by unfold plc; rw [e, h.get]; simp [hb])
 ·have hlt : t < b.t := by have := h.le; omega
  cases i with
  | zero =>
   exfalso
   unfold fst at h1
   rw [h.get] at h1
   have h1 : b.t ≤ t := h1
   omega
  | succ i =>
   obtain ⟨a, ha⟩ := get_some (l := l) (k := i) (by have := (List.getElem?_eq_some_iff.1 h.get).1; omega)
   exact .mid i a b h ha (h.lt i a (Nat.lt_succ_self i) ha) hlt (by unfold plc; rw [e, h.get]; simp [hb, ha])
def notB (l : List Kn) (t : Int) (i : Int) : Bool := match l[i.toNat]? with
 | none => false
 | some k => decide (t ≤ k.t)
theorem search_seg (hv : VT l) {i : Nat} {b : Kn} (h : Seg l t i b) : search (notB l t) l.length = i := by
 obtain ⟨⟨h1, h2⟩, h3, h4⟩ := search_spec (f := notB l t) (N := l.length) (by omega)
 generalize search (notB l t) l.length = r at *
 have hi := (List.getElem?_eq_some_iff.1 h.get).1
 obtain ⟨n, rfl⟩ := Int.eq_ofNat_of_zero_le h1
 rcases Nat.lt_trichotomy n i with q | q | q
 ·exfalso
  obtain ⟨c, hc⟩ := get_some (l := l) (k := n) (by omega)
  have := h.lt n c q hc
  rcases h4 with h4 | h4
  ·omega
  ·unfold notB at h4
   rw [Int.toNat_natCast, hc] at h4
   simp at h4; omega
 ·rw [q]
 ·exfalso
  rcases h3 with h3 | h3
  ·omega
  ·obtain ⟨c, hc⟩ := get_some (l := l) (k := n - 1) (by omega)
   have hm := hv.mono' (i := i) (j := n - 1) (by omega) h.get hc
   have e : ((n : Int) - 1).toNat = n - 1 := by omega
   unfold notB at h3
   rw [e, hc] at h3
   simp at h3
   have := h.le
   omega
end
section
variable {o : Own} {s : Sig} {l : List Kn} {d t : Int}
theorem path_at_1 {m : Sig} {dd b1 b2 : Nat} (hm : Ok m) (hl : l.length ≤ 14) (h1 : m.box dd b1 = some [.slice o 4 (l.map rowK), I d]) (h2 : m.box dd b2 = some [I t]) {i : Int} (hi : 0 ≤ i) (hi2 : i < l.length) :
  callL AP (.fn 46) [I i, .ptr dd b1 0, .ptr dd b2 0] m = some (B (notB l t i), m) := by
 obtain ⟨n, rfl⟩ := Int.eq_ofNat_of_zero_le hi
 obtain ⟨a, ha⟩ := get_some (l := l) (k := n) (by omega)
 have hr := ix_ks (o := o) ha
 have e : notB l t (n : Int) = decide (t ≤ a.t) := by unfold notB; rw [Int.toNat_natCast, ha]
 rw [e]
 rw [callL_go (show AP 46 = some c_path_at_1 from rfl) rfl]
 simp (maxSteps := 1000000) only [go_sem, b_path_at_1, hm, box_keep h1, box_keep h2, hr, Nat.reduceEqDiff, reduceCtorEq, Nat.reduceAdd, Nat.reduceMul, Nat.reduceSub, Int.reduceLT, Int.reduceLE, Int.reduceEq, Int.reduceAdd, Int.reduceSub, Int.reduceNeg, Int.reduceToNat, Int.cast_ofNat_Int, ↓reduceIte, Nat.reduceLeDiff, Nat.lt_add_one, Nat.reduceLT, Nat.zero_lt_one, ne_eq, not_true, not_false_eq_true]
end
end Go.Ax.Sx.Lt

namespace Go.Ax.Sx.Lt
open Go.Ax
set_option linter.unusedSimpArgs false
set_option linter.unusedVariables false
set_option maxRecDepth 100000
section
variable {o : Own} {s : Sig} {l : List Kn} {d t : Int}
abbrev rowP (p : V3 × Int) : List AV := [I p.1.1, I p.1.2.1, I p.1.2.2, I p.2]
theorem mul_in {a b m n : Int} (h1 : -m ≤ a) (h2 : a ≤ m) (h3 : -n ≤ b) (h4 : b ≤ n) : -(m * n) ≤ a * b ∧ a * b ≤ m * n := by
 have q1 := Int.mul_nonneg (show 0 ≤ m - a by omega) (show 0 ≤ n - b by omega)
 have q2 := Int.mul_nonneg (show 0 ≤ m + a by omega) (show 0 ≤ n + b by omega)
 have q3 := Int.mul_nonneg (show 0 ≤ m - a by omega) (show 0 ≤ n + b by omega)
 have q4 := Int.mul_nonneg (show 0 ≤ m + a by omega) (show 0 ≤ n - b by omega)
 rw [Int.sub_mul, Int.mul_sub, Int.mul_sub] at q1
 rw [Int.add_mul, Int.mul_add, Int.mul_add] at q2
 rw [Int.sub_mul, Int.mul_add, Int.mul_add] at q3
 rw [Int.add_mul, Int.mul_sub, Int.mul_sub] at q4
 omega
theorem path_at (hv : VT l) (h1 : fst l ≤ t) (h2 : t ≤ lst l) (hs : Ok s) : callL AP (.fn 31) [tv o l d, I t] s = some (.agg (rowP (plc l t)), s) := by
 have hl := hv.few
 have hse : ∀ bx, callL AP (.fn 34) [I l.length, .fn 46 [] [.ptr s.acts.length 0 0, .ptr s.acts.length 1 0]] (s.push ⟨[.slice o 4 (l.map rowK), I d] :: [I t] :: bx, []⟩) = some (I (search (notB l t) l.length), s.push ⟨[.slice o 4 (l.map rowK), I d] :: [I t] :: bx, []⟩) := fun bx =>
  sort_Search (by omega) (by omega) fun i hi hi2 r => path_at_1 ((hs.push _).push r) (by omega) (box_keep (by rw [box_push]; rfl) r) (box_keep (by rw [box_push]; rfl) r) hi hi2
 cases at_ex hv h1 h2 with
 | knot i b h e p =>
  rw [search_seg hv h] at hse
  have hr := ix_ks (o := o) h.get
  have hof : ∀ r, callL AP (.fn 47) [.agg [I b.x, I b.y, I b.z]] (s.push r) = some (.agg [I b.x, I b.y, I b.z], s.push r) := fun r => path_ofPoint (v := (b.x, b.y, b.z)) (hs.push r)
  rw [p]
  obtain ⟨bt, bx, by_, bz⟩ := b
  simp only at e
  subst e
  rw [callL_go (show AP 31 = some c_path_at from rfl) rfl]
  simp (maxSteps := 1000000) only [go_sem, b_path_at, hs, hse, hr, hof, Nat.reduceEqDiff, reduceCtorEq, Nat.reduceAdd, Nat.reduceMul, Nat.reduceSub, Int.reduceLT, Int.reduceLE, Int.reduceEq, Int.reduceAdd, Int.reduceSub, Int.reduceNeg, Int.reduceToNat, Int.cast_ofNat_Int, ↓reduceIte, Nat.reduceLeDiff, Nat.lt_add_one, Nat.reduceLT, Nat.zero_lt_one, ne_eq, not_true, not_false_eq_true]
  rfl
 | mid i a b h ha c1 c2 p =>
  rw [search_seg hv h] at hse
  have hr := ix_ks (o := o) h.get
  have hr2 := ix_ks (o := o) ha
  have hil : i + 1 < l.length := (List.getElem?_eq_some_iff.1 h.get).1
  have hst := kStep_some (hv.step i a b ha h.get)
  have hai := kIn_iff.1 (hv.kin a (List.mem_of_getElem? ha))
  have hbi := kIn_iff.1 (hv.kin b (List.mem_of_getElem? h.get))
  rw [p]
  obtain ⟨bt, bx, by_, bz⟩ := b
  obtain ⟨at_, ax, ay, az⟩ := a
  simp only [Kn.p, vin] at hst hai hbi c1 c2
  have hof : ∀ (x y z : Int) b1 b2 b3 b4 b5, fcallOp (callL AP) true (s.push ⟨[b1, b2, b3, b4, b5, [], []], []⟩) [[I 0, I 0, I 0], [I 0, I 0, I 0]] (.fn 47) [.agg [I x, I y, I z]] = some (.agg [I x, I y, I z], s.push ⟨[b1, b2, b3, b4, b5, [], []], []⟩) := fun x y z b1 b2 b3 b4 b5 =>
   fc_keep (hs.push _) (fun m hm => path_ofPoint (v := (x, y, z)) hm) (by rw [tail_push]; simp [fills])
  have hmi : ∀ b1 b2 b3 b4 b5, fcallOp (callL AP) true (s.push ⟨[b1, b2, b3, b4, b5, [], []], []⟩) [[I 0, I 0, I 0], [I 0, I 0, I 0]] (.fn 48) [.agg [I bx, I by_, I bz], .agg [I ax, I ay, I az]] = some (.agg [I (bx - ax), I (by_ - ay), I (bz - az)], s.push ⟨[b1, b2, b3, b4, b5, [], []], []⟩) := fun b1 b2 b3 b4 b5 =>
   fc_keep (hs.push _) (fun m hm => path_triple_minus (a := (bx, by_, bz)) (b := (ax, ay, az)) (m := 1000000) (by decide) hbi.2 hai.2 hm) (by rw [tail_push]; simp [fills])
  have hd : decide (bt = t) = false := decide_eq_false (by omega)
  have w0 : IntKind.i64.wrap (((i + 1 : Nat) : Int) - 1) = (i : Int) := by rw [wrap_id] <;> omega
  have w1 : IntKind.i64.wrap (bt - at_) = bt - at_ := wrap_id (by omega) (by omega)
  have w2 : IntKind.i64.wrap (t - at_) = t - at_ := wrap_id (by omega) (by omega)
  have mulw : ∀ {x y : Int}, -3000000 ≤ x → x ≤ 3000000 → -10000 ≤ y → y ≤ 10000 → IntKind.i64.wrap (x * y) = x * y ∧ -30000000000 ≤ x * y ∧ x * y ≤ 30000000000 := fun {x y} q1 q2 q3 q4 => by
   have := mul_in q1 q2 q3 q4
   exact ⟨wrap_id (by omega) (by omega), by omega, by omega⟩
  have x1 := mulw (x := ax) (y := bt - at_) (by omega) (by omega) (by omega) (by omega)
  have x2 := mulw (x := bx - ax) (y := t - at_) (by omega) (by omega) (by omega) (by omega)
  have y1 := mulw (x := ay) (y := bt - at_) (by omega) (by omega) (by omega) (by omega)
  have y2 := mulw (x := by_ - ay) (y := t - at_) (by omega) (by omega) (by omega) (by omega)
  have z1 := mulw (x := az) (y := bt - at_) (by omega) (by omega) (by omega) (by omega)
  have z2 := mulw (x := bz - az) (y := t - at_) (by omega) (by omega) (by omega) (by omega)
  have wx : IntKind.i64.wrap (ax * (bt - at_) + (bx - ax) * (t - at_)) = ax * (bt - at_) + (bx - ax) * (t - at_) := wrap_id (by omega) (by omega)
  have wy : IntKind.i64.wrap (ay * (bt - at_) + (by_ - ay) * (t - at_)) = ay * (bt - at_) + (by_ - ay) * (t - at_) := wrap_id (by omega) (by omega)
  have wz : IntKind.i64.wrap (az * (bt - at_) + (bz - az) * (t - at_)) = az * (bt - at_) + (bz - az) * (t - at_) := wrap_id (by omega) (by omega)
  rw [callL_go (show AP 31 = some c_path_at from rfl) rfl]
  simp (maxSteps := 1000000) only [go_sem, b_path_at, hs, hse, hr, hd, w0, hr2, rep2, hof, hmi, w1, w2, Nat.reduceEqDiff, reduceCtorEq, Nat.reduceAdd, Nat.reduceMul, Nat.reduceSub, Int.reduceLT, Int.reduceLE, Int.reduceEq, Int.reduceAdd, Int.reduceSub, Int.reduceNeg, Int.reduceToNat, Int.cast_ofNat_Int, ↓reduceIte, Nat.reduceLeDiff, Nat.lt_add_one, Nat.reduceLT, Nat.zero_lt_one, ne_eq, not_true, not_false_eq_true]
  rw [go_loop]
  simp (maxSteps := 1000000) only [go_sem, b_path_at_l0, b_path_at_r0, hs, w2, x1.1, x2.1, wx, Nat.reduceEqDiff, reduceCtorEq, Nat.reduceAdd, Nat.reduceMul, Nat.reduceSub, Int.reduceLT, Int.reduceLE, Int.reduceEq, Int.reduceAdd, Int.reduceSub, Int.reduceNeg, Int.reduceToNat, Int.cast_ofNat_Int, ↓reduceIte, Nat.reduceLeDiff, Nat.lt_add_one, Nat.reduceLT, Nat.zero_lt_one, ne_eq, not_true, not_false_eq_true]
  rw [go_loop]
  simp (maxSteps := 1000000) only [go_sem, b_path_at_l0, b_path_at_r0, hs, w2, y1.1, y2.1, wy, Nat.reduceEqDiff, reduceCtorEq, Nat.reduceAdd, Nat.reduceMul, Nat.reduceSub, Int.reduceLT, Int.reduceLE, Int.reduceEq, Int.reduceAdd, Int.reduceSub, Int.reduceNeg, Int.reduceToNat, Int.cast_ofNat_Int, ↓reduceIte, Nat.reduceLeDiff, Nat.lt_add_one, Nat.reduceLT, Nat.zero_lt_one, ne_eq, not_true, not_false_eq_true]
  rw [go_loop]
  simp (maxSteps := 1000000) only [go_sem, b_path_at_l0, b_path_at_r0, hs, w2, z1.1, z2.1, wz, Nat.reduceEqDiff, reduceCtorEq, Nat.reduceAdd, Nat.reduceMul, Nat.reduceSub, Int.reduceLT, Int.reduceLE, Int.reduceEq, Int.reduceAdd, Int.reduceSub, Int.reduceNeg, Int.reduceToNat, Int.cast_ofNat_Int, ↓reduceIte, Nat.reduceLeDiff, Nat.lt_add_one, Nat.reduceLT, Nat.zero_lt_one, ne_eq, not_true, not_false_eq_true]
  rw [go_loop]
  simp (maxSteps := 1000000) only [go_sem, b_path_at_l0, b_path_at_r0, hs, Nat.reduceEqDiff, reduceCtorEq, Nat.reduceAdd, Nat.reduceMul, Nat.reduceSub, Int.reduceLT, Int.reduceLE, Int.reduceEq, Int.reduceAdd, Int.reduceSub, Int.reduceNeg, Int.reduceToNat, Int.cast_ofNat_Int, ↓reduceIte, Nat.reduceLeDiff, Nat.lt_add_one, Nat.reduceLT, Nat.zero_lt_one, ne_eq, not_true, not_false_eq_true]
  rfl
end
end Go.Ax.Sx.Lt

namespace Go.Ax.Sx.Lt
open Go.Ax
set_option linter.unusedSimpArgs false
set_option linter.unusedVariables false
set_option maxRecDepth 100000
section
variable {l l' : List Kn} {t t' : Int}
structure PlOk (p : V3 × Int) : Prop where
 d1 : 1 ≤ p.2
 d2 : p.2 ≤ 10000
 inn : vin (1000000 * p.2) p.1
theorem plc_ok (hv : VT l) (h1 : fst l ≤ t) (h2 : t ≤ lst l) : PlOk (plc l t) := by
 cases at_ex hv h1 h2 with
 | knot i b h e p =>
  rw [p]
  have := (kIn_iff.1 (hv.kin b (List.mem_of_getElem? h.get))).2
  exact ⟨show (1 : Int) ≤ 1 by decide, show (1 : Int) ≤ 10000 by decide, this⟩
 | mid i a b h ha c1 c2 p =>
  rw [p]
  have hst := kStep_some (hv.step i a b ha h.get)
  have hai := (kIn_iff.1 (hv.kin a (List.mem_of_getElem? ha))).2
  have hbi := (kIn_iff.1 (hv.kin b (List.mem_of_getElem? h.get))).2
  have key : ∀ x y : Int, (-1000000 ≤ x ∧ x ≤ 1000000) → (-1000000 ≤ y ∧ y ≤ 1000000) → -(1000000 * (b.t - a.t)) ≤ x * (b.t - a.t) + (y - x) * (t - a.t) ∧ x * (b.t - a.t) + (y - x) * (t - a.t) ≤ 1000000 * (b.t - a.t) := fun x y hx hy => by
   have e : x * (b.t - a.t) + (y - x) * (t - a.t) = x * (b.t - t) + y * (t - a.t) := by grind
   have q1 := Int.mul_nonneg (show 0 ≤ 1000000 - x by omega) (show 0 ≤ b.t - t by omega)
   have q2 := Int.mul_nonneg (show 0 ≤ 1000000 + x by omega) (show 0 ≤ b.t - t by omega)
   have q3 := Int.mul_nonneg (show 0 ≤ 1000000 - y by omega) (show 0 ≤ t - a.t by omega)
   have q4 := Int.mul_nonneg (show 0 ≤ 1000000 + y by omega) (show 0 ≤ t - a.t by omega)
   rw [Int.sub_mul] at q1 q3
   rw [Int.add_mul] at q2 q4
   rw [e]; omega
  simp only [vin] at hai hbi
  refine ⟨?_, ?_, ?_⟩
  ·show 1 ≤ b.t - a.t; omega
  ·show b.t - a.t ≤ 10000; omega
  ·exact ⟨key _ _ hai.1 hbi.1, key _ _ hai.2.1 hbi.2.1, key _ _ hai.2.2 hbi.2.2⟩
structure Gp where
 v : V3
 den : Int
 dbt : Int
abbrev rowG (g : Gp) : List AV := [I g.v.1, I g.v.2.1, I g.v.2.2, I g.den, I g.dbt]
structure GpOk (g : Gp) : Prop where
 d1 : 1 ≤ g.den
 d2 : g.den ≤ 100000000
 inn : vin (2000000 * g.den) g.v
 b1 : 0 ≤ g.dbt
 b2 : g.dbt ≤ 2000
def gapP (p q : V3 × Int) (d : Int) : Gp := ⟨vsub (vmul q.1 p.2) (vmul p.1 q.2), p.2 * q.2, d⟩
theorem gapP_ok {p q : V3 × Int} {d : Int} (hp : PlOk p) (hq : PlOk q) (h1 : 0 ≤ d) (h2 : d ≤ 2000) : GpOk (gapP p q d) := by
 obtain ⟨⟨p1, p2, p3⟩, pd⟩ := p
 obtain ⟨⟨q1, q2, q3⟩, qd⟩ := q
 obtain ⟨a1, a2, a3⟩ := hp
 obtain ⟨c1, c2, c3⟩ := hq
 simp only [vin] at a1 a2 a3 c1 c2 c3
 have key : ∀ x y : Int, (-(1000000 * pd) ≤ x ∧ x ≤ 1000000 * pd) → (-(1000000 * qd) ≤ y ∧ y ≤ 1000000 * qd) → -(2000000 * (pd * qd)) ≤ y * pd - x * qd ∧ y * pd - x * qd ≤ 2000000 * (pd * qd) := fun x y hx hy => by
  have m1 := Int.mul_le_mul_of_nonneg_right hx.1 (show 0 ≤ qd by omega)
  have m2 := Int.mul_le_mul_of_nonneg_right hx.2 (show 0 ≤ qd by omega)
  have m3 := Int.mul_le_mul_of_nonneg_right hy.1 (show 0 ≤ pd by omega)
  have m4 := Int.mul_le_mul_of_nonneg_right hy.2 (show 0 ≤ pd by omega)
  have e1 : -(1000000 * pd) * qd = -(1000000 * (pd * qd)) := by grind
  have e2 : 1000000 * pd * qd = 1000000 * (pd * qd) := by grind
  have e3 : -(1000000 * qd) * pd = -(1000000 * (pd * qd)) := by grind
  have e4 : 1000000 * qd * pd = 1000000 * (pd * qd) := by grind
  rw [e1] at m1; rw [e2] at m2; rw [e3] at m3; rw [e4] at m4
  omega
 have hd1 : 1 ≤ pd * qd := by
  have := Int.mul_le_mul_of_nonneg_right a1 (show 0 ≤ qd by omega)
  omega
 have hd2 := (mul_bound (show 0 ≤ pd by omega) a2 (show 0 ≤ qd by omega) c2).2
 exact ⟨hd1, hd2, ⟨key _ _ a3.1 c3.1, key _ _ a3.2.1 c3.2.1, key _ _ a3.2.2 c3.2.2⟩, h1, h2⟩
end
section
variable {o : Own} {s : Sig} {l l' : List Kn} {d d' t t' : Int}
abbrev gap (l : List Kn) (d t : Int) (l' : List Kn) (d' t' : Int) : Gp := gapP (plc l t) (plc l' t') (d + d')
theorem path_between (hv : VT l) (h1 : fst l ≤ t) (h2 : t ≤ lst l) (hv' : VT l') (h1' : fst l' ≤ t') (h2' : t' ≤ lst l') (hd : wi d 0 1000 = true) (hd' : wi d' 0 1000 = true) (hs : Ok s) :
  callL AP (.fn 21) [tv o l d, I t, tv o l' d', I t'] s = some (.agg (rowG (gap l d t l' d' t')), s) := by
 have hp := plc_ok hv h1 h2
 have hq := plc_ok hv' h1' h2'
 rw [wi_iff] at hd hd'
 have hg := gapP_ok (d := d + d') hp hq (by omega) (by omega)
 have a1 : ∀ b1 b2 b3, fcallOp (callL AP) true (s.push ⟨[b1, b2, b3, [], []], []⟩) [[I 0, I 0, I 0, I 0], [I 0, I 0, I 0, I 0]] (.fn 31) [tv o l d, I t] = some (.agg (rowP (plc l t)), s.push ⟨[b1, b2, b3, [], []], []⟩) := fun b1 b2 b3 =>
  fc_keep (hs.push _) (fun m hm => path_at hv h1 h2 hm) (by rw [tail_push]; simp [fills])
 have a2 : ∀ b1 b2 b3, fcallOp (callL AP) false (s.push ⟨[b1, b2, b3, [], []], []⟩) [[I 0, I 0, I 0, I 0], [I 0, I 0, I 0, I 0]] (.fn 31) [tv o l' d', I t'] = some (.agg (rowP (plc l' t')), s.push ⟨[b1, b2, b3, [], []], []⟩) := fun b1 b2 b3 =>
  fc_keep (hs.push _) (fun m hm => path_at hv' h1' h2' hm) (by rw [tail_push]; simp [fills])
 unfold gap at hg ⊢
 generalize plc l t = p at *
 generalize plc l' t' = q at *
 obtain ⟨⟨p1, p2, p3⟩, pd⟩ := p
 obtain ⟨⟨q1, q2, q3⟩, qd⟩ := q
 obtain ⟨x1, x2, x3⟩ := hp
 obtain ⟨c1, c2, c3⟩ := hq
 obtain ⟨g1, g2, g3, -, -⟩ := hg
 simp only [gapP, vsub, vmul, vin] at x1 x2 x3 c1 c2 c3 g1 g2 g3
 have w1 : IntKind.i64.wrap (pd * qd) = pd * qd := wrap_id (by omega) (by omega)
 have w2 : IntKind.i64.wrap (d + d') = d + d' := wrap_id (by omega) (by omega)
 have mw : ∀ {x y : Int}, -10000000000 ≤ x → x ≤ 10000000000 → 0 ≤ y → y ≤ 10000 → IntKind.i64.wrap (x * y) = x * y := fun {x y} r1 r2 r3 r4 => by
  have := mul_in (m := 10000000000) (n := 10000) r1 r2 (show -10000 ≤ y by omega) r4
  exact wrap_id (by omega) (by omega)
 have y1 := mw (x := q1) (y := pd) (by omega) (by omega) (by omega) (by omega)
 have y2 := mw (x := q2) (y := pd) (by omega) (by omega) (by omega) (by omega)
 have y3 := mw (x := q3) (y := pd) (by omega) (by omega) (by omega) (by omega)
 have z1 := mw (x := p1) (y := qd) (by omega) (by omega) (by omega) (by omega)
 have z2 := mw (x := p2) (y := qd) (by omega) (by omega) (by omega) (by omega)
 have z3 := mw (x := p3) (y := qd) (by omega) (by omega) (by omega) (by omega)
 have v1 : IntKind.i64.wrap (q1 * pd - p1 * qd) = q1 * pd - p1 * qd := wrap_id (by omega) (by omega)
 have v2 : IntKind.i64.wrap (q2 * pd - p2 * qd) = q2 * pd - p2 * qd := wrap_id (by omega) (by omega)
 have v3 : IntKind.i64.wrap (q3 * pd - p3 * qd) = q3 * pd - p3 * qd := wrap_id (by omega) (by omega)
 rw [callL_go (show AP 21 = some c_path_between from rfl) rfl]
 simp (maxSteps := 1000000) only [go_sem, b_path_between, hs, rep2, a1, a2, w1, w2, Nat.reduceEqDiff, reduceCtorEq, Nat.reduceAdd, Nat.reduceMul, Nat.reduceSub, Int.reduceLT, Int.reduceLE, Int.reduceEq, Int.reduceAdd, Int.reduceSub, Int.reduceNeg, Int.reduceToNat, Int.cast_ofNat_Int, ↓reduceIte, Nat.reduceLeDiff, Nat.lt_add_one, Nat.reduceLT, Nat.zero_lt_one, ne_eq, not_true, not_false_eq_true]
 rw [go_loop]
 simp (maxSteps := 1000000) only [go_sem, b_path_between_l0, b_path_between_r0, hs, y1, z1, v1, Nat.reduceEqDiff, reduceCtorEq, Nat.reduceAdd, Nat.reduceMul, Nat.reduceSub, Int.reduceLT, Int.reduceLE, Int.reduceEq, Int.reduceAdd, Int.reduceSub, Int.reduceNeg, Int.reduceToNat, Int.cast_ofNat_Int, ↓reduceIte, Nat.reduceLeDiff, Nat.lt_add_one, Nat.reduceLT, Nat.zero_lt_one, ne_eq, not_true, not_false_eq_true]
 rw [go_loop]
 simp (maxSteps := 1000000) only [go_sem, b_path_between_l0, b_path_between_r0, hs, y2, z2, v2, Nat.reduceEqDiff, reduceCtorEq, Nat.reduceAdd, Nat.reduceMul, Nat.reduceSub, Int.reduceLT, Int.reduceLE, Int.reduceEq, Int.reduceAdd, Int.reduceSub, Int.reduceNeg, Int.reduceToNat, Int.cast_ofNat_Int, ↓reduceIte, Nat.reduceLeDiff, Nat.lt_add_one, Nat.reduceLT, Nat.zero_lt_one, ne_eq, not_true, not_false_eq_true]
 rw [go_loop]
 simp (maxSteps := 1000000) only [go_sem, b_path_between_l0, b_path_between_r0, hs, y3, z3, v3, Nat.reduceEqDiff, reduceCtorEq, Nat.reduceAdd, Nat.reduceMul, Nat.reduceSub, Int.reduceLT, Int.reduceLE, Int.reduceEq, Int.reduceAdd, Int.reduceSub, Int.reduceNeg, Int.reduceToNat, Int.cast_ofNat_Int, ↓reduceIte, Nat.reduceLeDiff, Nat.lt_add_one, Nat.reduceLT, Nat.zero_lt_one, ne_eq, not_true, not_false_eq_true]
 rw [go_loop]
 simp (maxSteps := 1000000) only [go_sem, b_path_between_l0, b_path_between_r0, hs, Nat.reduceEqDiff, reduceCtorEq, Nat.reduceAdd, Nat.reduceMul, Nat.reduceSub, Int.reduceLT, Int.reduceLE, Int.reduceEq, Int.reduceAdd, Int.reduceSub, Int.reduceNeg, Int.reduceToNat, Int.cast_ofNat_Int, ↓reduceIte, Nat.reduceLeDiff, Nat.lt_add_one, Nat.reduceLT, Nat.zero_lt_one, ne_eq, not_true, not_false_eq_true]
 rfl
end
end Go.Ax.Sx.Lt

namespace Go.Ax.Sx.Lt
open Go.Ax
set_option linter.unusedSimpArgs false
set_option linter.unusedVariables false
set_option maxRecDepth 100000
abbrev ab (n : Int) : Int := max n (-n)
def sumS (f : Int → Int) (v : V3) : Int := f (ab v.1) * f (ab v.1) + f (ab v.2.1) * f (ab v.2.1) + f (ab v.2.2) * f (ab v.2.2)
def nearF (g : Gp) (x : Int) : Int := max 0 (x - g.dbt * g.den)
def farF (g : Gp) (x : Int) : Int := x + g.dbt * g.den
def nearS (g : Gp) : Int := sumS (nearF g) g.v
def farS (g : Gp) : Int := sumS (farF g) g.v
section
variable {s : Sig}
theorem path_gap_sum {g : Gp} {f : Int → Int} {k : FuncId} {caps : List AV} (hg : GpOk g) (hf : ∀ x, 0 ≤ x → x ≤ 200000000000000 → 0 ≤ f x ∧ f x ≤ 400000000000000)
  (hk : ∀ x, 0 ≤ x → x ≤ 200000000000000 → ∀ r, callL AP (.fn k) (I x :: caps) (roS (s.push r)) = some (I (f x), roS (s.push r))) (hs : Ok s) :
  callL AP (.fn 49) [.agg (rowG g), .fn k [] caps] s = some (.agg (wd (sumS f g.v)), s) := by
 obtain ⟨⟨v1, v2, v3⟩, den, dbt⟩ := g
 obtain ⟨g1, g2, g3, -, -⟩ := hg
 simp only [vin] at g1 g2 g3
 have ha : ∀ x : Int, -200000000000000 ≤ x → x ≤ 200000000000000 → 0 ≤ ab x ∧ ab x ≤ 200000000000000 ∧ IntKind.i64.wrap (-x) = -x := fun x h1 h2 => ⟨by show 0 ≤ max x (-x); omega, by show max x (-x) ≤ _; omega, wrap_id (by omega) (by omega)⟩
 have b1 := ha v1 (by omega) (by omega)
 have b2 := ha v2 (by omega) (by omega)
 have b3 := ha v3 (by omega) (by omega)
 have c1 := hf _ b1.1 b1.2.1
 have c2 := hf _ b2.1 b2.2.1
 have c3 := hf _ b3.1 b3.2.1
 have k1 := hk _ b1.1 b1.2.1
 have k2 := hk _ b2.1 b2.2.1
 have k3 := hk _ b3.1 b3.2.1
 have q1 := mul_bound c1.1 c1.2 c1.1 c1.2
 have q2 := mul_bound c2.1 c2.2 c2.1 c2.2
 have q3 := mul_bound c3.1 c3.2 c3.1 c3.2
 have sq : ∀ x, 0 ≤ x ∧ x ≤ 400000000000000 → ∀ r, callL AP (.fn 37) [I x] (roS (s.push r)) = some (.agg (wd (x * x)), roS (s.push r)) := fun x hx r => path_squared (by omega) (by omega) ok_roS
 have p1 : ∀ r, callL AP (.fn 60) [.agg (wd 0), .agg (wd (f (ab v1) * f (ab v1)))] (s.push r) = some (.agg (wd (0 + f (ab v1) * f (ab v1))), s.push r) := fun r => path_wide_plus (by omega) (by omega) (by omega) (hs.push r)
 have p2 : ∀ r, callL AP (.fn 60) [.agg (wd (0 + f (ab v1) * f (ab v1))), .agg (wd (f (ab v2) * f (ab v2)))] (s.push r) = some (.agg (wd (0 + f (ab v1) * f (ab v1) + f (ab v2) * f (ab v2))), s.push r) := fun r => path_wide_plus (by omega) (by omega) (by omega) (hs.push r)
 have p3 : ∀ r, callL AP (.fn 60) [.agg (wd (0 + f (ab v1) * f (ab v1) + f (ab v2) * f (ab v2))), .agg (wd (f (ab v3) * f (ab v3)))] (s.push r) = some (.agg (wd (0 + f (ab v1) * f (ab v1) + f (ab v2) * f (ab v2) + f (ab v3) * f (ab v3))), s.push r) := fun r => path_wide_plus (by omega) (by omega) (by omega) (hs.push r)
 have e0 : (wd 0) = [U 0, U 0] := rfl
 rw [e0] at p1
 have s1 := sq _ c1
 have s2 := sq _ c2
 have s3 := sq _ c3
 rw [callL_go (show AP 49 = some c_path_gap_sum from rfl) rfl]
 simp (maxSteps := 1000000) only [go_sem, b_path_gap_sum, hs, Nat.reduceEqDiff, reduceCtorEq, Nat.reduceAdd, Nat.reduceMul, Nat.reduceSub, Int.reduceLT, Int.reduceLE, Int.reduceEq, Int.reduceAdd, Int.reduceSub, Int.reduceNeg, Int.reduceToNat, Int.cast_ofNat_Int, ↓reduceIte, Nat.reduceLeDiff, Nat.lt_add_one, Nat.reduceLT, Nat.zero_lt_one, ne_eq, not_true, not_false_eq_true]
 rw [go_loop]
 simp (maxSteps := 1000000) only [go_sem, b_path_gap_sum_l0, b_path_gap_sum_r0, hs, b1.2.2, k1, s1, p1, Nat.reduceEqDiff, reduceCtorEq, Nat.reduceAdd, Nat.reduceMul, Nat.reduceSub, Int.reduceLT, Int.reduceLE, Int.reduceEq, Int.reduceAdd, Int.reduceSub, Int.reduceNeg, Int.reduceToNat, Int.cast_ofNat_Int, ↓reduceIte, Nat.reduceLeDiff, Nat.lt_add_one, Nat.reduceLT, Nat.zero_lt_one, ne_eq, not_true, not_false_eq_true]
 rw [go_loop]
 simp (maxSteps := 1000000) only [go_sem, b_path_gap_sum_l0, b_path_gap_sum_r0, hs, b2.2.2, k2, s2, p2, Nat.reduceEqDiff, reduceCtorEq, Nat.reduceAdd, Nat.reduceMul, Nat.reduceSub, Int.reduceLT, Int.reduceLE, Int.reduceEq, Int.reduceAdd, Int.reduceSub, Int.reduceNeg, Int.reduceToNat, Int.cast_ofNat_Int, ↓reduceIte, Nat.reduceLeDiff, Nat.lt_add_one, Nat.reduceLT, Nat.zero_lt_one, ne_eq, not_true, not_false_eq_true]
 rw [go_loop]
 simp (maxSteps := 1000000) only [go_sem, b_path_gap_sum_l0, b_path_gap_sum_r0, hs, b3.2.2, k3, s3, p3, Nat.reduceEqDiff, reduceCtorEq, Nat.reduceAdd, Nat.reduceMul, Nat.reduceSub, Int.reduceLT, Int.reduceLE, Int.reduceEq, Int.reduceAdd, Int.reduceSub, Int.reduceNeg, Int.reduceToNat, Int.cast_ofNat_Int, ↓reduceIte, Nat.reduceLeDiff, Nat.lt_add_one, Nat.reduceLT, Nat.zero_lt_one, ne_eq, not_true, not_false_eq_true]
 rw [go_loop]
 simp (maxSteps := 1000000) only [go_sem, b_path_gap_sum_l0, b_path_gap_sum_r0, hs, Nat.reduceEqDiff, reduceCtorEq, Nat.reduceAdd, Nat.reduceMul, Nat.reduceSub, Int.reduceLT, Int.reduceLE, Int.reduceEq, Int.reduceAdd, Int.reduceSub, Int.reduceNeg, Int.reduceToNat, Int.cast_ofNat_Int, ↓reduceIte, Nat.reduceLeDiff, Nat.lt_add_one, Nat.reduceLT, Nat.zero_lt_one, ne_eq, not_true, not_false_eq_true]
 rw [Int.zero_add]
 rfl
end
end Go.Ax.Sx.Lt

namespace Go.Ax.Sx.Lt
open Go.Ax
set_option linter.unusedSimpArgs false
set_option linter.unusedVariables false
set_option maxRecDepth 100000
theorem box_roS {m : Sig} {d b : Nat} : (roS m).box d b = m.box d b := rfl
section
variable {s : Sig} {g : Gp}
theorem GpOk.by (hg : GpOk g) : 0 ≤ g.dbt * g.den ∧ g.dbt * g.den ≤ 200000000000 := by
 have := mul_in (m := 2000) (n := 100000000) (a := g.dbt) (b := g.den) (by have := hg.b1; omega) hg.b2 (by have := hg.d1; omega) hg.d2
 exact ⟨Int.mul_nonneg hg.b1 (by have := hg.d1; omega), by omega⟩
theorem near_bd (hg : GpOk g) : ∀ x, 0 ≤ x → x ≤ 200000000000000 → 0 ≤ nearF g x ∧ nearF g x ≤ 400000000000000 := fun x h1 h2 => by
 have := hg.by; unfold nearF; omega
theorem far_bd (hg : GpOk g) : ∀ x, 0 ≤ x → x ≤ 200000000000000 → 0 ≤ farF g x ∧ farF g x ≤ 400000000000000 := fun x h1 h2 => by
 have := hg.by; unfold farF; omega
theorem GpOk.szv (hg : GpOk g) : (0 ≤ ab g.v.1 ∧ ab g.v.1 ≤ 200000000000000) ∧ (0 ≤ ab g.v.2.1 ∧ ab g.v.2.1 ≤ 200000000000000) ∧ (0 ≤ ab g.v.2.2 ∧ ab g.v.2.2 ≤ 200000000000000) := by
 have h1 := hg.inn
 have h2 := hg.d2
 simp only [vin] at h1
 have key : ∀ x : Int, -(2000000 * g.den) ≤ x ∧ x ≤ 2000000 * g.den → 0 ≤ ab x ∧ ab x ≤ 200000000000000 := fun x h => by
  show 0 ≤ max x (-x) ∧ max x (-x) ≤ _; omega
 exact ⟨key _ h1.1, key _ h1.2.1, key _ h1.2.2⟩
theorem sum_bd {f : Int → Int} (hg : GpOk g) (hf : ∀ x, 0 ≤ x → x ≤ 200000000000000 → 0 ≤ f x ∧ f x ≤ 400000000000000) : 0 ≤ sumS f g.v ∧ sumS f g.v ≤ 480000000000000000000000000000 := by
 obtain ⟨b1, b2, b3⟩ := hg.szv
 have c1 := hf _ b1.1 b1.2
 have c2 := hf _ b2.1 b2.2
 have c3 := hf _ b3.1 b3.2
 have q1 := mul_bound c1.1 c1.2 c1.1 c1.2
 have q2 := mul_bound c2.1 c2.2 c2.1 c2.2
 have q3 := mul_bound c3.1 c3.2 c3.1 c3.2
 unfold sumS
 omega
theorem near_nn (hg : GpOk g) : 0 ≤ nearS g := (sum_bd hg (near_bd hg)).1
theorem far_nn (hg : GpOk g) : 0 ≤ farS g := (sum_bd hg (far_bd hg)).1
theorem path_gap_nearest_1 {m : Sig} {dd b : Nat} {x : Int} (hg : GpOk g) (hm : Ok m) (hb : m.box dd b = some (rowG g)) (h1 : 0 ≤ x) (h2 : x ≤ 200000000000000) : callL AP (.fn 50) [I x, .ptr dd b 0] m = some (I (nearF g x), m) := by
 have hby := hg.by
 obtain ⟨⟨v1, v2, v3⟩, den, dbt⟩ := g
 simp only at hby
 have w1 : IntKind.i64.wrap (dbt * den) = dbt * den := wrap_id (by omega) (by omega)
 have w2 : IntKind.i64.wrap (x - dbt * den) = x - dbt * den := wrap_id (by omega) (by omega)
 rw [callL_go (show AP 50 = some c_path_gap_nearest_1 from rfl) rfl]
 simp (maxSteps := 1000000) only [go_sem, b_path_gap_nearest_1, hm, box_keep hb, w1, w2, Nat.reduceEqDiff, reduceCtorEq, Nat.reduceAdd, Nat.reduceMul, Nat.reduceSub, Int.reduceLT, Int.reduceLE, Int.reduceEq, Int.reduceAdd, Int.reduceSub, Int.reduceNeg, Int.reduceToNat, Int.cast_ofNat_Int, ↓reduceIte, Nat.reduceLeDiff, Nat.lt_add_one, Nat.reduceLT, Nat.zero_lt_one, ne_eq, not_true, not_false_eq_true]
 rfl
theorem path_gap_farthest_1 {m : Sig} {dd b : Nat} {x : Int} (hg : GpOk g) (hm : Ok m) (hb : m.box dd b = some (rowG g)) (h1 : 0 ≤ x) (h2 : x ≤ 200000000000000) : callL AP (.fn 51) [I x, .ptr dd b 0] m = some (I (farF g x), m) := by
 have hby := hg.by
 obtain ⟨⟨v1, v2, v3⟩, den, dbt⟩ := g
 simp only at hby
 have w1 : IntKind.i64.wrap (dbt * den) = dbt * den := wrap_id (by omega) (by omega)
 have w2 : IntKind.i64.wrap (x + dbt * den) = x + dbt * den := wrap_id (by omega) (by omega)
 rw [callL_go (show AP 51 = some c_path_gap_farthest_1 from rfl) rfl]
 simp (maxSteps := 1000000) only [go_sem, b_path_gap_farthest_1, hm, box_keep hb, w1, w2, Nat.reduceEqDiff, reduceCtorEq, Nat.reduceAdd, Nat.reduceMul, Nat.reduceSub, Int.reduceLT, Int.reduceLE, Int.reduceEq, Int.reduceAdd, Int.reduceSub, Int.reduceNeg, Int.reduceToNat, Int.cast_ofNat_Int, ↓reduceIte, Nat.reduceLeDiff, Nat.lt_add_one, Nat.reduceLT, Nat.zero_lt_one, ne_eq, not_true, not_false_eq_true]
 rfl
theorem path_gap_nearest (hg : GpOk g) (hs : Ok s) : callL AP (.fn 32) [.agg (rowG g)] s = some (.agg (wd (nearS g)), s) := by
 have e : ∀ bx, callL AP (.fn 49) [.agg (rowG g), .fn 50 [] [.ptr s.acts.length 0 0]] (s.push ⟨rowG g :: bx, []⟩) = some (.agg (wd (sumS (nearF g) g.v)), s.push ⟨rowG g :: bx, []⟩) := fun bx =>
  path_gap_sum hg (near_bd hg) (fun x h1 h2 r => path_gap_nearest_1 hg ok_roS (by rw [box_roS]; exact box_keep (by rw [box_push]; rfl) r) h1 h2) (hs.push _)
 rw [callL_go (show AP 32 = some c_path_gap_nearest from rfl) rfl]
 simp (maxSteps := 1000000) only [go_sem, b_path_gap_nearest, hs, e, Nat.reduceEqDiff, reduceCtorEq, Nat.reduceAdd, Nat.reduceMul, Nat.reduceSub, Int.reduceLT, Int.reduceLE, Int.reduceEq, Int.reduceAdd, Int.reduceSub, Int.reduceNeg, Int.reduceToNat, Int.cast_ofNat_Int, ↓reduceIte, Nat.reduceLeDiff, Nat.lt_add_one, Nat.reduceLT, Nat.zero_lt_one, ne_eq, not_true, not_false_eq_true]
 rfl
theorem path_gap_farthest (hg : GpOk g) (hs : Ok s) : callL AP (.fn 33) [.agg (rowG g)] s = some (.agg (wd (farS g)), s) := by
 have e : ∀ bx, callL AP (.fn 49) [.agg (rowG g), .fn 51 [] [.ptr s.acts.length 0 0]] (s.push ⟨rowG g :: bx, []⟩) = some (.agg (wd (sumS (farF g) g.v)), s.push ⟨rowG g :: bx, []⟩) := fun bx =>
  path_gap_sum hg (far_bd hg) (fun x h1 h2 r => path_gap_farthest_1 hg ok_roS (by rw [box_roS]; exact box_keep (by rw [box_push]; rfl) r) h1 h2) (hs.push _)
 rw [callL_go (show AP 33 = some c_path_gap_farthest from rfl) rfl]
 simp (maxSteps := 1000000) only [go_sem, b_path_gap_farthest, hs, e, Nat.reduceEqDiff, reduceCtorEq, Nat.reduceAdd, Nat.reduceMul, Nat.reduceSub, Int.reduceLT, Int.reduceLE, Int.reduceEq, Int.reduceAdd, Int.reduceSub, Int.reduceNeg, Int.reduceToNat, Int.cast_ofNat_Int, ↓reduceIte, Nat.reduceLeDiff, Nat.lt_add_one, Nat.reduceLT, Nat.zero_lt_one, ne_eq, not_true, not_false_eq_true]
 rfl
end
end Go.Ax.Sx.Lt
