/-
  What a week is among the values that an argument may read as.
-/
import Derived.Test.YtbcfnjgaamnokaaGreatDoorT12
import Derived.Test.YtbcfnjgaamnokaaGreatDoorT10
import Derived.Test.YtbcfnjgaamnokaaGreatDoorT11
import Derived.Test.YtbcfnjgaamnokaaGreatDoorT7
namespace Go.Ax.Sx.Sc
open Go.Ax
set_option linter.unusedSimpArgs false
set_option linter.unusedVariables false
set_option maxRecDepth 100000
section
variable {s : Sig}
def cmpI (x y : Int) : Int := if x < y then -1 else if y < x then 1 else 0
theorem cmp_isNaN_int {x : Int} : callL AP (.fn 112) [I x] s = some (B false, s) := by
 rw [callL_go (show AP 112 = some c_cmp_isNaN_int from rfl) rfl]
 simp (maxSteps := 1000000) only [go_sem, b_cmp_isNaN_int, ne_eq, not_true, decide_false, Nat.reduceEqDiff, reduceCtorEq, ↓reduceIte]
theorem cmp_Compare_int {x y : Int} : callL AP (.fn 92) [I x, I y] s = some (I (cmpI x y), s) := by
 unfold cmpI
 by_cases h1 : x < y
 ·rw [if_pos h1]
  have hd : decide (x < y) = true := decide_eq_true h1
  rw [callL_go (show AP 92 = some c_cmp_Compare_int from rfl) rfl]
  simp (maxSteps := 1000000) only [go_sem, b_cmp_Compare_int, cmp_isNaN_int, hd, Nat.reduceEqDiff, reduceCtorEq, Int.reduceNeg, ↓reduceIte]
 ·rw [if_neg h1]
  have hd : decide (x < y) = false := decide_eq_false h1
  by_cases h2 : y < x
  ·rw [if_pos h2]
   have hd2 : decide (y < x) = true := decide_eq_true h2
   rw [callL_go (show AP 92 = some c_cmp_Compare_int from rfl) rfl]
   simp (maxSteps := 1000000) only [go_sem, b_cmp_Compare_int, cmp_isNaN_int, hd, hd2, Nat.reduceEqDiff, reduceCtorEq, Int.reduceNeg, ↓reduceIte]
  ·rw [if_neg h2]
   have hd2 : decide (y < x) = false := decide_eq_false h2
   rw [callL_go (show AP 92 = some c_cmp_Compare_int from rfl) rfl]
   simp (maxSteps := 1000000) only [go_sem, b_cmp_Compare_int, cmp_isNaN_int, hd, hd2, Nat.reduceEqDiff, reduceCtorEq, Int.reduceNeg, ↓reduceIte]
def lexC : List Int → List Int → Int
 | [], [] => 0
 | [], _ :: _ => -1
 | _ :: _, [] => 1
 | x :: a, y :: b => if cmpI x y = 0 then lexC a b else cmpI x y
theorem cmpI_0 {x y : Int} : cmpI x y = 0 ↔ x = y := by unfold cmpI; split <;> (try split) <;> omega
theorem lexC_0 : ∀ {a b : List Int}, lexC a b = 0 ↔ a = b
 | [], [] => by simp [lexC]
 | [], _ :: _ => by simp [lexC]
 | _ :: _, [] => by simp [lexC]
 | x :: a, y :: b => by
  simp only [lexC, List.cons.injEq]
  by_cases h : cmpI x y = 0
  ·rw [if_pos h, lexC_0, cmpI_0.1 h]; simp
  ·rw [if_neg h]
   exact ⟨fun e => absurd e h, fun e => absurd (cmpI_0.2 e.1) h⟩
theorem z_Compare_int {a b : List Int} {o1 o2 : Own} {e1 e2 : Nat} (h1 : a = [] ∨ e1 = 1) (h2 : b = [] ∨ e2 = 1) (la : (a.length : Int) < 1000000) (lb : (b.length : Int) < 1000000) :
  callL AP (.fn 67) [.slice o1 e1 (a.map rowI), .slice o2 e2 (b.map rowI)] s = some (I (lexC a b), s) := by
 have key : ∀ k ρ m, k ≤ a.length → (ρ 0 = .slice o1 e1 (a.map rowI) ∧ ρ 1 = .slice o2 e2 (b.map rowI) ∧ ρ 9 = .slice o1 e1 (a.map rowI) ∧ ρ 10 = I a.length ∧ ρ 11 = I k ∧ k ≤ b.length ∧ m = s.push ⟨[], []⟩) →
   go AP f_z_Compare_int (.c (.loop b_z_Compare_int_l0) :: k_z_Compare_int_0) ⟨ρ, m⟩ = some (I (lexC (a.drop k) (b.drop k)), s) := by
  refine loop_up a.length _ (fun k => some (I (lexC (a.drop k) (b.drop k)), s)) ?_ ?_
  ·rintro k ρ m hk ⟨g0, g1, g9, g10, g11, hkb, rfl⟩ ih
   obtain ⟨x, hx⟩ := get_some hk
   have hec : e1 = 1 := by rcases h1 with h | h; (rw [h] at hx; simp at hx); exact h
   subst hec
   have hr := ix_map (f := rowI) (o := o1) (es := 1) hx
   have hxd : a.drop k = x :: a.drop (k + 1) := drop_get hx
   have hwk1 := wrap_succ hk (show (a.length : Int) < _ by omega)
   by_cases hb : k < b.length
   ·obtain ⟨y, hy⟩ := get_some hb
    have hec : e2 = 1 := by rcases h2 with h | h; (rw [h] at hy; simp at hy); exact h
    subst hec
    have hr2 := ix_map (f := rowI) (o := o2) (es := 1) hy
    have hyd : b.drop k = y :: b.drop (k + 1) := drop_get hy
    have hge : decide ((b.length : Int) ≤ (k : Int)) = false := decide_eq_false (by omega)
    have hc : ∀ m : Sig, callL AP (.fn 92) [I x, I y] m = some (I (cmpI x y), m) := fun m => cmp_Compare_int
    rw [hxd, hyd]
    simp only [lexC]
    by_cases h0 : cmpI x y = 0
    ·rw [if_pos h0]
     rw [h0] at hc
     simp (maxSteps := 1000000) only [go_sem, b_z_Compare_int_l0, g1, g9, g10, g11, lt_dec hk, hr, hr2, hge, hc, hwk1, ne_eq, not_true, Nat.reduceEqDiff, ↓reduceIte]
     refine ih _ _ ?_
     exact ⟨g0, g1, g9, g10, rfl, by omega, rfl⟩
    ·rw [if_neg h0]
     simp (maxSteps := 1000000) only [go_sem, b_z_Compare_int_l0, g1, g9, g10, g11, lt_dec hk, hr, hr2, hge, hc, h0, ne_eq, not_false_iff, Nat.reduceEqDiff, ↓reduceIte]
   ·have hge : decide ((b.length : Int) ≤ (k : Int)) = true := decide_eq_true (by omega)
    rw [hxd, List.drop_eq_nil_of_le (as := b) (i := k) (by omega)]
    simp only [lexC]
    simp (maxSteps := 1000000) only [go_sem, b_z_Compare_int_l0, g1, g9, g10, g11, lt_dec hk, hr, hge, Nat.reduceEqDiff, ↓reduceIte]
  ·rintro ρ m ⟨g0, g1, g9, g10, g11, hkb, rfl⟩
   rw [List.drop_length]
   by_cases hb : a.length < b.length
   ·have hd : decide ((a.length : Int) < (b.length : Int)) = true := decide_eq_true (by omega)
    obtain ⟨y, hy⟩ := get_some hb
    rw [drop_get hy]
    simp only [lexC]
    simp (maxSteps := 1000000) only [go_sem, b_z_Compare_int_l0, b_z_Compare_int_r0, g0, g1, g10, g11, ge_dec, hd, Nat.reduceEqDiff, reduceCtorEq, Int.reduceNeg, ↓reduceIte]
   ·have hd : decide ((a.length : Int) < (b.length : Int)) = false := decide_eq_false (by omega)
    rw [List.drop_eq_nil_of_le (as := b) (i := a.length) (by omega)]
    simp only [lexC]
    simp (maxSteps := 1000000) only [go_sem, b_z_Compare_int_l0, b_z_Compare_int_r0, g0, g1, g10, g11, ge_dec, hd, Nat.reduceEqDiff, reduceCtorEq, Int.reduceNeg, ↓reduceIte]
 rw [callL_go (show AP 67 = some c_z_Compare_int from rfl) rfl]
 simp (maxSteps := 1000000) only [go_sem, b_z_Compare_int, reduceCtorEq, ↓reduceIte]
 refine key 0 _ _ (Nat.zero_le _) ?_
 exact ⟨rfl, rfl, rfl, rfl, rfl, Nat.zero_le _, rfl⟩
def cmpS (p q : P) : Int := if p.req = q.req then (if p.start = q.start then lexC p.an.l q.an.l else p.start - q.start) else p.req - q.req
theorem cmpS_0 {p q : P} : cmpS p q = 0 ↔ kP p = kP q := by
 unfold cmpS kP
 by_cases h1 : p.req = q.req
 ·rw [if_pos h1]
  by_cases h2 : p.start = q.start
  ·rw [if_pos h2, lexC_0, h1, h2]; simp
  ·rw [if_neg h2]
   exact ⟨fun e => by omega, fun e => by simp at e; exact absurd e.2.1 h2⟩
 ·rw [if_neg h1]
  exact ⟨fun e => by omega, fun e => by simp at e; exact absurd e.1 h1⟩
theorem s_compare_any {p q : P} (hs : Ok s) (hp : p.an.ok 1) (hq : q.an.ok 1) (lp : p.an.l.length ≤ 1000) (lq : q.an.l.length ≤ 1000)
  (b1 : -1000000 ≤ p.req ∧ p.req ≤ 1000000) (b2 : -1000000 ≤ q.req ∧ q.req ≤ 1000000) (b3 : -1000000 ≤ p.start ∧ p.start ≤ 1000000) (b4 : -1000000 ≤ q.start ∧ q.start ≤ 1000000) :
  callL AP (.fn 42) [.agg (rowP p), .agg (rowP q)] s = some (I (cmpS p q), s) := by
 have hz : ∀ m : Sig, callL AP (.fn 67) [p.an.v rowI, q.an.v rowI] m = some (I (lexC p.an.l q.an.l), m) := fun m => z_Compare_int hp.1 hq.1 (by omega) (by omega)
 have w1 : IntKind.i64.wrap (p.req - q.req) = p.req - q.req := wrap_id (by omega) (by omega)
 have w2 : IntKind.i64.wrap (p.start - q.start) = p.start - q.start := wrap_id (by omega) (by omega)
 unfold cmpS
 simp only [Sl.v] at hz
 by_cases h1 : p.req = q.req
 ·rw [if_pos h1]
  have d1 : decide (p.req = q.req) = true := decide_eq_true h1
  by_cases h2 : p.start = q.start
  ·rw [if_pos h2]
   have d2 : decide (p.start = q.start) = true := decide_eq_true h2
   rw [callL_go (show AP 42 = some c_s_compare from rfl) rfl]
   simp (maxSteps := 1000000) only [go_sem, b_s_compare, d1, d2, ne_eq, decide_not, Bool.not_true, hz, Nat.reduceEqDiff, Nat.reduceAdd, ↓reduceIte]
  ·rw [if_neg h2]
   have d2 : decide (p.start = q.start) = false := decide_eq_false h2
   rw [callL_go (show AP 42 = some c_s_compare from rfl) rfl]
   simp (maxSteps := 1000000) only [go_sem, b_s_compare, d1, d2, ne_eq, decide_not, Bool.not_true, Bool.not_false, w2, Nat.reduceEqDiff, Nat.reduceAdd, ↓reduceIte]
 ·rw [if_neg h1]
  have d1 : decide (p.req = q.req) = false := decide_eq_false h1
  rw [callL_go (show AP 42 = some c_s_compare from rfl) rfl]
  simp (maxSteps := 1000000) only [go_sem, b_s_compare, d1, ne_eq, decide_not, Bool.not_false, w1, Nat.reduceEqDiff, Nat.reduceAdd, ↓reduceIte]
end
end Go.Ax.Sx.Sc

namespace Go.Ax.Sx.Sc
open Go.Ax
set_option linter.unusedSimpArgs false
set_option linter.unusedVariables false
set_option maxRecDepth 100000
theorem cmpP_0 {p q : P} : cmpP p q = 0 ↔ kP p = kP q := by
 refine ⟨fun h => ?_, cmpP_key⟩
 unfold cmpP at h
 cases h1 : lexB (kP p) (kP q) with
 | true => rw [h1, if_pos rfl] at h; exact absurd h (by decide)
 | false =>
  rw [h1, if_neg (by decide)] at h
  cases h2 : lexB (kP q) (kP p) with
  | true => rw [h2, if_pos rfl] at h; exact absurd h (by decide)
  | false => exact lexB_total h1 h2
def chgF (a b : List P) (i : Int) : Bool := !decide ((pOf a i).map kP = (pOf b i).map kP)
def hasT (l : List ByteArray) (x : ByteArray) : Bool := l.any fun m => decide (m = x)
def tellF (w : W) (a b : List P) : Nat → List ByteArray
 | 0 => []
 | k + 1 => if (chgF a b (k : Int) && !hasT (tellF w a b k) (w.rq (k : Int)).mis) = true then tellF w a b k ++ [(w.rq (k : Int)).mis] else tellF w a b k
theorem tellF_len {w : W} {a b : List P} : ∀ {k : Nat}, (tellF w a b k).length ≤ k
 | 0 => Nat.le_refl _
 | k + 1 => by
  have ih := tellF_len (w := w) (a := a) (b := b) (k := k)
  simp only [tellF]
  split
  ·rw [List.length_append, List.length_singleton]; omega
  ·omega
section
variable {s : Sig} {w : W}
theorem z_Index_string {l : List ByteArray} {o : Own} {e : Nat} {x : ByteArray} (he : l = [] ∨ e = 1) (hl : l.length ≤ 100000) : callL AP (.fn 43) [.slice o e (l.map rowS), S x] s = some (I (findI (fun m => decide (m = x)) l), s) := by
 have key : ∀ k ρ m, k ≤ l.length → (ρ 0 = .slice o e (l.map rowS) ∧ ρ 1 = S x ∧ ρ 7 = I l.length ∧ ρ 8 = I k ∧ (∀ j y, j < k → l[j]? = some y → decide (y = x) = false) ∧ m = s.push ⟨[], []⟩) → go AP f_z_Index_string (.c (.loop b_z_Index_string_l0) :: k_z_Index_string_0) ⟨ρ, m⟩ = some (I (findI (fun m => decide (m = x)) l), s) := by
  refine loop_up l.length _ _ ?_ ?_
  ·rintro k ρ m hk ⟨h0, h1, h7, h8, hp, rfl⟩ ih
   obtain ⟨a, ha⟩ := get_some hk
   have he : e = 1 := by rcases he with h | h; (rw [h] at ha; simp at ha); exact h
   subst he
   have hr := ix_map (o := o) (es := 1) (f := rowS) ha
   have hwk1 := wrap_succ hk (show (l.length : Int) < _ by omega)
   by_cases hpa : a = x
   ·have hd : decide (x = a) = true := decide_eq_true hpa.symm
    simp (maxSteps := 1000000) only [go_sem, b_z_Index_string_l0, h0, h1, h7, h8, lt_dec hk, hr, hd, Nat.reduceEqDiff, reduceCtorEq, ↓reduceIte]
    rw [findI_at ha (decide_eq_true hpa) hp]
   ·have hd : decide (x = a) = false := decide_eq_false fun e => hpa e.symm
    simp (maxSteps := 1000000) only [go_sem, b_z_Index_string_l0, h0, h1, h7, h8, lt_dec hk, hr, hd, hwk1, Nat.reduceEqDiff, reduceCtorEq, ↓reduceIte]
    refine ih _ _ ?_
    refine ⟨h0, h1, h7, rfl, fun j y hj hy => ?_, rfl⟩
    by_cases e : j = k
    ·subst e; rw [ha] at hy; injection hy with hy; rw [← hy]; exact decide_eq_false hpa
    ·exact hp j y (by omega) hy
  ·rintro ρ m ⟨h0, h1, h7, h8, hp, rfl⟩
   simp (maxSteps := 1000000) only [go_sem, b_z_Index_string_l0, b_z_Index_string_r0, h7, h8, ge_dec, Int.reduceNeg, ↓reduceIte]
   rw [findI_no hp]
 rw [callL_go (show AP 43 = some c_z_Index_string from rfl) rfl]
 simp (maxSteps := 1000000) only [go_sem, b_z_Index_string, reduceCtorEq, ↓reduceIte]
 exact key 0 _ _ (Nat.zero_le _) ⟨rfl, rfl, rfl, rfl, fun j y hj => absurd hj (Nat.not_lt_zero _), rfl⟩
theorem z_Contains_string {l : List ByteArray} {o : Own} {e : Nat} {x : ByteArray} (he : l = [] ∨ e = 1) (hl : l.length ≤ 100000) : callL AP (.fn 26) [.slice o e (l.map rowS), S x] s = some (B (hasT l x), s) := by
 have h := z_Index_string (s := s.push ⟨[], []⟩) (o := o) (x := x) he hl
 rw [callL_go (show AP 26 = some c_z_Contains_string from rfl) rfl]
 simp (maxSteps := 1000000) only [go_sem, b_z_Contains_string, h, findI_nn, Nat.reduceEqDiff, reduceCtorEq, ↓reduceIte]
 rfl
theorem b_HasText {l : List ByteArray} {o : Own} {e : Nat} {x : ByteArray} (he : l = [] ∨ e = 1) (hl : l.length ≤ 100000) :
  callL AP (.fn 32) [.slice o e (l.map rowS), S x] s = some (B (hasT l x), s) := by
 have key : ∀ (k : Nat) ρ m, k ≤ l.length → (ρ 0 = .slice o e (l.map rowS) ∧ ρ 1 = S x ∧ ρ 5 = I k ∧ m = s.push ⟨[], []⟩) → go AP f_b_HasText (.c (.loop b_b_HasText_l0) :: k_b_HasText_0) ⟨ρ, m⟩ = some (B (hasT (l.drop k) x), s) := by
  refine loop_up l.length _ (fun k => some (B (hasT (l.drop k) x), s)) ?_ ?_
  ·rintro k ρ m hk ⟨h0, h1, h5, rfl⟩ ih
   obtain ⟨a, ha⟩ := get_some hk
   have he : e = 1 := by rcases he with h | h; (rw [h] at ha; simp at ha); exact h
   subst he
   have hr := ix_map (o := o) (es := 1) (f := rowS) ha
   have hwk1 := wrap_succ hk (show (l.length : Int) < _ by omega)
   have hn : hasT (l.drop k) x = (decide (a = x) || hasT (l.drop (k + 1)) x) := by
    rw [drop_get ha]; rfl
   rw [hn]
   cases hd : decide (a = x) with
   | true => simp (maxSteps := 1000000) only [go_sem, b_b_HasText_l0, h0, h1, h5, lt_dec hk, hr, hd, Nat.reduceEqDiff, reduceCtorEq, ↓reduceIte]; rfl
   | false =>
    simp (maxSteps := 1000000) only [go_sem, b_b_HasText_l0, h0, h1, h5, lt_dec hk, hr, hd, hwk1, Nat.reduceEqDiff, reduceCtorEq, ↓reduceIte]
    refine (ih _ _ ?_).trans ?_
    ·exact ⟨h0, h1, rfl, rfl⟩
    ·rfl
  ·rintro ρ m ⟨h0, h1, h5, rfl⟩
   rw [List.drop_length]
   simp (maxSteps := 1000000) only [go_sem, b_b_HasText_l0, b_b_HasText_r0, h0, h5, ge_dec, Nat.reduceEqDiff, reduceCtorEq, ↓reduceIte]
   rfl
 rw [callL_go (show AP 32 = some c_b_HasText from rfl) rfl]
 simp (maxSteps := 1000000) only [go_sem, b_b_HasText]
 exact key 0 _ _ (Nat.zero_le _) ⟨rfl, rfl, rfl, rfl⟩
theorem pOf_mem {l : List P} {i : Int} {p : P} (h : pOf l i = some p) : p ∈ l ∧ p.req = i := by
 unfold pOf at h
 exact ⟨List.mem_of_find?_eq_some h, by have := List.find?_some h; simpa using this⟩
theorem zero_ok : zeroP.an.ok 1 := ⟨.inl rfl, .inr (.inr ⟨rfl, rfl⟩)⟩
structure TOk (l : List P) : Prop where
 len : l.length ≤ 1000
 ok : ∀ p ∈ l, p.an.ok 1 ∧ p.an.l.length ≤ 1000
 b : ∀ p ∈ l, (-1000000 ≤ p.req ∧ p.req ≤ 1000000) ∧ -1000000 ≤ p.start ∧ p.start ≤ 1000000
theorem s_changed {a b : List P} {o1 o2 : Own} {e1 e2 : Nat} {i : Int} (hs : Ok s) (h1 : a = [] ∨ e1 = 3) (h2 : b = [] ∨ e2 = 3) (ha : TOk a) (hb : TOk b) :
  callL AP (.fn 25) [.slice o1 e1 (a.map rowP), .slice o2 e2 (b.map rowP), I i] s = some (B (chgF a b i), s) := by
 have la := ha.len
 have lb := hb.len
 have p1 : ∀ m : Sig, Ok m → callL AP (.fn 20) [.slice o1 e1 (a.map rowP), I i] m = some (.tuple [.agg (rowP ((pOf a i).getD zeroP)), B (pOf a i).isSome], m) := fun m hm => s_passOf hm h1 (by omega) fun p h => (ha.ok p h).1
 have p2 : ∀ m : Sig, Ok m → callL AP (.fn 20) [.slice o2 e2 (b.map rowP), I i] m = some (.tuple [.agg (rowP ((pOf b i).getD zeroP)), B (pOf b i).isSome], m) := fun m hm => s_passOf hm h2 (by omega) fun p h => (hb.ok p h).1
 have zok : ∀ (l : List P), TOk l → (((pOf l i).getD zeroP).an.ok 1 ∧ ((pOf l i).getD zeroP).an.l.length ≤ 1000) ∧ (-1000000 ≤ ((pOf l i).getD zeroP).req ∧ ((pOf l i).getD zeroP).req ≤ 1000000) ∧ -1000000 ≤ ((pOf l i).getD zeroP).start ∧ ((pOf l i).getD zeroP).start ≤ 1000000 := fun l hl => by
  cases h : pOf l i with
  | none => exact ⟨⟨zero_ok, by simp [zeroP]⟩, by simp [zeroP], by simp [zeroP]⟩
  | some p => have hm := (pOf_mem h).1; exact ⟨hl.ok p hm, hl.b p hm⟩
 have za := zok a ha
 have zb := zok b hb
 have hc : ∀ m : Sig, Ok m → callL AP (.fn 42) [.agg (rowP ((pOf a i).getD zeroP)), .agg (rowP ((pOf b i).getD zeroP))] m = some (I (cmpS ((pOf a i).getD zeroP) ((pOf b i).getD zeroP)), m) := fun m hm =>
  s_compare_any hm za.1.1 zb.1.1 za.1.2 zb.1.2 za.2.1 zb.2.1 za.2.2 zb.2.2
 have hch : chgF a b i = if (pOf a i).isSome = (pOf b i).isSome then !decide (cmpS ((pOf a i).getD zeroP) ((pOf b i).getD zeroP) = 0) else true := by
  unfold chgF
  cases ea : pOf a i with
  | none =>
   cases eb : pOf b i with
   | none => simp [cmpS_0]
   | some q => simp
  | some p =>
   cases eb : pOf b i with
   | none => simp
   | some q => simp [cmpS_0]
 rw [hch]
 have hcl : ∀ p : P, p.an.ok 1 → closeAll (rowP p) = some (rowP p) := fun p hp => by
  simp only [rowP, closeAll_cons, closeAll_nil, close_int, Sl.close (f := rowI) hp]; rfl
 generalize (pOf a i).getD zeroP = pa at *
 generalize (pOf b i).getD zeroP = pb at *
 generalize (pOf a i).isSome = ta at *
 generalize (pOf b i).isSome = tb at *
 have p1 := fun r => p1 (s.push r) (hs.push r)
 have p2 := fun r => p2 (s.push r) (hs.push r)
 have hc := fun r => hc (s.push r) (hs.push r)
 simp only [rowP, Sl.v] at p1 p2 hc
 have e1' : ∀ x y : Bool, eqOp .bool (B x) (B y) = some (x == y) := fun _ _ => rfl
 rw [callL_go (show AP 25 = some c_s_changed from rfl) rfl]
 cases ta <;> cases tb
 ·simp only [if_true]
  simp (maxSteps := 1000000) only [go_sem, b_s_changed, hs, p1, p2, hc, e1', ne_eq, decide_not, beq_self_eq_true, Bool.not_true, Nat.reduceEqDiff, reduceCtorEq, Nat.reduceAdd, ↓reduceIte]
 ·simp only [Bool.false_eq_true, if_false]
  simp (maxSteps := 1000000) only [go_sem, b_s_changed, hs, p1, p2, e1', show (false == true) = false from rfl, Bool.not_false, Nat.reduceEqDiff, reduceCtorEq, Nat.reduceAdd, ↓reduceIte]
 ·simp only [Bool.true_eq_false, if_false]
  simp (maxSteps := 1000000) only [go_sem, b_s_changed, hs, p1, p2, e1', show (true == false) = false from rfl, Bool.not_false, Nat.reduceEqDiff, reduceCtorEq, Nat.reduceAdd, ↓reduceIte]
 ·simp only [if_true]
  simp (maxSteps := 1000000) only [go_sem, b_s_changed, hs, p1, p2, hc, e1', ne_eq, decide_not, beq_self_eq_true, Bool.not_true, Nat.reduceEqDiff, reduceCtorEq, Nat.reduceAdd, ↓reduceIte]
theorem r_changed {a b : List P} {o1 o2 : Own} {e1 e2 : Nat} {i : Int} (hs : Ok s) (h1 : a = [] ∨ e1 = 3) (h2 : b = [] ∨ e2 = 3) (la : a.length ≤ 1000) (lb : b.length ≤ 1000) (oa : ∀ p ∈ a, p.an.ok 1 ∧ p.an.l.length ≤ 1000) (ob : ∀ p ∈ b, p.an.ok 1 ∧ p.an.l.length ≤ 1000) :
  callL AP (.fn 31) [.slice o1 e1 (a.map rowP), .slice o2 e2 (b.map rowP), I i] s = some (B (chgF a b i), s) := by
 have p1 : ∀ m : Sig, callL AP (.fn 29) [.slice o1 e1 (a.map rowP), I i] m = some (I (findI (fun p : P => decide (p.req = i)) a), m) := fun m => r_PassOf h1 (by omega)
 have p2 : ∀ m : Sig, callL AP (.fn 29) [.slice o2 e2 (b.map rowP), I i] m = some (I (findI (fun p : P => decide (p.req = i)) b), m) := fun m => r_PassOf h2 (by omega)
 have fa := find_findI (p := fun p : P => decide (p.req = i)) (l := a)
 have fb := find_findI (p := fun p : P => decide (p.req = i)) (l := b)
 have q1 : decide ((-1 : Int) < 0) = true := rfl
 have q2 : decide ((0 : Int) ≤ -1) = false := rfl
 have q3 : ∀ k : Nat, decide ((k : Int) < 0) = false := fun k => by simp
 have q4 : ∀ k : Nat, decide ((0 : Int) ≤ (k : Int)) = true := fun k => by simp
 rcases fa with ⟨f1, f2⟩ | ⟨ka, pa, f1, f3, f2⟩
 ·have ea : pOf a i = none := f1
  rcases fb with ⟨g1, g2⟩ | ⟨kb, pb, g1, g3, g2⟩
  ·have eb : pOf b i = none := g1
   have hch : chgF a b i = false := by unfold chgF; rw [ea, eb]; simp
   rw [f2] at p1
   rw [g2] at p2
   rw [hch]
   rw [callL_go (show AP 31 = some c_r_changed from rfl) rfl]
   simp (maxSteps := 1000000) only [go_sem, b_r_changed, p1, p2, Nat.reduceEqDiff, reduceCtorEq, Int.reduceLT, Int.reduceLE, Int.reduceNeg, ↓reduceIte]
  ·have eb : pOf b i = some pb := g1
   have hch : chgF a b i = true := by unfold chgF; rw [ea, eb]; simp
   rw [f2] at p1
   rw [g2] at p2
   rw [hch]
   rw [callL_go (show AP 31 = some c_r_changed from rfl) rfl]
   simp (maxSteps := 1000000) only [go_sem, b_r_changed, p1, p2, q4, Nat.reduceEqDiff, reduceCtorEq, Int.reduceLT, Int.reduceLE, Int.reduceNeg, ↓reduceIte]
 ·have ea : pOf a i = some pa := f1
  rcases fb with ⟨g1, g2⟩ | ⟨kb, pb, g1, g3, g2⟩
  ·have eb : pOf b i = none := g1
   have hch : chgF a b i = true := by unfold chgF; rw [ea, eb]; simp
   rw [f2] at p1
   rw [g2] at p2
   rw [hch]
   rw [callL_go (show AP 31 = some c_r_changed from rfl) rfl]
   simp (maxSteps := 1000000) only [go_sem, b_r_changed, p1, p2, q3, q4, Nat.reduceEqDiff, reduceCtorEq, Int.reduceLT, Int.reduceNeg, ↓reduceIte]
  ·have eb : pOf b i = some pb := g1
   have hch : chgF a b i = !decide (cmpP pa pb = 0) := by unfold chgF; rw [ea, eb]; simp [cmpP_0]
   rw [f2] at p1
   rw [g2] at p2
   rw [hch]
   have he1 : e1 = 3 := by rcases h1 with h | h; (rw [h] at f3; simp at f3); exact h
   have he2 : e2 = 3 := by rcases h2 with h | h; (rw [h] at g3; simp at g3); exact h
   subst he1
   subst he2
   have r1 := ix_map (o := o1) (es := 3) (f := rowP) f3
   have r2 := ix_map (o := o2) (es := 3) (f := rowP) g3
   have ma := List.mem_of_getElem? f3
   have mb := List.mem_of_getElem? g3
   have hc : ∀ m : Sig, Ok m → callL AP (.fn 47) [.agg (rowP pa), .agg (rowP pb)] m = some (I (cmpP pa pb), m) := fun m hm => r_compare hm (oa pa ma).1 (ob pb mb).1 (oa pa ma).2 (ob pb mb).2
   have hc := fun r => hc (s.push r) (hs.push r)
   simp only [rowP, Sl.v] at r1 r2 hc
   rw [callL_go (show AP 31 = some c_r_changed from rfl) rfl]
   simp (maxSteps := 1000000) only [go_sem, b_r_changed, p1, p2, q3, r1, r2, hc, ne_eq, decide_not, Nat.reduceEqDiff, reduceCtorEq, ↓reduceIte]
end
end Go.Ax.Sx.Sc

namespace Go.Ax.Sx.Sc
open Go.Ax
set_option linter.unusedSimpArgs false
set_option linter.unusedVariables false
set_option maxRecDepth 100000
def tellE (w : W) (a b : List P) : Int := if (planE w a).2 = 0 then (chkE w b).2 else (planE w a).2
section
variable {s : Sig} {w : W}
theorem TOk.of (hw : Wk w) {l : List P} (hl : PlOk l) (h : ∀ p ∈ l, PIn w p) : TOk l :=
 ⟨by have := hl.len; omega, fun p hp => ⟨(hl.ok p hp).1, by have := (hl.ok p hp).2; omega⟩, fun p hp => by
  have h1 := h p hp
  have := h1.r0; have := h1.r1; have := h1.s0; have := h1.s1; have := hw.v.rl
  omega⟩
theorem str_close {x : ByteArray} : closeAll [S x] = some [S x] := rfl
theorem s_ToTell {a b : List P} {o1 o2 : Own} {e1 e2 : Nat} (hs : Ok s) (hw : w.Ok) (hf : w.Few) (ha : PlOk a) (hb : PlOk b) (h1 : a = [] ∨ e1 = 3) (h2 : b = [] ∨ e2 = 3) :
  callL AP (.fn 10) [w.v, .agg [.slice o1 e1 (a.map rowP), .slice o2 e2 (b.map rowP)]] s = some (.tuple [accV 1 ((if tellE w a b = 0 then tellF w a b w.rs.l.length else []).map rowS), I (tellE w a b)], s) := by
 have ho : ∀ r, callL AP (.fn 19) [w.v, .slice o1 e1 (a.map rowP)] (s.push r) = some (.tuple [if (weekE w).2.2 = 0 then OW w else NP, I (planE w a).1, I (planE w a).2], s.push r) := fun r => s_openPlan (hs.push r) hw hf ha h1
 unfold tellE
 by_cases hz : (planE w a).2 = 0
 ·have hwe : (weekE w).2.2 = 0 := by
   unfold planE at hz
   by_cases h : (weekE w).2.2 = 0
   ·exact h
   ·rw [if_neg h] at hz; exact absurd hz h
  have hwk : Wk w := ⟨hw, hf, weekE_ok hwe⟩
  have hza : (chkE w a).2 = 0 := by unfold planE at hz; rwa [if_pos hwe] at hz
  have hch : ∀ r, callL AP (.fn 24) [OW w, .slice o2 e2 (b.map rowP)] (s.push r) = some (.tuple [I (chkE w b).1, I (chkE w b).2], s.push r) := fun r => w_check (hs.push r) hwk hb h2
  rw [if_pos hwe, hz] at ho
  simp only [hz, if_true]
  by_cases hzb : (chkE w b).2 = 0
  ·simp only [hzb, if_true]
   have tka := TOk.of hwk ha (chk_pin hwk ha hza)
   have tkb := TOk.of hwk hb (chk_pin hwk hb hzb)
   have hrl := hwk.v.rl
   have hcg : ∀ (i : Int) (m : Sig), Ok m → callL AP (.fn 25) [.slice o1 e1 (a.map rowP), .slice o2 e2 (b.map rowP), I i] m = some (B (chgF a b i), m) := fun i m hm => s_changed hm h1 h2 tka tkb
   rw [hzb] at hch
   have key : ∀ (k : Nat) ρ m, k ≤ w.rs.l.length → (ρ 3 = .ptr s.acts.length 1 0 ∧ ρ 33 = w.rs.v rowR ∧ ρ 34 = I w.rs.l.length ∧ ρ 35 = I k ∧ ∃ x og bx tk, Acc s.acts.length 1 ((tellF w a b k).map rowS) x og tk ∧ ρ 9 = x ∧ m = s.push ⟨rowW w :: [.slice o1 e1 (a.map rowP), .slice o2 e2 (b.map rowP)] :: bx, tk⟩) →
     go AP f_s_ToTell (.c (.loop b_s_ToTell_l0) :: k_s_ToTell_0) ⟨ρ, m⟩ = some (.tuple [accV 1 ((tellF w a b w.rs.l.length).map rowS), I 0], s) := by
    refine loop_up w.rs.l.length _ _ ?_ ?_
    ·rintro k ρ m hk ⟨g3, g33, g34, g35, x, og, bx, tk, hA, g9, rfl⟩ ih
     obtain ⟨r, hr1⟩ := get_some hk
     have hr := Sl.ix (f := rowR) hw.rs hr1
     have hrq : w.rq (k : Int) = r := by unfold W.rq; rw [Int.toNat_natCast, hr1]; rfl
     have hwk1 := wrap_succ hk (show (w.rs.l.length : Int) < _ by omega)
     have hcg := fun r => hcg (k : Int) (s.push r) (hs.push r)
     have hln := tellF_len (w := w) (a := a) (b := b) (k := k)
     have hnx : tellF w a b (k + 1) = if (chgF a b (k : Int) && !hasT (tellF w a b k) r.mis) = true then tellF w a b k ++ [r.mis] else tellF w a b k := by simp only [tellF]; rw [hrq]
     obtain ⟨o9, e9, rfl, he9⟩ := acc_val hA
     have he9 : tellF w a b k = [] ∨ e9 = 1 := by rcases he9 with h | h; exact .inl (by simpa using h); exact .inr h
     have hct : ∀ m : Sig, callL AP (.fn 26) [.slice o9 e9 ((tellF w a b k).map rowS), S r.mis] m = some (B (hasT (tellF w a b k) r.mis), m) := fun m => z_Contains_string he9 (by omega)
     generalize a.map rowP = ZA at *
     generalize b.map rowP = ZB at *
     simp only [rowR, Sl.v] at hr g33
     cases hc : chgF a b (k : Int) with
     | false =>
      rw [hc] at hcg
      rw [hc, Bool.false_and, if_neg (by decide)] at hnx
      simp (maxSteps := 1000000) only [go_sem, b_s_ToTell_l0, g3, g33, g34, g35, hs, lt_dec hk, hr, hcg, hwk1, Nat.reduceEqDiff, Nat.reduceAdd, ↓reduceIte]
      refine ih _ _ ?_
      exact ⟨g3, by simp only [Sl.v]; exact g33, g34, rfl, _, og, _, tk, by rw [hnx]; exact hA, g9, rfl⟩
     | true =>
      rw [hc] at hcg
      rw [hc, Bool.true_and] at hnx
      cases hh : hasT (tellF w a b k) r.mis with
      | true =>
       rw [hh] at hct
       rw [hh, Bool.not_true, if_neg (by decide)] at hnx
       simp (maxSteps := 1000000) only [go_sem, b_s_ToTell_l0, g3, g9, g33, g34, g35, hs, lt_dec hk, hr, hcg, hct, hwk1, Nat.reduceEqDiff, Nat.reduceAdd, ↓reduceIte]
       refine ih _ _ ?_
       exact ⟨g3, by simp only [Sl.v]; exact g33, g34, rfl, _, og, _, tk, by rw [hnx]; exact hA, g9, rfl⟩
      | false =>
       rw [hh] at hct
       rw [hh, Bool.not_false, if_pos rfl] at hnx
       obtain ⟨x2, og2, tk2, a1, a2, _⟩ := hA.append hs .full (ys := [[S r.mis]]) (by simp) (by rw [List.length_map, List.length_singleton]; omega)
       simp (maxSteps := 1000000) only [go_sem, b_s_ToTell_l0, g3, g9, g33, g34, g35, hs, lt_dec hk, hr, hcg, hct, hwk1, a1, str_close, Nat.reduceEqDiff, Nat.reduceAdd, ↓reduceIte]
       refine ih _ _ ?_
       refine ⟨g3, by simp only [Sl.v]; exact g33, g34, rfl, x2, og2, _, tk2, ?_, rfl, rfl⟩
       rw [hnx, List.map_append]; exact a2
    ·rintro ρ m ⟨g3, g33, g34, g35, x, og, bx, tk, hA, g9, rfl⟩
     have hlv := fun m : Sig => hA.leave m
     obtain ⟨o9, e9, rfl, he9⟩ := acc_val hA
     generalize (tellF w a b w.rs.l.length).map rowS = Z at *
     simp (maxSteps := 1000000) only [go_sem, b_s_ToTell_l0, b_s_ToTell_r0, g9, g34, g35, ge_dec, hlv, Nat.reduceEqDiff, ↓reduceIte]
   rw [callL_go (show AP 10 = some c_s_ToTell from rfl) rfl]
   simp only [W.v, rowW, Sl.v, OW] at ho hch key ⊢
   simp (maxSteps := 1000000) only [go_sem, b_s_ToTell, ho, hch, ne_eq, not_true, Nat.reduceEqDiff, Nat.reduceAdd, ↓reduceIte]
   refine key 0 _ _ (Nat.zero_le _) ?_
   exact ⟨rfl, rfl, rfl, rfl, _, none, [], [], Acc.start, rfl, rfl⟩
  ·simp only [hzb, if_false]
   rw [callL_go (show AP 10 = some c_s_ToTell from rfl) rfl]
   simp only [W.v, rowW, Sl.v, OW] at ho hch
   simp (maxSteps := 1000000) only [go_sem, b_s_ToTell, ho, hch, hzb, ne_eq, not_false_iff, Nat.reduceEqDiff, Nat.reduceAdd, ↓reduceIte]
   rfl
 ·rw [if_neg hz]
  simp only [if_neg hz]
  rw [callL_go (show AP 10 = some c_s_ToTell from rfl) rfl]
  simp only [W.v, rowW, Sl.v] at ho
  simp (maxSteps := 1000000) only [go_sem, b_s_ToTell, ho, hz, ne_eq, not_false_iff, Nat.reduceEqDiff, Nat.reduceAdd, ↓reduceIte]
  rfl
theorem r_ToTell {a b : List P} {o1 o2 : Own} {e1 e2 : Nat} (hs : Ok s) (hw : w.Ok) (hrl : w.rs.l.length ≤ 1000) (h1 : a = [] ∨ e1 = 3) (h2 : b = [] ∨ e2 = 3) (la : a.length ≤ 1000) (lb : b.length ≤ 1000) (oa : ∀ p ∈ a, p.an.ok 1 ∧ p.an.l.length ≤ 1000) (ob : ∀ p ∈ b, p.an.ok 1 ∧ p.an.l.length ≤ 1000) :
  callL AP (.fn 14) [w.v, .agg [.slice o1 e1 (a.map rowP), .slice o2 e2 (b.map rowP)]] s = some (accV 1 ((tellF w a b w.rs.l.length).map rowS), s) := by
 have hcg : ∀ (i : Int) (m : Sig), Ok m → callL AP (.fn 31) [.slice o1 e1 (a.map rowP), .slice o2 e2 (b.map rowP), I i] m = some (B (chgF a b i), m) := fun i m hm => r_changed hm h1 h2 la lb oa ob
 have key : ∀ (k : Nat) ρ m, k ≤ w.rs.l.length → (ρ 2 = .ptr s.acts.length 0 0 ∧ ρ 3 = .ptr s.acts.length 1 0 ∧ ρ 6 = I k ∧ ∃ x og tk, Acc s.acts.length 1 ((tellF w a b k).map rowS) x og tk ∧ ρ 5 = x ∧ m = s.push ⟨[rowW w, [.slice o1 e1 (a.map rowP), .slice o2 e2 (b.map rowP)]], tk⟩) →
   go AP f_r_ToTell (.c (.loop b_r_ToTell_l0) :: k_r_ToTell_0) ⟨ρ, m⟩ = some (accV 1 ((tellF w a b w.rs.l.length).map rowS), s) := by
  refine loop_up w.rs.l.length _ _ ?_ ?_
  ·rintro k ρ m hk ⟨g2, g3, g6, x, og, tk, hA, g5, rfl⟩ ih
   obtain ⟨r, hr1⟩ := get_some hk
   have hr := Sl.ix (f := rowR) hw.rs hr1
   have hrq : w.rq (k : Int) = r := by unfold W.rq; rw [Int.toNat_natCast, hr1]; rfl
   have hwk1 := wrap_succ hk (show (w.rs.l.length : Int) < _ by omega)
   have hcg := fun r => hcg (k : Int) (s.push r) (hs.push r)
   have hln := tellF_len (w := w) (a := a) (b := b) (k := k)
   have hnx : tellF w a b (k + 1) = if (chgF a b (k : Int) && !hasT (tellF w a b k) r.mis) = true then tellF w a b k ++ [r.mis] else tellF w a b k := by simp only [tellF]; rw [hrq]
   obtain ⟨o9, e9, rfl, he9⟩ := acc_val hA
   have he9 : tellF w a b k = [] ∨ e9 = 1 := by rcases he9 with h | h; exact .inl (by simpa using h); exact .inr h
   have hct : ∀ m : Sig, callL AP (.fn 32) [.slice o9 e9 ((tellF w a b k).map rowS), S r.mis] m = some (B (hasT (tellF w a b k) r.mis), m) := fun m => b_HasText he9 (by omega)
   generalize a.map rowP = ZA at *
   generalize b.map rowP = ZB at *
   simp only [rowR, Sl.v] at hr
   cases hc : chgF a b (k : Int) with
   | false =>
    rw [hc] at hcg
    rw [hc, Bool.false_and, if_neg (by decide)] at hnx
    simp (maxSteps := 1000000) only [go_sem, b_r_ToTell_l0, g2, g3, g6, lt_dec hk, hr, hcg, hwk1, Nat.reduceEqDiff, Nat.reduceAdd, ↓reduceIte]
    refine ih _ _ ?_
    exact ⟨g2, g3, rfl, _, og, tk, by rw [hnx]; exact hA, g5, rfl⟩
   | true =>
    rw [hc] at hcg
    rw [hc, Bool.true_and] at hnx
    cases hh : hasT (tellF w a b k) r.mis with
    | true =>
     rw [hh] at hct
     rw [hh, Bool.not_true, if_neg (by decide)] at hnx
     simp (maxSteps := 1000000) only [go_sem, b_r_ToTell_l0, g2, g3, g5, g6, lt_dec hk, hr, hcg, hct, hwk1, Nat.reduceEqDiff, Nat.reduceAdd, ↓reduceIte]
     refine ih _ _ ?_
     exact ⟨g2, g3, rfl, _, og, tk, by rw [hnx]; exact hA, g5, rfl⟩
    | false =>
     rw [hh] at hct
     rw [hh, Bool.not_false, if_pos rfl] at hnx
     obtain ⟨x2, og2, tk2, a1, a2, _⟩ := hA.append hs .full (ys := [[S r.mis]]) (by simp) (by rw [List.length_map, List.length_singleton]; omega)
     simp (maxSteps := 1000000) only [go_sem, b_r_ToTell_l0, g2, g3, g5, g6, lt_dec hk, hr, hcg, hct, hwk1, a1, str_close, Nat.reduceEqDiff, Nat.reduceAdd, ↓reduceIte]
     refine ih _ _ ?_
     refine ⟨g2, g3, rfl, x2, og2, tk2, ?_, rfl, rfl⟩
     rw [hnx, List.map_append]; exact a2
  ·rintro ρ m ⟨g2, g3, g6, x, og, tk, hA, g5, rfl⟩
   have hlv := fun m : Sig => hA.leave m
   obtain ⟨o9, e9, rfl, he9⟩ := acc_val hA
   generalize (tellF w a b w.rs.l.length).map rowS = Z at *
   simp (maxSteps := 1000000) only [go_sem, b_r_ToTell_l0, b_r_ToTell_r0, g2, g5, g6, ge_dec, hlv, Nat.reduceEqDiff, Nat.reduceAdd, ↓reduceIte]
 rw [callL_go (show AP 14 = some c_r_ToTell from rfl) rfl]
 simp only [rowW, Sl.v] at key ⊢
 simp (maxSteps := 1000000) only [go_sem, b_r_ToTell, Nat.reduceEqDiff, Nat.reduceAdd, ↓reduceIte]
 refine key 0 _ _ (Nat.zero_le _) ?_
 exact ⟨rfl, rfl, rfl, _, none, [], Acc.start, rfl, rfl⟩
theorem chgF_c {a b : List P} {i : Int} : chgF (a.map cP) (b.map cP) i = chgF a b i := by
 have h : ∀ l : List P, (pOf (l.map cP) i).map kP = (pOf l i).map kP := fun l => by
  unfold pOf
  rw [List.find?_map, Option.map_map]
  rfl
 unfold chgF
 rw [h, h]
theorem tellF_c {a b : List P} : ∀ {k : Nat}, k ≤ w.rs.l.length → tellF (cW w) (a.map cP) (b.map cP) k = tellF w a b k
 | 0, _ => rfl
 | k + 1, hk => by
  simp only [tellF]
  rw [tellF_c (by omega), chgF_c, cW_rq (by omega) (by omega)]
  rfl
end
end Go.Ax.Sx.Sc

namespace Go.Ax.Sx.Sc
open Go.Ax
set_option linter.unusedSimpArgs false
set_option linter.unusedVariables false
set_option maxRecDepth 100000
section
variable {s : Sig} {w : W}
theorem b_Texts {l : List ByteArray} {o1 o2 : Own} {e1 e2 : Nat} (h1 : l = [] ∨ e1 = 1) (h2 : l = [] ∨ e2 = 1) (hl : l.length ≤ 100000) :
  callL AP (.fn 13) [.slice o1 e1 (l.map rowS), .slice o2 e2 (l.map rowS)] s = some (B true, s) := by
 have key : ∀ (k : Nat) ρ m, k ≤ l.length → (ρ 0 = .slice o1 e1 (l.map rowS) ∧ ρ 1 = .slice o2 e2 (l.map rowS) ∧ ρ 5 = I k ∧ m = s.push ⟨[], []⟩) → go AP f_b_Texts (.c (.loop b_b_Texts_l0) :: k_b_Texts_0) ⟨ρ, m⟩ = some (B true, s) := by
  refine loop_up l.length _ _ ?_ ?_
  ·rintro k ρ m hk ⟨g0, g1, g5, rfl⟩ ih
   obtain ⟨a, ha⟩ := get_some hk
   have he1 : e1 = 1 := by rcases h1 with h | h; (rw [h] at ha; simp at ha); exact h
   have he2 : e2 = 1 := by rcases h2 with h | h; (rw [h] at ha; simp at ha); exact h
   subst he1
   subst he2
   have r1 := ix_map (o := o1) (es := 1) (f := rowS) ha
   have r2 := ix_map (o := o2) (es := 1) (f := rowS) ha
   have hwk1 := wrap_succ hk (show (l.length : Int) < _ by omega)
   simp (maxSteps := 1000000) only [go_sem, b_b_Texts_l0, g0, g1, g5, lt_dec hk, r1, r2, hwk1, ne_eq, not_true, Nat.reduceEqDiff, reduceCtorEq, ↓reduceIte]
   refine ih _ _ ?_
   exact ⟨g0, g1, rfl, rfl⟩
  ·rintro ρ m ⟨g0, g1, g5, rfl⟩
   simp (maxSteps := 1000000) only [go_sem, b_b_Texts_l0, b_b_Texts_r0, g0, g5, ge_dec, Nat.reduceEqDiff, reduceCtorEq, ↓reduceIte]
 rw [callL_go (show AP 13 = some c_b_Texts from rfl) rfl]
 simp (maxSteps := 1000000) only [go_sem, b_b_Texts, ne_eq, not_true, Nat.reduceEqDiff, reduceCtorEq, ↓reduceIte]
 exact key 0 _ _ (Nat.zero_le _) ⟨rfl, rfl, rfl, rfl⟩
theorem r_ShareOf {l : List P} {o : Own} {e : Nat} {mi : ByteArray} (hs : Ok s) (hw : Wk w) (hl : l.length ≤ 1000) (he : l = [] ∨ e = 3) :
  callL AP (.fn 12) [w.v, .slice o e (l.map rowP), S mi] s = some (.tuple [.agg (if askF mi w.rs.l = 0 then [I 0, I 0] else [I (shareF (graF l mi 0 w.rs.l) (askF mi w.rs.l)).1, I (shareF (graF l mi 0 w.rs.l) (askF mi w.rs.l)).2]), B (!decide (askF mi w.rs.l = 0))], s) := by
 have hv := hw.v
 have hrl := hv.rl
 have hl200 : ∀ r ∈ w.rs.l, r.len ≤ 200 := fun r hr => by
  have := hv.r r hr
  have := this.lenhi
  have := (hv.r r hr).lo0
  have := (hv.r r hr).hin
  have := hv.n2
  omega
 have ha := askF_bd (mi := mi) hl200
 have hg := graF_bd (p := l) (mi := mi) (k := 0) hl200
 have hpo : ∀ (i : Int) (m : Sig), callL AP (.fn 29) [.slice o e (l.map rowP), I i] m = some (I (findI (fun p : P => decide (p.req = i)) l), m) := fun i m => r_PassOf he (by omega)
 have key : ∀ j ρ x, j ≤ w.rs.l.length → (ρ 1 = .slice o e (l.map rowP) ∧ ρ 2 = S mi ∧ ρ 3 = .ptr s.acts.length 0 0 ∧ ρ 6 = .ptr s.acts.length 1 0 ∧ ρ 8 = I (graF l mi 0 (w.rs.l.take j) : Int) ∧ ρ 9 = I (askF mi (w.rs.l.take j) : Int) ∧ ρ 10 = I j ∧ x = s.push ⟨[rowW w, [I 0, I 0]], []⟩) →
   go AP f_r_ShareOf (.c (.loop b_r_ShareOf_l0) :: k_r_ShareOf_0) ⟨ρ, x⟩ = some (.tuple [.agg (if askF mi w.rs.l = 0 then [I 0, I 0] else [I (shareF (graF l mi 0 w.rs.l) (askF mi w.rs.l)).1, I (shareF (graF l mi 0 w.rs.l) (askF mi w.rs.l)).2]), B (!decide (askF mi w.rs.l = 0))], s) := by
  refine loop_up w.rs.l.length _ _ ?_ ?_
  ·rintro j ρ x hj ⟨h1, h2, h3, h6, h8, h9, h10, rfl⟩ ih
   obtain ⟨r, hr1⟩ := get_some hj
   have hrm := List.mem_of_getElem? hr1
   have hr := Sl.ix (f := rowR) hw.ok.rs hr1
   have hr200 := hl200 r hrm
   have hr1' := (hv.r r hrm).len1
   have hp := hpo (j : Int)
   have hta := askF_bd (mi := mi) (l := w.rs.l.take j) fun x hx => hl200 x (List.mem_of_mem_take hx)
   have htg := graF_bd (p := l) (mi := mi) (l := w.rs.l.take j) (k := 0) fun x hx => hl200 x (List.mem_of_mem_take hx)
   have htl : (w.rs.l.take j).length = j := by rw [List.length_take]; omega
   have hak : askF mi (w.rs.l.take (j + 1)) = askF mi (w.rs.l.take j) + (if r.mis = mi then r.len.toNat else 0) := by rw [take_get hr1, askF_app]; simp [askF]
   have hgk : graF l mi 0 (w.rs.l.take (j + 1)) = graF l mi 0 (w.rs.l.take j) + (if r.mis = mi then (if (pOf l (j : Int)).isSome = true then r.len.toNat else 0) else 0) := by rw [take_get hr1, graF_app, htl]; simp [graF]
   have hwj := wrap_succ hj (show (w.rs.l.length : Int) < _ by omega)
   simp only [rowR, Sl.v] at hr
   by_cases hm : r.mis = mi
   ·rw [if_pos hm] at hak hgk
    have hd : decide (r.mis = mi) = true := decide_eq_true hm
    have w1 : IntKind.i64.wrap ((askF mi (w.rs.l.take j) : Int) + r.len) = ((askF mi (w.rs.l.take (j + 1)) : Nat) : Int) := by rw [hak, wrap_id (by omega) (by omega)]; omega
    rcases find_findI (p := fun p : P => decide (p.req = (j : Int))) (l := l) with ⟨f1, f2⟩ | ⟨ka, pa, f1, f3, f2⟩
    ·have hso : (pOf l (j : Int)).isSome = false := by unfold pOf; rw [f1]; rfl
     rw [f2] at hp
     rw [hso, if_neg (by simp), Nat.add_zero] at hgk
     have q2 : decide ((0 : Int) ≤ -1) = false := rfl
     simp (maxSteps := 1000000) only [go_sem, b_r_ShareOf_l0, h1, h2, h3, h9, h10, lt_dec hj, hr, ne_eq, decide_not, hd, hp, w1, hwj, Nat.reduceEqDiff, Nat.reduceAdd, Int.reduceLE, Int.reduceNeg, ↓reduceIte]
     refine ih _ _ ?_
     exact ⟨h1, h2, h3, h6, by rw [hgk]; exact h8, rfl, rfl, rfl⟩
    ·have hso : (pOf l (j : Int)).isSome = true := by unfold pOf; rw [f1]; rfl
     rw [f2] at hp
     rw [hso, if_pos rfl] at hgk
     have w2 : IntKind.i64.wrap ((graF l mi 0 (w.rs.l.take j) : Int) + r.len) = ((graF l mi 0 (w.rs.l.take (j + 1)) : Nat) : Int) := by rw [hgk, wrap_id (by omega) (by omega)]; omega
     have q4 : decide ((0 : Int) ≤ (ka : Int)) = true := by simp
     simp (maxSteps := 1000000) only [go_sem, b_r_ShareOf_l0, h1, h2, h3, h8, h9, h10, lt_dec hj, hr, ne_eq, decide_not, hd, hp, w1, w2, hwj, q4, Nat.reduceEqDiff, Nat.reduceAdd, ↓reduceIte]
     refine ih _ _ ?_
     exact ⟨h1, h2, h3, h6, rfl, rfl, rfl, rfl⟩
   ·rw [if_neg hm, Nat.add_zero] at hak hgk
    have hd : decide (r.mis = mi) = false := decide_eq_false hm
    simp (maxSteps := 1000000) only [go_sem, b_r_ShareOf_l0, h2, h3, h10, lt_dec hj, hr, ne_eq, decide_not, hd, hwj, Nat.reduceEqDiff, Nat.reduceAdd, ↓reduceIte]
    refine ih _ _ ?_
    exact ⟨h1, h2, h3, h6, by rw [hgk]; exact h8, by rw [hak]; exact h9, rfl, rfl⟩
  ·rintro ρ x ⟨h1, h2, h3, h6, h8, h9, h10, rfl⟩
   rw [List.take_length] at h8 h9
   by_cases hk : askF mi w.rs.l = 0
   ·have hd : decide ((askF mi w.rs.l : Int) = 0) = true := decide_eq_true (by omega)
    simp only [hk, if_true, decide_true, Bool.not_true]
    simp (maxSteps := 1000000) only [go_sem, b_r_ShareOf_l0, b_r_ShareOf_r0, h3, h6, h9, h10, hs, ge_dec, hd, Nat.reduceEqDiff, Nat.reduceAdd, ↓reduceIte]
   ·have hd : decide ((askF mi w.rs.l : Int) = 0) = false := decide_eq_false (by omega)
    have hlo : ∀ r, callL AP (.fn 30) [I (graF l mi 0 w.rs.l : Int), I (askF mi w.rs.l : Int)] (s.push r) = some (.agg [I (shareF (graF l mi 0 w.rs.l) (askF mi w.rs.l)).1, I (shareF (graF l mi 0 w.rs.l) (askF mi w.rs.l)).2], s.push r) := fun r => b_Lowest_n (hs.push r) (by omega) (by omega) (by omega)
    simp only [hk, if_false, decide_false, Bool.not_false]
    simp (maxSteps := 1000000) only [go_sem, b_r_ShareOf_l0, b_r_ShareOf_r0, h3, h6, h8, h9, h10, hs, ge_dec, hd, hlo, Nat.reduceEqDiff, Nat.reduceAdd, ↓reduceIte]
 rw [callL_go (show AP 12 = some c_r_ShareOf from rfl) rfl]
 simp only [rowW, Sl.v] at key ⊢
 simp (maxSteps := 1000000) only [go_sem, b_r_ShareOf, Nat.reduceAdd]
 refine key 0 _ _ (Nat.zero_le _) ?_
 exact ⟨rfl, rfl, rfl, rfl, rfl, rfl, rfl, rfl⟩
end
end Go.Ax.Sx.Sc

namespace Go.Ax.Sx.Sc
open Go.Ax
set_option linter.unusedSimpArgs false
set_option linter.unusedVariables false
set_option maxRecDepth 100000
section
variable {s : Sig} {w : W}
theorem r_Copy_ro {m0 : Sig} {l : List P} {o : Own} {e : Nat} (hl : PlOk l) (he : l = [] ∨ e = 3) :
  callL AP (.fn 9) [.slice o e (l.map rowP)] (roS m0) = some (accV 3 ((l.map cP).map rowP), roS m0) := by
 have hlen := hl.len
 have hs : Ok (roS m0) := ok_roS
 have loop : ∀ (k : Nat) ρ m, k ≤ l.length → (ρ 0 = .slice o e (l.map rowP) ∧ ρ 4 = I k ∧ ∃ x og tks, Acc (roS m0).acts.length 3 (((l.take k).map cP).map rowP) x og tks ∧ ρ 3 = x ∧ m = (roS m0).push ⟨[], tks⟩) →
   go AP f_r_Copy (.c (.loop b_r_Copy_l0) :: k_r_Copy_0) ⟨ρ, m⟩ = some (accV 3 ((l.map cP).map rowP), roS m0) := by
  refine loop_up l.length _ _ ?_ ?_
  ·rintro k ρ m hk ⟨h0, h4, x, og, tks, hA, h3, rfl⟩ ih
   obtain ⟨p, hp⟩ := get_some hk
   have hec : e = 3 := by rcases he with h | h; (rw [h] at hp; simp at hp); exact h
   subst hec
   have hpo := hl.ok p (List.mem_of_getElem? hp)
   have hix := ix_map (f := rowP) (o := o) (es := 3) hp
   have hcp : ∀ m : Sig, callL AP (.fn 23) [.slice p.an.o p.an.e (p.an.l.map rowI)] (roS m) = some ((cpI p.an.l).v rowI, roS m) := fun m => b_CopyInts_ro hpo.1.1 (by omega)
   have hll : (l.take k).length ≤ 14 := by rw [List.length_take]; omega
   obtain ⟨x', og', tk2, ha1, ha2, ha3, ha4⟩ := hA.append hs .full (ys := [rowP (cP p)]) (by simp) (by simp; omega)
   obtain ⟨oa', ea', ra', rfl⟩ := Acc.sl hA
   obtain ⟨os', es', rs', rfl⟩ := Acc.sl ha2
   have hcl : closeAll [I p.req, I p.start, (cpI p.an.l).v rowI] = some (rowP (cP p)) := by
    simp only [closeAll_cons, closeAll_nil, close_int, Sl.close (f := rowI) (cpI_ok (l := p.an.l))]; rfl
   simp only [rowP, Sl.v, cP] at ha1 hcl hcp
   simp (maxSteps := 1000000) only [go_sem, b_r_Copy_l0, h0, h3, h4, lt_dec hk, hix, hcp, hcl, ha1, wrap_succ hk (show (l.length : Int) < _ by omega), Nat.reduceEqDiff, reduceCtorEq, Nat.reduceAdd, ↓reduceIte]
   refine ih _ _ ?_
   refine ⟨h0, rfl, _, og', tk2, ?_, rfl, rfl⟩
   rw [take_get hp, List.map_append, List.map_append]; exact ha2
  ·rintro ρ m ⟨h0, h4, x, og, tks, hA, h3, rfl⟩
   rw [List.take_length] at hA
   cases og with
   | none =>
    obtain ⟨hA1, rfl⟩ := hA
    rw [hA1]
    simp (maxSteps := 1000000) only [go_sem, b_r_Copy_l0, b_r_Copy_r0, h0, h3, h4, ge_dec, Nat.reduceEqDiff, reduceCtorEq, ↓reduceIte]
    rfl
   | some g =>
    obtain ⟨hA1, rfl, hA3⟩ := hA
    have hac : accV 3 ((l.map cP).map rowP) = .slice .any 3 ((l.map cP).map rowP) := by
     cases hz : (l.map cP).map rowP with
     | nil => exact absurd hz hA1
     | cons _ _ => rfl
    rw [hac]
    generalize (l.map cP).map rowP = Z at *
    simp (maxSteps := 1000000) only [go_sem, b_r_Copy_l0, b_r_Copy_r0, h0, h3, h4, ge_dec, Nat.reduceEqDiff, reduceCtorEq, ↓reduceIte]
    have hno : ¬ ((roS m0).acts.length = ((roS m0).push ⟨[], tks⟩).cur ∧ 1 ≤ (roS m0).acts.length ∧ ((roS m0).push ⟨[], tks⟩).ro < (roS m0).acts.length ∧ ((roS m0).push ⟨[], tks⟩).tok (roS m0).acts.length g = some Z.length) := by
     rintro ⟨_, _, h, _⟩
     exact absurd h (Nat.lt_irrefl _)
    unfold ownResult
    simp only
    rw [if_neg hno, pop_push]
 rw [callL_go (show AP 9 = some c_r_Copy from rfl) rfl]
 simp (maxSteps := 1000000) only [go_sem, b_r_Copy]
 refine loop 0 _ _ (Nat.zero_le _) ?_
 exact ⟨rfl, rfl, _, none, [], Acc.start, rfl, rfl⟩
end
end Go.Ax.Sx.Sc

namespace Go.Ax.Sx.Sc
open Go.Ax
set_option linter.unusedSimpArgs false
set_option linter.unusedVariables false
set_option maxRecDepth 100000
section
variable {s : Sig} {w : W}
theorem setLast_push {bx : List (List AV)} {tk : List (Option Nat)} {cs : List AV} : (s.push ⟨bx, tk⟩).setLast cs = s.push ⟨bx.set (bx.length - 1) cs, tk⟩ := by
 unfold Sig.setLast
 rw [cur_push, nbox_push, setBox_push]
theorem fc_ro {m : Sig} {zs : List AV} {f : FuncId} {args : List AV} {v : AV} (h : ∀ m, Ok m → callL AP (.fn f) args m = some (v, m)) : fcallOp (callL AP) true m zs (.fn f) args = some (v, m) := by
 have hd : ∀ m, doCall (callL AP) true m (.fn f) args = some (v, m) := fun m => by
  unfold doCall
  rw [if_pos rfl]
  have := h (roS m) ok_roS
  rw [show ({ m with ro := m.acts.length, lro := m.loops.length } : Sig) = roS m from rfl, this]; rfl
 exact fcallOp_iff.2 ⟨hd m, hd _, hd _, rfl, rfl, rfl, fun _ => rfl, fun h => h⟩
theorem fc_own {bx : List (List AV)} {tk tk' : List (Option Nat)} {zs : List AV} {f : FuncId} {args : List AV} {x : AV} (h : ∀ bx, callL AP (.fn f) args (s.push ⟨bx, tk⟩) = some (x, s.push ⟨bx, tk'⟩)) (ht : tk'.any Option.isNone = false → tk.any Option.isNone = false) :
  fcallOp (callL AP) false (s.push ⟨bx, tk⟩) zs (.fn f) args = some (x, s.push ⟨bx, tk'⟩) := by
 have hd : ∀ bx, doCall (callL AP) false (s.push ⟨bx, tk⟩) (.fn f) args = some (x, s.push ⟨bx, tk'⟩) := fun bx => by
  unfold doCall
  rw [if_neg (by decide)]; exact h bx
 refine fcallOp_iff.2 ⟨hd _, ?_, ?_, by simp [Sig.push], ?_, ?_, (fun h => by cases h), fun hn => ?_⟩
 ·simp only [setLast_push]; exact hd _
 ·simp only [setLast_push]; exact hd _
 ·simp only [cur_push, nbox_push]
 ·simp only [cur_push, nbox_push, box_push]
 ·rw [cur_push, noneTok_push] at hn ⊢; exact ht hn
theorem slot31 {a b r : List AV} {z : AV} {tk : List (Option Nat)} (h : tk.any Option.isNone = false) : slotL [a, b, []] tk 1 (z :: r) = some (2, [a, b, z :: r]) := by
 unfold slotL
 rw [h]; rfl
end
end Go.Ax.Sx.Sc

namespace Go.Ax.Sx.Sc
open Go.Ax
set_option linter.unusedSimpArgs false
set_option linter.unusedVariables false
set_option maxRecDepth 100000
section
variable {s : Sig} {w : W}
theorem rep1 {a b : List AV} : [a, b] ++ List.replicate 1 ([] : List AV) = [a, b, []] := rfl
theorem askF_c {mi : ByteArray} : ∀ {l : List R}, askF mi (l.map cR) = askF mi l
 | [] => rfl
 | r :: l => by simp only [List.map_cons, askF]; rw [askF_c]; rfl
theorem graF_c {p : List P} {mi : ByteArray} : ∀ {l : List R} {k : Nat}, graF (p.map cP) mi k (l.map cR) = graF p mi k l
 | [], _ => rfl
 | r :: l, k => by
  have h : ∀ i : Int, (pOf (p.map cP) i).isSome = (pOf p i).isSome := fun i => by
   unfold pOf; rw [List.find?_map, Option.isSome_map]; rfl
  simp only [List.map_cons, graF]; rw [graF_c, h]; rfl
theorem shareE_c {l : List P} {mi : ByteArray} : shareE (cW w) (l.map cP) mi = shareE w l mi := by
 unfold shareE
 rw [planE_c, cW_rs, askF_c, graF_c]
theorem l_ScheduleShares {a b : List P} {o1 o2 : Own} {e1 e2 : Nat} {mi : ByteArray} (hs : Ok s) (hw : w.Ok) (hb : w.Big) (ha : PBig a) (hbb : PBig b) (h1 : a = [] ∨ e1 = 3) (h2 : b = [] ∨ e2 = 3) :
  callL AP (.fn 3) [w.v, .agg [.slice o1 e1 (a.map rowP), .slice o2 e2 (b.map rowP)], S mi] s = some (B true, s) := by
 have haw : ∀ r, callL AP (.fn 4) [] (s.push r) = some (B true, s.push r) := fun r => l_awake (hs.push r)
 have hfe : ∀ r, callL AP (.fn 5) [w.v] (s.push r) = some (B (fewB w), s.push r) := fun r => l_Few (hs.push r) hw hb
 have hsa : ∀ m : Sig, callL AP (.fn 6) [.slice o1 e1 (a.map rowP)] m = some (B (shortB a), m) := fun m => l_short ha h1
 have hsb : ∀ m : Sig, callL AP (.fn 6) [.slice o2 e2 (b.map rowP)] m = some (B (shortB b), m) := fun m => l_short hbb h2
 simp only [W.v, rowW, Sl.v] at hfe
 cases hf : fewB w with
 | false =>
  rw [hf] at hfe
  rw [callL_go (show AP 3 = some c_l_ScheduleShares from rfl) rfl]
  simp (maxSteps := 1000000) only [go_sem, b_l_ScheduleShares, haw, hfe, Nat.reduceEqDiff, Nat.reduceAdd, ↓reduceIte]
 | true =>
 rw [hf] at hfe
 cases hf2 : shortB a with
 | false =>
  rw [hf2] at hsa
  rw [callL_go (show AP 3 = some c_l_ScheduleShares from rfl) rfl]
  simp (maxSteps := 1000000) only [go_sem, b_l_ScheduleShares, haw, hfe, hsa, Nat.reduceEqDiff, Nat.reduceAdd, ↓reduceIte]
 | true =>
 rw [hf2] at hsa
 cases hf3 : shortB b with
 | false =>
  rw [hf3] at hsb
  rw [callL_go (show AP 3 = some c_l_ScheduleShares from rfl) rfl]
  simp (maxSteps := 1000000) only [go_sem, b_l_ScheduleShares, haw, hfe, hsa, hsb, Nat.reduceEqDiff, Nat.reduceAdd, ↓reduceIte]
 | true =>
 rw [hf3] at hsb
 by_cases h20 : 20 < mi.size
 ·have hd20 : decide ((20 : Int) < (mi.size : Int)) = true := decide_eq_true (by omega)
  rw [callL_go (show AP 3 = some c_l_ScheduleShares from rfl) rfl]
  simp (maxSteps := 1000000) only [go_sem, b_l_ScheduleShares, haw, hfe, hsa, hsb, hd20, Nat.reduceEqDiff, Nat.reduceAdd, ↓reduceIte]
 have hd20 : decide ((20 : Int) < (mi.size : Int)) = false := decide_eq_false (by omega)
 have hF := fewB_iff hf
 have hPa := shortB_ok ha hf2
 have hPb := shortB_ok hbb hf3
 have hcp : ∀ m : Sig, Ok m → callL AP (.fn 8) [w.v] m = some ((cW w).v, m) := fun m hm => r_CopyWeek hm hw hF
 obtain ⟨x1, g1, tk1, hc1, hA1, ht1⟩ := r_Copy (o := o1) (Q := s) (tk := []) hs hPa h1
 obtain ⟨x2, g2, tk2, hc2, hA2, _⟩ := r_Copy (o := o2) (Q := s) (tk := tk1) hs hPb h2
 obtain ⟨p1, q1, rfl, hq1⟩ := acc_val hA1
 obtain ⟨p2, q2, rfl, hq2⟩ := acc_val hA2
 have hm : ∀ {k : List P} {e : Nat}, ((k.map cP).map rowP = [] ∨ e = 3) → (k.map cP = [] ∨ e = 3) := fun h => by rcases h with h | h; exact .inl (by simpa using h); exact .inr h
 have hn1 : tk1.any Option.isNone = false := by rcases ht1 with rfl | rfl <;> rfl
 have hsl := slot31 (a := rowW w) (b := [.slice o1 e1 (a.map rowP), .slice o2 e2 (b.map rowP)]) (z := I 0) (r := [I 0]) hn1
 have hsh : ∀ r, callL AP (.fn 7) [(cW w).v, .slice p1 q1 ((a.map cP).map rowP), S mi] (s.push r) = some (.tuple [.agg [I (shareE w a mi).1, I (shareE w a mi).2.1], I (shareE w a mi).2.2], s.push r) := fun r => by
  rw [s_ShareOf (hs.push r) cW_Ok (cW_Few hF) (cP_ok hPa) (hm hq1), shareE_c]
 have f1 : ∀ m zs, fcallOp (callL AP) true m zs (.fn 8) [w.v] = some ((cW w).v, m) := fun m zs => fc_ro hcp
 have f2 : ∀ bx zs, fcallOp (callL AP) false (s.push ⟨bx, []⟩) zs (.fn 9) [.slice o1 e1 (a.map rowP)] = some (.slice p1 q1 ((a.map cP).map rowP), s.push ⟨bx, tk1⟩) := fun bx zs => fc_own hc1 fun _ => rfl
 have f3 : ∀ bx zs, fcallOp (callL AP) false (s.push ⟨bx, tk1⟩) zs (.fn 7) [(cW w).v, .slice p1 q1 ((a.map cP).map rowP), S mi] = some (.tuple [.agg [I (shareE w a mi).1, I (shareE w a mi).2.1], I (shareE w a mi).2.2], s.push ⟨bx, tk1⟩) := fun bx zs => fc_own (fun bx => hsh ⟨bx, tk1⟩) fun h => h
 have hcpr : ∀ m : Sig, callL AP (.fn 8) [w.v] (roS m) = some ((cW w).v, roS m) := fun m => hcp _ ok_roS
 have hcr : ∀ m : Sig, callL AP (.fn 9) [.slice o1 e1 (a.map rowP)] (roS m) = some (accV 3 ((a.map cP).map rowP), roS m) := fun m => r_Copy_ro hPa h1
 obtain ⟨p3, q3, hac, hq3⟩ : ∃ o e, accV 3 ((a.map cP).map rowP) = .slice o e ((a.map cP).map rowP) ∧ (a.map cP = [] ∨ e = 3) := by
  cases a with
  | nil => exact ⟨_, _, rfl, .inl rfl⟩
  | cons _ _ => exact ⟨_, _, rfl, .inr rfl⟩
 rw [hac] at hcr
 obtain ⟨T, hT⟩ : ∃ T, T = if tellE w a b = 0 then tellF w a b w.rs.l.length else [] := ⟨_, rfl⟩
 have hTc : tellE (cW w) (a.map cP) (b.map cP) = tellE w a b := by unfold tellE; rw [planE_c, chkE_c]
 obtain ⟨p4, q4, hacT, hq4⟩ : ∃ o e, accV 1 (T.map rowS) = .slice o e (T.map rowS) ∧ (T = [] ∨ e = 1) := by
  cases T with
  | nil => exact ⟨_, _, rfl, .inl rfl⟩
  | cons _ _ => exact ⟨_, _, rfl, .inr rfl⟩
 have hto : ∀ r, callL AP (.fn 10) [(cW w).v, .agg [.slice p3 q3 ((a.map cP).map rowP), .slice p2 q2 ((b.map cP).map rowP)]] (s.push r) = some (.tuple [.slice p4 q4 (T.map rowS), I (tellE w a b)], s.push r) := fun r => by
  rw [s_ToTell (hs.push r) cW_Ok (cW_Few hF) (cP_ok hPa) (cP_ok hPb) hq3 (hm hq2), hTc, cW_len, tellF_c (Nat.le_refl _), ← hT, hacT]
 have hpa : ∀ m : Sig, Ok m → callL AP (.fn 11) [w.v, .slice o1 e1 (a.map rowP)] m = some (I (planE w a).2, m) := fun m hm => r_PlanErr hm hw hF hPa h1
 have hpb : ∀ m : Sig, Ok m → callL AP (.fn 11) [w.v, .slice o2 e2 (b.map rowP)] m = some (I (planE w b).2, m) := fun m hm => r_PlanErr hm hw hF hPb h2
 have hpa := fun r => hpa (s.push r) (hs.push r)
 have hpb := fun r => hpb (s.push r) (hs.push r)
 have hqq : ∀ x y : Int, eqOp (.agg [.int, .int]) (.agg [I x, I y]) (.agg [I x, I y]) = some true := fun x y => by simp [eqOp, eqCells, eqPlain]
 have hTl : (T.map rowS).length = T.length := List.length_map ..
 generalize hZ1 : (a.map cP).map rowP = Z1 at *
 generalize hZ2 : (b.map cP).map rowP = Z2 at *
 simp only [W.v, rowW, Sl.v] at f1 f3 hcpr hto hpa hpb hsl
 by_cases h0 : (planE w a).2 = 0
 ·have hwe : (weekE w).2.2 = 0 := by
   unfold planE at h0
   by_cases h : (weekE w).2.2 = 0
   ·exact h
   ·rw [if_neg h] at h0; exact absurd h0 h
  have hwk : Wk w := ⟨hw, hF, weekE_ok hwe⟩
  have hrl := hwk.v.rl
  have hpbe : (planE w b).2 = (chkE w b).2 := by unfold planE; rw [if_pos hwe]
  have hte : tellE w a b = (chkE w b).2 := by unfold tellE; rw [if_pos h0]
  rw [hte] at hto hT
  rw [hpbe] at hpb
  rw [h0] at hpa
  have hrs : ∀ m : Sig, Ok m → callL AP (.fn 12) [w.v, .slice o1 e1 (a.map rowP), S mi] m = some (.tuple [.agg (if askF mi w.rs.l = 0 then [I 0, I 0] else [I (shareF (graF a mi 0 w.rs.l) (askF mi w.rs.l)).1, I (shareF (graF a mi 0 w.rs.l) (askF mi w.rs.l)).2]), B (!decide (askF mi w.rs.l = 0))], m) := fun m hm => r_ShareOf hm hwk (by have := hPa.len; omega) h1
  have hrs := fun r => hrs (s.push r) (hs.push r)
  have hrt : ∀ m : Sig, Ok m → callL AP (.fn 14) [w.v, .agg [.slice o1 e1 (a.map rowP), .slice o2 e2 (b.map rowP)]] m = some (accV 1 ((tellF w a b w.rs.l.length).map rowS), m) := fun m hm => r_ToTell hm hw (by omega) h1 h2 (by have := hPa.len; omega) (by have := hPb.len; omega) (fun p hp => ⟨(hPa.ok p hp).1, by have := (hPa.ok p hp).2; omega⟩) fun p hp => ⟨(hPb.ok p hp).1, by have := (hPb.ok p hp).2; omega⟩
  have hrt := fun r => hrt (s.push r) (hs.push r)
  have hse : shareE w a mi = if askF mi w.rs.l = 0 then (0, 0, 6) else ((shareF (graF a mi 0 w.rs.l) (askF mi w.rs.l)).1, (shareF (graF a mi 0 w.rs.l) (askF mi w.rs.l)).2, 0) := by unfold shareE; rw [if_pos h0]
  have htx : ∀ m : Sig, (chkE w b).2 = 0 → callL AP (.fn 13) [.slice p4 q4 (T.map rowS), .slice p4 q4 (T.map rowS)] m = some (B true, m) := fun m hz => b_Texts hq4 hq4 (by rw [hT, if_pos hz]; have := tellF_len (w := w) (a := a) (b := b) (k := w.rs.l.length); omega)
  have hrt : (chkE w b).2 = 0 → ∀ r, callL AP (.fn 14) [w.v, .agg [.slice o1 e1 (a.map rowP), .slice o2 e2 (b.map rowP)]] (s.push r) = some (.slice p4 q4 (T.map rowS), s.push r) := fun hz r => by
   rw [hrt r, ← hacT, hT, if_pos hz]
  have hTn : ¬ (chkE w b).2 = 0 → T = [] := fun hz => by rw [hT, if_neg hz]
  simp only [W.v, rowW, Sl.v] at hrs hrt
  generalize hZT : T.map rowS = ZT at *
  have hZn : ¬ (chkE w b).2 = 0 → ZT.length = 0 := fun hz => by rw [← hZT, hTn hz]; rfl
  generalize a.map rowP = ZA at *
  generalize b.map rowP = ZB at *
  generalize (chkE w b).2 = eb at *
  by_cases hk : askF mi w.rs.l = 0
  ·rw [if_pos hk] at hse
   simp only [hk, if_true, decide_true, Bool.not_true] at hrs
   rw [hse] at f3
   by_cases hz : eb = 0
   ·have hrt := hrt hz
    have htx := fun m => htx m hz
    subst hz
    rw [callL_go (show AP 3 = some c_l_ScheduleShares from rfl) rfl]
    simp (maxSteps := 1000000) only [go_sem, b_l_ScheduleShares, hs, haw, hfe, hsa, hsb, hd20, f1, f2, f3, hsl, hcpr, hcr, hc2, hto, hpa, hpb, hrs, hrt, htx, hqq, List.length_cons, List.length_nil, Nat.reduceLeDiff, and_self, Nat.lt_add_one, Nat.reduceEqDiff, rep1, onBool_undef, ne_eq, not_true, decide_true, decide_false, Bool.not_true, Bool.not_false, Nat.reduceEqDiff, Nat.reduceAdd, Nat.reduceSub, ↓reduceIte]
   ·have hZn := hZn hz
    rw [callL_go (show AP 3 = some c_l_ScheduleShares from rfl) rfl]
    simp (maxSteps := 1000000) only [go_sem, b_l_ScheduleShares, hs, haw, hfe, hsa, hsb, hd20, f1, f2, f3, hsl, hcpr, hcr, hc2, hto, hpa, hpb, hrs, hz, hZn, hqq, List.length_cons, List.length_nil, Nat.reduceLeDiff, and_self, Nat.lt_add_one, Nat.reduceEqDiff, rep1, onBool_undef, ne_eq, not_true, not_false_iff, decide_true, decide_false, Bool.not_true, Bool.not_false, Nat.reduceEqDiff, Nat.reduceAdd, Nat.reduceSub, Int.cast_ofNat_Int, ↓reduceIte]
  ·rw [if_neg hk] at hse
   simp only [hk, if_false, decide_false, Bool.not_false] at hrs
   rw [hse] at f3
   generalize (shareF (graF a mi 0 w.rs.l) (askF mi w.rs.l)).1 = y1 at *
   generalize (shareF (graF a mi 0 w.rs.l) (askF mi w.rs.l)).2 = y2 at *
   by_cases hz : eb = 0
   ·have hrt := hrt hz
    have htx := fun m => htx m hz
    subst hz
    rw [callL_go (show AP 3 = some c_l_ScheduleShares from rfl) rfl]
    simp (maxSteps := 1000000) only [go_sem, b_l_ScheduleShares, hs, haw, hfe, hsa, hsb, hd20, f1, f2, f3, hsl, hcpr, hcr, hc2, hto, hpa, hpb, hrs, hrt, htx, hqq, List.length_cons, List.length_nil, Nat.reduceLeDiff, and_self, Nat.lt_add_one, Nat.reduceEqDiff, rep1, onBool_undef, ne_eq, not_true, decide_true, decide_false, Bool.not_true, Nat.reduceEqDiff, Nat.reduceAdd, Nat.reduceSub, ↓reduceIte]
   ·have hZn := hZn hz
    rw [callL_go (show AP 3 = some c_l_ScheduleShares from rfl) rfl]
    simp (maxSteps := 1000000) only [go_sem, b_l_ScheduleShares, hs, haw, hfe, hsa, hsb, hd20, f1, f2, f3, hsl, hcpr, hcr, hc2, hto, hpa, hpb, hrs, hz, hZn, hqq, List.length_cons, List.length_nil, Nat.reduceLeDiff, and_self, Nat.lt_add_one, Nat.reduceEqDiff, rep1, onBool_undef, ne_eq, not_true, not_false_iff, decide_true, decide_false, Bool.not_true, Nat.reduceEqDiff, Nat.reduceAdd, Nat.reduceSub, Int.cast_ofNat_Int, ↓reduceIte]
 ·have hse : shareE w a mi = (0, 0, (planE w a).2) := by unfold shareE; rw [if_neg h0]
  have hte : tellE w a b = (planE w a).2 := by unfold tellE; rw [if_neg h0]
  have hT0 : T = [] := by rw [hT, hte, if_neg h0]
  rw [hse] at f3
  rw [hte] at hto
  subst hT0
  generalize a.map rowP = ZA at *
  generalize b.map rowP = ZB at *
  rw [callL_go (show AP 3 = some c_l_ScheduleShares from rfl) rfl]
  simp (maxSteps := 1000000) only [go_sem, b_l_ScheduleShares, hs, haw, hfe, hsa, hsb, hd20, f1, f2, f3, hsl, hcpr, hcr, hc2, hto, hpa, h0, hqq, List.map_nil, List.length_nil, List.length_cons, Nat.reduceLeDiff, and_self, Nat.lt_add_one, Nat.reduceEqDiff, rep1, ne_eq, not_false_iff, decide_true, Nat.reduceEqDiff, reduceCtorEq, Nat.reduceAdd, Nat.reduceSub, Int.cast_ofNat_Int, ↓reduceIte]
end
end Go.Ax.Sx.Sc

namespace Go.Ax.Sx.Sc
open Go.Ax
section
variable {P : Program} {d : Nat}
def Flds (P : Program) (t : TypeId) (ts : List TypeId) : Prop := ∃ fs : Array Field, P.underlying t = some (.struct fs) ∧ fs.toList.map (·.type) = ts
theorem shp_flds {t : TypeId} {ts : List TypeId} {avs : List AV} (hf : Flds P t ts) (h : Shp P (d + 1) t avs) :
  ∃ ps : List (List AV), avs = ps.flatten ∧ ps.length = ts.length ∧ ∀ (i : Nat) (u : TypeId) (p : List AV), ts[i]? = some u → ps[i]? = some p → Shp P d u p := by
 obtain ⟨fs, hu, rfl⟩ := hf
 obtain ⟨ps, h1, h2, h3⟩ := shp_struct hu h
 refine ⟨ps, h1, by simp [h2], fun i u p hi hp => ?_⟩
 rw [List.getElem?_map] at hi
 obtain ⟨f, hf, rfl⟩ := Option.map_eq_some_iff.1 hi
 exact h3 i f p (by simpa using hf) hp
structure WkT (P : Program) (ti ts tg tgs tis ta tas tr trs tw : TypeId) : Prop where
 i : P.underlying ti = some (.int .i64)
 s : P.underlying ts = some .string
 g : Flds P tg [ti, ti]
 gs : P.underlying tgs = some (.slice tg)
 gc : P.cellsOf tg = 2
 is : P.underlying tis = some (.slice ti)
 ic : P.cellsOf ti = 1
 a : Flds P ta [ts, ti, tgs]
 sa : P.underlying tas = some (.slice ta)
 ac : P.cellsOf ta = 3
 r : Flds P tr [ts, tg, ti, ti, tis, ti]
 sr : P.underlying trs = some (.slice tr)
 rc : P.cellsOf tr = 7
 w : Flds P tw [ti, tas, trs]
variable {ti ts tg tgs tis ta tas tr trs tw : TypeId}
theorem maxLen_lt {n : Nat} (h : n ≤ maxLen) : (n : Int) < 9223372036854775808 := by unfold maxLen at h; omega
theorem shp_rng (T : WkT P ti ts tg tgs tis ta tas tr trs tw) {avs : List AV} (h : Shp P (d + 2) tg avs) : ∃ x : Int × Int, avs = rowG x ∧ True := by
 obtain ⟨ps, rfl, hl, hp⟩ := shp_flds T.g h
 match ps, hl, hp with
 | [p0, p1], _, hp =>
  obtain ⟨a, rfl, _⟩ := shp_int T.i (hp 0 _ p0 rfl rfl)
  obtain ⟨b, rfl, _⟩ := shp_int T.i (hp 1 _ p1 rfl rfl)
  exact ⟨(a, b), rfl, trivial⟩
theorem own_ok {o : Own} {rows : List (List AV)} (h : o = .any ∨ (o = .nilS ∧ rows = [])) : o = .any ∨ (o = .nilS ∧ rows = []) := h
theorem shp_ints (T : WkT P ti ts tg tgs tis ta tas tr trs tw) {avs : List AV} (h : Shp P (d + 2) tis avs) : ∃ x : Sl Int, avs = [x.v rowI] ∧ x.ok 1 ∧ (x.l.length : Int) < 9223372036854775808 := by
 obtain ⟨o, rows, rfl, ho, hlen, hrows⟩ := shp_slice T.is h
 obtain ⟨l, rfl, _⟩ := rows_eq (f := rowI) (g := fun _ => True) (fun r hr => by
  obtain ⟨x, hx, _⟩ := shp_int T.i (hrows r hr)
  exact ⟨x, hx, trivial⟩)
 rw [List.length_map] at hlen
 rw [T.ic]
 refine ⟨⟨o, 1, l⟩, rfl, ?_, maxLen_lt hlen⟩
 rcases ho with rfl | ⟨rfl, h⟩
 ·exact ⟨.inr rfl, .inl rfl⟩
 ·exact ⟨.inr rfl, .inr (.inr ⟨rfl, List.map_eq_nil_iff.1 (by assumption)⟩)⟩
theorem shp_rngs (T : WkT P ti ts tg tgs tis ta tas tr trs tw) {avs : List AV} (h : Shp P (d + 3) tgs avs) : ∃ x : Sl (Int × Int), avs = [x.v rowG] ∧ x.ok 2 ∧ (x.l.length : Int) < 9223372036854775808 := by
 obtain ⟨o, rows, rfl, ho, hlen, hrows⟩ := shp_slice T.gs h
 obtain ⟨l, rfl, _⟩ := rows_eq (f := rowG) (g := fun _ => True) (fun r hr => shp_rng T (hrows r hr))
 rw [List.length_map] at hlen
 rw [T.gc]
 refine ⟨⟨o, 2, l⟩, rfl, ?_, maxLen_lt hlen⟩
 rcases ho with rfl | ⟨rfl, h⟩
 ·exact ⟨.inr rfl, .inl rfl⟩
 ·exact ⟨.inr rfl, .inr (.inr ⟨rfl, List.map_eq_nil_iff.1 (by assumption)⟩)⟩
theorem shp_ant (T : WkT P ti ts tg tgs tis ta tas tr trs tw) {avs : List AV} (h : Shp P (d + 4) ta avs) :
  ∃ a : A, avs = rowA a ∧ (a.cl.ok 2 ∧ (a.name.size : Int) < 9223372036854775808 ∧ (a.cl.l.length : Int) < 9223372036854775808) := by
 obtain ⟨ps, rfl, hl, hp⟩ := shp_flds T.a h
 match ps, hl, hp with
 | [p0, p1, p2], _, hp =>
  obtain ⟨n, rfl, hn⟩ := shp_str T.s (hp 0 _ p0 rfl rfl)
  obtain ⟨b, rfl, _⟩ := shp_int T.i (hp 1 _ p1 rfl rfl)
  obtain ⟨c, rfl, hc, hcl⟩ := shp_rngs T (hp 2 _ p2 rfl rfl)
  exact ⟨⟨n, b, c⟩, rfl, hc, maxLen_lt hn, hcl⟩
theorem shp_req (T : WkT P ti ts tg tgs tis ta tas tr trs tw) {avs : List AV} (h : Shp P (d + 4) tr avs) :
  ∃ r : R, avs = rowR r ∧ (r.an.ok 1 ∧ (r.mis.size : Int) < 9223372036854775808 ∧ (r.an.l.length : Int) < 9223372036854775808) := by
 obtain ⟨ps, rfl, hl, hp⟩ := shp_flds T.r h
 match ps, hl, hp with
 | [p0, p1, p2, p3, p4, p5], _, hp =>
  obtain ⟨n, rfl, hn⟩ := shp_str T.s (hp 0 _ p0 rfl rfl)
  obtain ⟨g, rfl, _⟩ := shp_rng T (hp 1 _ p1 rfl rfl)
  obtain ⟨b, rfl, _⟩ := shp_int T.i (hp 2 _ p2 rfl rfl)
  obtain ⟨c, rfl, _⟩ := shp_int T.i (hp 3 _ p3 rfl rfl)
  obtain ⟨x, rfl, hx, hxl⟩ := shp_ints T (hp 4 _ p4 rfl rfl)
  obtain ⟨e, rfl, _⟩ := shp_int T.i (hp 5 _ p5 rfl rfl)
  exact ⟨⟨n, g.1, g.2, b, c, x, e⟩, rfl, hx, maxLen_lt hn, hxl⟩
theorem shp_week (T : WkT P ti ts tg tgs tis ta tas tr trs tw) {avs : List AV} (h : Shp P (d + 6) tw avs) : ∃ w : W, AV.agg avs = w.v ∧ w.Ok ∧ w.Big := by
 obtain ⟨ps, rfl, hl, hp⟩ := shp_flds T.w h
 match ps, hl, hp with
 | [p0, p1, p2], _, hp =>
  obtain ⟨n, rfl, _⟩ := shp_int T.i (hp 0 _ p0 rfl rfl)
  obtain ⟨o1, r1, rfl, ho1, hl1, hr1⟩ := shp_slice T.sa (hp 1 _ p1 rfl rfl)
  obtain ⟨o2, r2, rfl, ho2, hl2, hr2⟩ := shp_slice T.sr (hp 2 _ p2 rfl rfl)
  obtain ⟨as, rfl, has⟩ := rows_eq (fun r hr => shp_ant T (hr1 r hr))
  obtain ⟨rs, rfl, hrs⟩ := rows_eq (fun r hr => shp_req T (hr2 r hr))
  rw [List.length_map] at hl1 hl2
  rw [T.ac, T.rc]
  refine ⟨⟨n, ⟨o1, 3, as⟩, ⟨o2, 7, rs⟩⟩, rfl, ⟨?_, fun a ha => (has a ha).1, ?_, fun r hr => (hrs r hr).1⟩, ⟨maxLen_lt hl1, maxLen_lt hl2, fun a ha => (has a ha).2.1, fun a ha => (has a ha).2.2, fun r hr => (hrs r hr).2.1, fun r hr => (hrs r hr).2.2⟩⟩
  ·rcases ho1 with rfl | ⟨rfl, h⟩
   ·exact ⟨.inr rfl, .inl rfl⟩
   ·exact ⟨.inr rfl, .inr (.inr ⟨rfl, List.map_eq_nil_iff.1 (by assumption)⟩)⟩
  ·rcases ho2 with rfl | ⟨rfl, h⟩
   ·exact ⟨.inr rfl, .inl rfl⟩
   ·exact ⟨.inr rfl, .inr (.inr ⟨rfl, List.map_eq_nil_iff.1 (by assumption)⟩)⟩
end
end Go.Ax.Sx.Sc

/-
  What a plan is among the values that an argument may read as.
-/
namespace Go.Ax.Sx.Sc
open Go.Ax
section
variable {P : Program} {d : Nat} {ti tis tp tps : TypeId}
structure PlT (P : Program) (ti tis tp tps : TypeId) : Prop where
 i : P.underlying ti = some (.int .i64)
 ic : P.cellsOf ti = 1
 is : P.underlying tis = some (.slice ti)
 p : Flds P tp [ti, ti, tis]
 ps : P.underlying tps = some (.slice tp)
 pc : P.cellsOf tp = 3
theorem shp_ints2 (T : PlT P ti tis tp tps) {avs : List AV} (h : Shp P (d + 2) tis avs) : ∃ x : Sl Int, avs = [x.v rowI] ∧ x.ok 1 ∧ (x.l.length : Int) < 9223372036854775808 := by
 obtain ⟨o, rows, rfl, ho, hlen, hrows⟩ := shp_slice T.is h
 obtain ⟨l, rfl, _⟩ := rows_eq (f := rowI) (g := fun _ => True) (fun r hr => by
  obtain ⟨x, hx, _⟩ := shp_int T.i (hrows r hr)
  exact ⟨x, hx, trivial⟩)
 rw [List.length_map] at hlen
 rw [T.ic]
 refine ⟨⟨o, 1, l⟩, rfl, ?_, maxLen_lt hlen⟩
 rcases ho with rfl | ⟨rfl, h⟩
 ·exact ⟨.inr rfl, .inl rfl⟩
 ·exact ⟨.inr rfl, .inr (.inr ⟨rfl, List.map_eq_nil_iff.1 (by assumption)⟩)⟩
theorem shp_pass (T : PlT P ti tis tp tps) {avs : List AV} (h : Shp P (d + 4) tp avs) : ∃ p : Sc.P, avs = rowP p ∧ (p.an.ok 1 ∧ (p.an.l.length : Int) < 9223372036854775808) := by
 obtain ⟨ps, rfl, hl, hp⟩ := shp_flds T.p h
 match ps, hl, hp with
 | [p0, p1, p2], _, hp =>
  obtain ⟨a, rfl, _⟩ := shp_int T.i (hp 0 _ p0 rfl rfl)
  obtain ⟨b, rfl, _⟩ := shp_int T.i (hp 1 _ p1 rfl rfl)
  obtain ⟨x, rfl, hx, hxl⟩ := shp_ints2 T (hp 2 _ p2 rfl rfl)
  exact ⟨⟨a, b, x⟩, rfl, hx, hxl⟩
theorem shp_plan (T : PlT P ti tis tp tps) {avs : List AV} (h : Shp P (d + 5) tps avs) : ∃ (l : List Sc.P) (o : Own) (e : Nat), avs = [.slice o e (l.map rowP)] ∧ e = 3 ∧ PBig l := by
 obtain ⟨o, rows, rfl, ho, hlen, hrows⟩ := shp_slice T.ps h
 obtain ⟨l, rfl, hr⟩ := rows_eq (fun r hr => shp_pass T (hrows r hr))
 rw [List.length_map] at hlen
 rw [T.pc]
 exact ⟨l, o, 3, rfl, rfl, ⟨maxLen_lt hlen, fun p hp => (hr p hp).1, fun p hp => (hr p hp).2⟩⟩
theorem shp_pair (T : PlT P ti tis tp tps) {tpp : TypeId} (hf : Flds P tpp [tps, tps]) {avs : List AV} (h : Shp P (d + 6) tpp avs) :
  ∃ (a b : List Sc.P) (o1 o2 : Own), AV.agg avs = .agg [.slice o1 3 (a.map rowP), .slice o2 3 (b.map rowP)] ∧ PBig a ∧ PBig b := by
 obtain ⟨ps, rfl, hl, hp⟩ := shp_flds hf h
 match ps, hl, hp with
 | [p0, p1], _, hp =>
  obtain ⟨a, o1, e1, rfl, rfl, ha⟩ := shp_plan T (hp 0 _ p0 rfl rfl)
  obtain ⟨b, o2, e2, rfl, rfl, hb⟩ := shp_plan T (hp 1 _ p1 rfl rfl)
  exact ⟨a, b, o1, o2, rfl, ha, hb⟩
end
end Go.Ax.Sx.Sc
