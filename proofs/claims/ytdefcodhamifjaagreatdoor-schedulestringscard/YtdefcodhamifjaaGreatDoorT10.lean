/-
  The data of schedules, and how they look to the executor.
-/
import Derived.Test.YtdefcodhamifjaaGreatDoorT8
import Derived.Test.YtdefcodhamifjaaGreatDoorT9
namespace Go.Ax.Sx.Sc
open Go.Ax
abbrev S (s : ByteArray) : AV := .v (.string s)
structure A where
 name : ByteArray
 setup : Int
 cl : Sl (Int × Int)
structure R where
 mis : ByteArray
 lo : Int
 hi : Int
 len : Int
 val : Int
 an : Sl Int
 need : Int
structure W where
 slots : Int
 as : Sl A
 rs : Sl R
structure P where
 req : Int
 start : Int
 an : Sl Int
abbrev rowI (n : Int) : List AV := [I n]
abbrev rowG (p : Int × Int) : List AV := [I p.1, I p.2]
abbrev rowS (s : ByteArray) : List AV := [S s]
abbrev rowA (a : A) : List AV := [S a.name, I a.setup, a.cl.v rowG]
abbrev rowR (r : R) : List AV := [S r.mis, I r.lo, I r.hi, I r.len, I r.val, r.an.v rowI, I r.need]
abbrev rowP (p : P) : List AV := [I p.req, I p.start, p.an.v rowI]
abbrev rowW (w : W) : List AV := [I w.slots, w.as.v rowA, w.rs.v rowR]
abbrev W.v (w : W) : AV := .agg (rowW w)
attribute [go_sem] Sl.v rowI rowG rowS rowA rowR rowP rowW W.v
structure W.Ok (w : W) : Prop where
 as : w.as.ok 3
 cl : ∀ a ∈ w.as.l, a.cl.ok 2
 rs : w.rs.ok 7
 an : ∀ r ∈ w.rs.l, r.an.ok 1
structure W.Few (w : W) : Prop where
 as : w.as.l.length ≤ 6
 rs : w.rs.l.length ≤ 14
 name : ∀ a ∈ w.as.l, a.name.size ≤ 20
 cl : ∀ a ∈ w.as.l, a.cl.l.length ≤ 8
 mis : ∀ r ∈ w.rs.l, r.mis.size ≤ 20
 an : ∀ r ∈ w.rs.l, r.an.l.length ≤ 6
def wi (n lo hi : Int) : Bool := decide (lo ≤ n) && decide (n ≤ hi)
theorem wi_iff {n lo hi : Int} : wi n lo hi = true ↔ lo ≤ n ∧ n ≤ hi := by simp [wi]
def findI {α : Type} (p : α → Bool) : List α → Int
 | [] => -1
 | x :: r => if p x then 0 else if findI p r < 0 then -1 else findI p r + 1
theorem findI_cases {α : Type} (p : α → Bool) (l : List α) : (l.any p = false ∧ findI p l = -1) ∨ (l.any p = true ∧ ∃ (k : Nat) (x : α), l[k]? = some x ∧ p x = true ∧ findI p l = (k : Int) ∧ ∀ (j : Nat) (y : α), j < k → l[j]? = some y → p y = false) := by
 induction l with
 | nil => exact .inl ⟨rfl, rfl⟩
 | cons x r ih =>
  cases hx : p x with
  | true => exact .inr ⟨by simp [hx], 0, x, rfl, hx, by simp [findI, hx], fun j y hj => absurd hj (Nat.not_lt_zero _)⟩
  | false =>
   rcases ih with ⟨h1, h2⟩ | ⟨h1, k, y, h2, h3, h4, h5⟩
   ·exact .inl ⟨by simp only [List.any_cons, hx, h1]; rfl, by simp [findI, hx, h2]⟩
   ·refine .inr ⟨by simp only [List.any_cons, h1, Bool.or_true], k + 1, y, h2, h3, ?_, fun j z hj hz => ?_⟩
    ·simp only [findI, hx, h4, Bool.false_eq_true, if_false]
     rw [if_neg (by omega)]; simp
    ·cases j with
     | zero => simp at hz; subst hz; exact hx
     | succ j => exact h5 j z (by omega) hz
theorem findI_nn {α : Type} {p : α → Bool} {l : List α} : decide (0 ≤ findI p l) = l.any p := by
 rcases findI_cases p l with ⟨h1, h2⟩ | ⟨h1, k, x, _, _, h4, _⟩
 ·rw [h1, h2]; rfl
 ·rw [h1, h4]; simp
def letter (c : UInt8) : Bool := (decide (97 ≤ c.toNat) && decide (c.toNat ≤ 122)) || (decide (65 ≤ c.toNat) && decide (c.toNat ≤ 90))
def nameAt (k : Nat) (c : UInt8) : Bool := letter c || (!decide (k = 0) && (decide (c.toNat = 45) || (decide (48 ≤ c.toNat) && decide (c.toNat ≤ 57))))
def nameFrom (k : Nat) : List UInt8 → Bool
 | [] => true
 | c :: r => nameAt k c && nameFrom (k + 1) r
def isName (s : ByteArray) : Bool := nameFrom 0 s.data.toList && decide (1 ≤ s.size) && decide (s.size ≤ 12)
def slotsE (n lo hi : Int) : Int := if wi lo 0 (n - 1) && wi hi 0 (n - 1) then (if lo ≤ hi then 0 else 9) else 2
def closedE (n : Int) : List (Int × Int) → Int
 | [] => 0
 | p :: r => if slotsE n p.1 p.2 = 0 then closedE n r else slotsE n p.1 p.2
def antE (n : Int) (as : List A) (k : Nat) (a : A) : Int :=
 if isName a.name then
  if (as.take k).any (fun b => decide (b.name = a.name)) then 5 else
  if wi a.setup 0 50 then
   if a.cl.l.length ≤ 6 then closedE n a.cl.l else 8
  else 2
 else 4
def antsE (n : Int) (last : Int) : List Int → Int
 | [] => 0
 | a :: r => if wi a 0 (n - 1) then (if last < a then antsE n a r else 9) else 6
def reqE (n : Int) (m : Nat) (r : R) : Int :=
 if isName r.mis then
  if slotsE n r.lo r.hi = 0 then
   if wi r.len 1 (r.hi - r.lo + 1) && wi r.val 0 100000 then
    if r.an.l = [] then 10 else
    if antsE m (-1) r.an.l = 0 then (if wi r.need 1 r.an.l.length then 0 else 2) else antsE m (-1) r.an.l
   else 2
  else slotsE n r.lo r.hi
 else 4
def firstAt {α : Type} (f : Nat → α → Int) (k : Nat) : List α → Option (Nat × Int)
 | [] => none
 | x :: r => if f k x = 0 then firstAt f (k + 1) r else some (k, f k x)
def weekE (w : W) : Int × Int × Int :=
 if wi w.slots 1 200 then
  if w.as.l.length ≤ 4 ∧ w.rs.l.length ≤ 12 then
   match firstAt (antE w.slots w.as.l) 0 w.as.l with
   | some (k, e) => (1, k, e)
   | none => match firstAt (fun _ r => reqE w.slots w.as.l.length r) 0 w.rs.l with
    | some (k, e) => (2, k, e)
    | none => (0, 0, 0)
  else (0, 0, 8)
 else (0, 0, 2)
end Go.Ax.Sx.Sc

namespace Go.Ax.Sx.Sc
open Go.Ax
set_option linter.unusedSimpArgs false
set_option linter.unusedVariables false
section
variable {s : Sig}
theorem findI_at {α : Type} {p : α → Bool} {l : List α} {k : Nat} {a : α} (ha : l[k]? = some a) (hpa : p a = true) (hp : ∀ j y, j < k → l[j]? = some y → p y = false) : findI p l = (k : Int) := by
 rcases findI_cases p l with ⟨h1, _⟩ | ⟨_, j, x, h2, h3, h4, h5⟩
 ·have := List.any_eq_false.1 h1 a (List.mem_of_getElem? ha)
  rw [hpa] at this; exact absurd rfl this
 ·rw [h4]
  have : j = k := by
   rcases Nat.lt_trichotomy j k with h | h | h
   ·have := hp j x h h2; rw [h3] at this; cases this
   ·exact h
   ·have := h5 k a h ha; rw [hpa] at this; cases this
  rw [this]
theorem findI_no {α : Type} {p : α → Bool} {l : List α} (hp : ∀ j y, j < l.length → l[j]? = some y → p y = false) : findI p l = -1 := by
 rcases findI_cases p l with ⟨_, h⟩ | ⟨_, j, x, h2, h3, _, _⟩
 ·exact h
 ·have := hp j x (List.getElem?_eq_some_iff.1 h2).1 h2
  rw [h3] at this; cases this
theorem z_IndexFunc_ScheduleAntenna {l : List A} {o : Own} {e : Nat} {g : FuncId} {caps : List AV} {p : A → Bool} (he : l = [] ∨ e = 3) (hl : (l.length : Int) < 9223372036854775808)
  (hg : ∀ a ∈ l, ∀ r, callL AP (.fn g) (.agg (rowA a) :: caps) (s.push r) = some (B (p a), s.push r)) : callL AP (.fn 149) [.slice o e (l.map rowA), .fn g [] caps] s = some (I (findI p l), s) := by
 have key : ∀ k ρ m, k ≤ l.length → (ρ 0 = .slice o e (l.map rowA) ∧ ρ 1 = .fn g [] caps ∧ ρ 7 = I l.length ∧ ρ 8 = I k ∧ (∀ j y, j < k → l[j]? = some y → p y = false) ∧ m = s.push ⟨[], []⟩) → go AP f_z_IndexFunc_ScheduleAntenna (.c (.loop b_z_IndexFunc_ScheduleAntenna_l0) :: k_z_IndexFunc_ScheduleAntenna_0) ⟨ρ, m⟩ = some (I (findI p l), s) := by
  refine loop_up l.length _ _ ?_ ?_
  ·rintro k ρ m hk ⟨h0, h1, h7, h8, hp, rfl⟩ ih
   obtain ⟨a, ha⟩ := get_some hk
   have he : e = 3 := by rcases he with h | h; (rw [h] at ha; simp at ha); exact h
   subst he
   have hr := ix_map (o := o) (es := 3) (f := rowA) ha
   simp (maxSteps := 1000000) only [go_sem, b_z_IndexFunc_ScheduleAntenna_l0, h0, h1, h7, h8, lt_dec hk, hr, hg a (List.mem_of_getElem? ha), wrap_succ hk hl, Nat.reduceEqDiff, reduceCtorEq, ↓reduceIte]
   cases hpa : p a with
   | true =>
    simp only [cond_true]
    rw [findI_at ha hpa hp]
   | false =>
    simp only [cond_false]
    refine ih _ _ ?_
    refine ⟨h0, h1, h7, rfl, fun j y hj hy => ?_, rfl⟩
    by_cases e : j = k
    ·subst e; rw [ha] at hy; injection hy with hy; rw [← hy]; exact hpa
    ·exact hp j y (by omega) hy
  ·rintro ρ m ⟨h0, h1, h7, h8, hp, rfl⟩
   simp (maxSteps := 1000000) only [go_sem, b_z_IndexFunc_ScheduleAntenna_l0, b_z_IndexFunc_ScheduleAntenna_r0, h7, h8, ge_dec, Int.reduceNeg, ↓reduceIte]
   rw [findI_no hp]
 rw [callL_go (show AP 149 = some c_z_IndexFunc_ScheduleAntenna from rfl) rfl]
 simp (maxSteps := 1000000) only [go_sem, b_z_IndexFunc_ScheduleAntenna, reduceCtorEq, ↓reduceIte]
 exact key 0 _ _ (Nat.zero_le _) ⟨rfl, rfl, rfl, rfl, fun j y hj => absurd hj (Nat.not_lt_zero _), rfl⟩
theorem z_ContainsFunc_ScheduleAntenna {l : List A} {o : Own} {e : Nat} {g : FuncId} {caps : List AV} {p : A → Bool} (he : l = [] ∨ e = 3) (hl : (l.length : Int) < 9223372036854775808)
  (hg : ∀ a ∈ l, ∀ r q, callL AP (.fn g) (.agg (rowA a) :: caps) ((s.push r).push q) = some (B (p a), (s.push r).push q)) : callL AP (.fn 135) [.slice o e (l.map rowA), .fn g [] caps] s = some (B (l.any p), s) := by
 have h := z_IndexFunc_ScheduleAntenna (s := s.push ⟨[], []⟩) (o := o) (caps := caps) (g := g) he hl (fun a ha r => hg a ha _ r)
 rw [callL_go (show AP 135 = some c_z_ContainsFunc_ScheduleAntenna from rfl) rfl]
 simp (maxSteps := 1000000) only [go_sem, b_z_ContainsFunc_ScheduleAntenna, h, findI_nn, Nat.reduceEqDiff, reduceCtorEq, ↓reduceIte]
theorem z_IndexFunc_ScheduleRequest {l : List R} {o : Own} {e : Nat} {g : FuncId} {caps : List AV} {p : R → Bool} (he : l = [] ∨ e = 7) (hl : (l.length : Int) < 9223372036854775808)
  (hg : ∀ a ∈ l, ∀ r, callL AP (.fn g) (.agg (rowR a) :: caps) (s.push r) = some (B (p a), s.push r)) : callL AP (.fn 84) [.slice o e (l.map rowR), .fn g [] caps] s = some (I (findI p l), s) := by
 have key : ∀ k ρ m, k ≤ l.length → (ρ 0 = .slice o e (l.map rowR) ∧ ρ 1 = .fn g [] caps ∧ ρ 7 = I l.length ∧ ρ 8 = I k ∧ (∀ j y, j < k → l[j]? = some y → p y = false) ∧ m = s.push ⟨[], []⟩) → go AP f_z_IndexFunc_ScheduleRequest (.c (.loop b_z_IndexFunc_ScheduleRequest_l0) :: k_z_IndexFunc_ScheduleRequest_0) ⟨ρ, m⟩ = some (I (findI p l), s) := by
  refine loop_up l.length _ _ ?_ ?_
  ·rintro k ρ m hk ⟨h0, h1, h7, h8, hp, rfl⟩ ih
   obtain ⟨a, ha⟩ := get_some hk
   have he : e = 7 := by rcases he with h | h; (rw [h] at ha; simp at ha); exact h
   subst he
   have hr := ix_map (o := o) (es := 7) (f := rowR) ha
   simp (maxSteps := 1000000) only [go_sem, b_z_IndexFunc_ScheduleRequest_l0, h0, h1, h7, h8, lt_dec hk, hr, hg a (List.mem_of_getElem? ha), wrap_succ hk hl, Nat.reduceEqDiff, reduceCtorEq, ↓reduceIte]
   cases hpa : p a with
   | true =>
    simp only [cond_true]
    rw [findI_at ha hpa hp]
   | false =>
    simp only [cond_false]
    refine ih _ _ ?_
    refine ⟨h0, h1, h7, rfl, fun j y hj hy => ?_, rfl⟩
    by_cases e : j = k
    ·subst e; rw [ha] at hy; injection hy with hy; rw [← hy]; exact hpa
    ·exact hp j y (by omega) hy
  ·rintro ρ m ⟨h0, h1, h7, h8, hp, rfl⟩
   simp (maxSteps := 1000000) only [go_sem, b_z_IndexFunc_ScheduleRequest_l0, b_z_IndexFunc_ScheduleRequest_r0, h7, h8, ge_dec, Int.reduceNeg, ↓reduceIte]
   rw [findI_no hp]
 rw [callL_go (show AP 84 = some c_z_IndexFunc_ScheduleRequest from rfl) rfl]
 simp (maxSteps := 1000000) only [go_sem, b_z_IndexFunc_ScheduleRequest, reduceCtorEq, ↓reduceIte]
 exact key 0 _ _ (Nat.zero_le _) ⟨rfl, rfl, rfl, rfl, fun j y hj => absurd hj (Nat.not_lt_zero _), rfl⟩
theorem z_ContainsFunc_ScheduleRequest {l : List R} {o : Own} {e : Nat} {g : FuncId} {caps : List AV} {p : R → Bool} (he : l = [] ∨ e = 7) (hl : (l.length : Int) < 9223372036854775808)
  (hg : ∀ a ∈ l, ∀ r q, callL AP (.fn g) (.agg (rowR a) :: caps) ((s.push r).push q) = some (B (p a), (s.push r).push q)) : callL AP (.fn 54) [.slice o e (l.map rowR), .fn g [] caps] s = some (B (l.any p), s) := by
 have h := z_IndexFunc_ScheduleRequest (s := s.push ⟨[], []⟩) (o := o) (caps := caps) (g := g) he hl (fun a ha r => hg a ha _ r)
 rw [callL_go (show AP 54 = some c_z_ContainsFunc_ScheduleRequest from rfl) rfl]
 simp (maxSteps := 1000000) only [go_sem, b_z_ContainsFunc_ScheduleRequest, h, findI_nn, Nat.reduceEqDiff, reduceCtorEq, ↓reduceIte]
theorem z_IndexFunc_SchedulePass {l : List P} {o : Own} {e : Nat} {g : FuncId} {caps : List AV} {p : P → Bool} (he : l = [] ∨ e = 3) (hl : (l.length : Int) < 9223372036854775808)
  (hg : ∀ a ∈ l, ∀ r, callL AP (.fn g) (.agg (rowP a) :: caps) (s.push r) = some (B (p a), s.push r)) : callL AP (.fn 63) [.slice o e (l.map rowP), .fn g [] caps] s = some (I (findI p l), s) := by
 have key : ∀ k ρ m, k ≤ l.length → (ρ 0 = .slice o e (l.map rowP) ∧ ρ 1 = .fn g [] caps ∧ ρ 7 = I l.length ∧ ρ 8 = I k ∧ (∀ j y, j < k → l[j]? = some y → p y = false) ∧ m = s.push ⟨[], []⟩) → go AP f_z_IndexFunc_SchedulePass (.c (.loop b_z_IndexFunc_SchedulePass_l0) :: k_z_IndexFunc_SchedulePass_0) ⟨ρ, m⟩ = some (I (findI p l), s) := by
  refine loop_up l.length _ _ ?_ ?_
  ·rintro k ρ m hk ⟨h0, h1, h7, h8, hp, rfl⟩ ih
   obtain ⟨a, ha⟩ := get_some hk
   have he : e = 3 := by rcases he with h | h; (rw [h] at ha; simp at ha); exact h
   subst he
   have hr := ix_map (o := o) (es := 3) (f := rowP) ha
   simp (maxSteps := 1000000) only [go_sem, b_z_IndexFunc_SchedulePass_l0, h0, h1, h7, h8, lt_dec hk, hr, hg a (List.mem_of_getElem? ha), wrap_succ hk hl, Nat.reduceEqDiff, reduceCtorEq, ↓reduceIte]
   cases hpa : p a with
   | true =>
    simp only [cond_true]
    rw [findI_at ha hpa hp]
   | false =>
    simp only [cond_false]
    refine ih _ _ ?_
    refine ⟨h0, h1, h7, rfl, fun j y hj hy => ?_, rfl⟩
    by_cases e : j = k
    ·subst e; rw [ha] at hy; injection hy with hy; rw [← hy]; exact hpa
    ·exact hp j y (by omega) hy
  ·rintro ρ m ⟨h0, h1, h7, h8, hp, rfl⟩
   simp (maxSteps := 1000000) only [go_sem, b_z_IndexFunc_SchedulePass_l0, b_z_IndexFunc_SchedulePass_r0, h7, h8, ge_dec, Int.reduceNeg, ↓reduceIte]
   rw [findI_no hp]
 rw [callL_go (show AP 63 = some c_z_IndexFunc_SchedulePass from rfl) rfl]
 simp (maxSteps := 1000000) only [go_sem, b_z_IndexFunc_SchedulePass, reduceCtorEq, ↓reduceIte]
 exact key 0 _ _ (Nat.zero_le _) ⟨rfl, rfl, rfl, rfl, fun j y hj => absurd hj (Nat.not_lt_zero _), rfl⟩
theorem z_ContainsFunc_SchedulePass {l : List P} {o : Own} {e : Nat} {g : FuncId} {caps : List AV} {p : P → Bool} (he : l = [] ∨ e = 3) (hl : (l.length : Int) < 9223372036854775808)
  (hg : ∀ a ∈ l, ∀ r q, callL AP (.fn g) (.agg (rowP a) :: caps) ((s.push r).push q) = some (B (p a), (s.push r).push q)) : callL AP (.fn 121) [.slice o e (l.map rowP), .fn g [] caps] s = some (B (l.any p), s) := by
 have h := z_IndexFunc_SchedulePass (s := s.push ⟨[], []⟩) (o := o) (caps := caps) (g := g) he hl (fun a ha r => hg a ha _ r)
 rw [callL_go (show AP 121 = some c_z_ContainsFunc_SchedulePass from rfl) rfl]
 simp (maxSteps := 1000000) only [go_sem, b_z_ContainsFunc_SchedulePass, h, findI_nn, Nat.reduceEqDiff, reduceCtorEq, ↓reduceIte]
theorem z_IndexFunc_int {l : List Int} {o : Own} {e : Nat} {g : FuncId} {caps : List AV} {p : Int → Bool} (he : l = [] ∨ e = 1) (hl : (l.length : Int) < 9223372036854775808)
  (hg : ∀ a ∈ l, ∀ r, callL AP (.fn g) (I a :: caps) (s.push r) = some (B (p a), s.push r)) : callL AP (.fn 151) [.slice o e (l.map rowI), .fn g [] caps] s = some (I (findI p l), s) := by
 have key : ∀ k ρ m, k ≤ l.length → (ρ 0 = .slice o e (l.map rowI) ∧ ρ 1 = .fn g [] caps ∧ ρ 7 = I l.length ∧ ρ 8 = I k ∧ (∀ j y, j < k → l[j]? = some y → p y = false) ∧ m = s.push ⟨[], []⟩) → go AP f_z_IndexFunc_int (.c (.loop b_z_IndexFunc_int_l0) :: k_z_IndexFunc_int_0) ⟨ρ, m⟩ = some (I (findI p l), s) := by
  refine loop_up l.length _ _ ?_ ?_
  ·rintro k ρ m hk ⟨h0, h1, h7, h8, hp, rfl⟩ ih
   obtain ⟨a, ha⟩ := get_some hk
   have he : e = 1 := by rcases he with h | h; (rw [h] at ha; simp at ha); exact h
   subst he
   have hr := ix_map (o := o) (es := 1) (f := rowI) ha
   simp (maxSteps := 1000000) only [go_sem, b_z_IndexFunc_int_l0, h0, h1, h7, h8, lt_dec hk, hr, hg a (List.mem_of_getElem? ha), wrap_succ hk hl, Nat.reduceEqDiff, reduceCtorEq, ↓reduceIte]
   cases hpa : p a with
   | true =>
    simp only [cond_true]
    rw [findI_at ha hpa hp]
   | false =>
    simp only [cond_false]
    refine ih _ _ ?_
    refine ⟨h0, h1, h7, rfl, fun j y hj hy => ?_, rfl⟩
    by_cases e : j = k
    ·subst e; rw [ha] at hy; injection hy with hy; rw [← hy]; exact hpa
    ·exact hp j y (by omega) hy
  ·rintro ρ m ⟨h0, h1, h7, h8, hp, rfl⟩
   simp (maxSteps := 1000000) only [go_sem, b_z_IndexFunc_int_l0, b_z_IndexFunc_int_r0, h7, h8, ge_dec, Int.reduceNeg, ↓reduceIte]
   rw [findI_no hp]
 rw [callL_go (show AP 151 = some c_z_IndexFunc_int from rfl) rfl]
 simp (maxSteps := 1000000) only [go_sem, b_z_IndexFunc_int, reduceCtorEq, ↓reduceIte]
 exact key 0 _ _ (Nat.zero_le _) ⟨rfl, rfl, rfl, rfl, fun j y hj => absurd hj (Nat.not_lt_zero _), rfl⟩
theorem z_ContainsFunc_int {l : List Int} {o : Own} {e : Nat} {g : FuncId} {caps : List AV} {p : Int → Bool} (he : l = [] ∨ e = 1) (hl : (l.length : Int) < 9223372036854775808)
  (hg : ∀ a ∈ l, ∀ r q, callL AP (.fn g) (I a :: caps) ((s.push r).push q) = some (B (p a), (s.push r).push q)) : callL AP (.fn 142) [.slice o e (l.map rowI), .fn g [] caps] s = some (B (l.any p), s) := by
 have h := z_IndexFunc_int (s := s.push ⟨[], []⟩) (o := o) (caps := caps) (g := g) he hl (fun a ha r => hg a ha _ r)
 rw [callL_go (show AP 142 = some c_z_ContainsFunc_int from rfl) rfl]
 simp (maxSteps := 1000000) only [go_sem, b_z_ContainsFunc_int, h, findI_nn, Nat.reduceEqDiff, reduceCtorEq, ↓reduceIte]
theorem z_Index_int {l : List Int} {x : Int} {o : Own} {e : Nat} (he : l = [] ∨ e = 1) (hl : (l.length : Int) < 9223372036854775808) : callL AP (.fn 90) [.slice o e (l.map fun a => [I a]), I x] s = some (I (findI (fun a => decide (x = a)) l), s) := by
 have key : ∀ k ρ m, k ≤ l.length → (ρ 0 = .slice o e (l.map fun a => [I a]) ∧ ρ 1 = I x ∧ ρ 7 = I l.length ∧ ρ 8 = I k ∧ (∀ (j : Nat) (a : Int), j < k → l[j]? = some a → decide (x = a) = false) ∧ m = s.push ⟨[], []⟩) → go AP f_z_Index_int (.c (.loop b_z_Index_int_l0) :: k_z_Index_int_0) ⟨ρ, m⟩ = some (I (findI (fun a => decide (x = a)) l), s) := by
  refine loop_up l.length _ _ ?_ ?_
  ·rintro k ρ m hk ⟨h0, h1, h7, h8, hp, rfl⟩ ih
   obtain ⟨a, ha⟩ := get_some hk
   have he : e = 1 := by rcases he with h | h; (rw [h] at ha; simp at ha); exact h
   subst he
   have hr := ix_map (o := o) (es := 1) (f := fun a => [I a]) ha
   simp (maxSteps := 1000000) only [go_sem, b_z_Index_int_l0, h0, h1, h7, h8, lt_dec hk, hr, wrap_succ hk hl, Nat.reduceEqDiff, reduceCtorEq, ↓reduceIte]
   cases hpa : decide (x = a) with
   | true =>
    simp only [cond_true]
    rw [findI_at (p := fun a => decide (x = a)) ha hpa hp]
   | false =>
    simp only [cond_false]
    refine ih _ _ ?_
    refine ⟨h0, h1, h7, rfl, fun j y hj hy => ?_, rfl⟩
    by_cases e : j = k
    ·subst e; rw [ha] at hy; injection hy with hy; rw [← hy]; exact hpa
    ·exact hp j y (by omega) hy
  ·rintro ρ m ⟨h0, h1, h7, h8, hp, rfl⟩
   simp (maxSteps := 1000000) only [go_sem, b_z_Index_int_l0, b_z_Index_int_r0, h7, h8, ge_dec, Int.reduceNeg, ↓reduceIte]
   rw [findI_no (p := fun a => decide (x = a)) hp]
 rw [callL_go (show AP 90 = some c_z_Index_int from rfl) rfl]
 simp (maxSteps := 1000000) only [go_sem, b_z_Index_int, reduceCtorEq, ↓reduceIte]
 exact key 0 _ _ (Nat.zero_le _) ⟨rfl, rfl, rfl, rfl, fun j y hj => absurd hj (Nat.not_lt_zero _), rfl⟩
theorem z_Contains_int {l : List Int} {x : Int} {o : Own} {e : Nat} (he : l = [] ∨ e = 1) (hl : (l.length : Int) < 9223372036854775808) : callL AP (.fn 60) [.slice o e (l.map fun a => [I a]), I x] s = some (B (l.any fun a => decide (x = a)), s) := by
 have h := z_Index_int (s := s.push ⟨[], []⟩) (o := o) (x := x) he hl
 rw [callL_go (show AP 60 = some c_z_Contains_int from rfl) rfl]
 simp (maxSteps := 1000000) only [go_sem, b_z_Contains_int, h, findI_nn, Nat.reduceEqDiff, reduceCtorEq, ↓reduceIte]
theorem z_Index_bool {l : List Bool} {x : Bool} {o : Own} {e : Nat} (he : l = [] ∨ e = 1) (hl : (l.length : Int) < 9223372036854775808) : callL AP (.fn 46) [.slice o e (l.map fun a => [B a]), B x] s = some (I (findI (fun a => (x == a)) l), s) := by
 have key : ∀ k ρ m, k ≤ l.length → (ρ 0 = .slice o e (l.map fun a => [B a]) ∧ ρ 1 = B x ∧ ρ 7 = I l.length ∧ ρ 8 = I k ∧ (∀ (j : Nat) (a : Bool), j < k → l[j]? = some a → (x == a) = false) ∧ m = s.push ⟨[], []⟩) → go AP f_z_Index_bool (.c (.loop b_z_Index_bool_l0) :: k_z_Index_bool_0) ⟨ρ, m⟩ = some (I (findI (fun a => (x == a)) l), s) := by
  refine loop_up l.length _ _ ?_ ?_
  ·rintro k ρ m hk ⟨h0, h1, h7, h8, hp, rfl⟩ ih
   obtain ⟨a, ha⟩ := get_some hk
   have he : e = 1 := by rcases he with h | h; (rw [h] at ha; simp at ha); exact h
   subst he
   have hr := ix_map (o := o) (es := 1) (f := fun a => [B a]) ha
   simp (maxSteps := 1000000) only [go_sem, b_z_Index_bool_l0, h0, h1, h7, h8, lt_dec hk, hr, Bool.false_eq_true, wrap_succ hk hl, Nat.reduceEqDiff, reduceCtorEq, ↓reduceIte]
   cases hpa : (x == a) with
   | true =>
    simp only [cond_true]
    rw [findI_at (p := fun a => (x == a)) ha hpa hp]
   | false =>
    simp only [cond_false]
    refine ih _ _ ?_
    refine ⟨h0, h1, h7, rfl, fun j y hj hy => ?_, rfl⟩
    by_cases e : j = k
    ·subst e; rw [ha] at hy; injection hy with hy; rw [← hy]; exact hpa
    ·exact hp j y (by omega) hy
  ·rintro ρ m ⟨h0, h1, h7, h8, hp, rfl⟩
   simp (maxSteps := 1000000) only [go_sem, b_z_Index_bool_l0, b_z_Index_bool_r0, h7, h8, ge_dec, Int.reduceNeg, ↓reduceIte]
   rw [findI_no (p := fun a => (x == a)) hp]
 rw [callL_go (show AP 46 = some c_z_Index_bool from rfl) rfl]
 simp (maxSteps := 1000000) only [go_sem, b_z_Index_bool, reduceCtorEq, ↓reduceIte]
 exact key 0 _ _ (Nat.zero_le _) ⟨rfl, rfl, rfl, rfl, fun j y hj => absurd hj (Nat.not_lt_zero _), rfl⟩
theorem z_Contains_bool {l : List Bool} {x : Bool} {o : Own} {e : Nat} (he : l = [] ∨ e = 1) (hl : (l.length : Int) < 9223372036854775808) : callL AP (.fn 25) [.slice o e (l.map fun a => [B a]), B x] s = some (B (l.any fun a => (x == a)), s) := by
 have h := z_Index_bool (s := s.push ⟨[], []⟩) (o := o) (x := x) he hl
 rw [callL_go (show AP 25 = some c_z_Contains_bool from rfl) rfl]
 simp (maxSteps := 1000000) only [go_sem, b_z_Contains_bool, h, findI_nn, Nat.reduceEqDiff, reduceCtorEq, ↓reduceIte]
end
end Go.Ax.Sx.Sc

namespace Go.Ax.Sx.Sc
open Go.Ax
set_option linter.unusedSimpArgs false
set_option linter.unusedVariables false
section
variable {s : Sig}
theorem s_within {a b c : Int} : callL AP (.fn 115) [I a, I b, I c] s = some (B (wi a b c), s) := by
 rw [callL_go (show AP 115 = some c_s_within from rfl) rfl]
 simp (maxSteps := 1000000) only [go_sem, b_s_within, Nat.reduceEqDiff, reduceCtorEq, ↓reduceIte]
 unfold wi
 cases decide (b ≤ a) <;> cases decide (a ≤ c) <;> rfl
theorem s_unless {c : Bool} {e : Int} : callL AP (.fn 55) [B c, I e] s = some (I (cond c 0 e), s) := by
 rw [callL_go (show AP 55 = some c_s_unless from rfl) rfl]
 simp (maxSteps := 1000000) only [go_sem, b_s_unless, Nat.reduceEqDiff, reduceCtorEq, ↓reduceIte]
 cases c <;> rfl
theorem s_first {l : List Int} {o : Own} (hl : (l.length : Int) < 9223372036854775808) : callL AP (.fn 114) [.slice o 1 (ints l)] s = some (I (firstErr l), s) := by
 have key : ∀ k ρ m, k ≤ l.length → (ρ 5 = .slice o 1 (ints l) ∧ ρ 6 = I l.length ∧ ρ 7 = I k ∧ m = s.push ⟨[], []⟩) → go AP f_s_first (.c (.loop b_s_first_l0) :: k_s_first_0) ⟨ρ, m⟩ = some (I (firstErr (l.drop k)), s) := by
  refine loop_up l.length _ _ ?_ ?_
  ·rintro k ρ m hk ⟨h5, h6, h7, rfl⟩ ih
   obtain ⟨x, hx⟩ := get_some hk
   have hr := ix_sl (o := o) (es := 1) (ints_get hx)
   simp (maxSteps := 1000000) only [go_sem, b_s_first_l0, h5, h6, h7, lt_dec hk, hr, wrap_succ hk hl, Nat.reduceEqDiff, ↓reduceIte]
   rw [drop_get hx]
   by_cases h0 : x = 0
   ·subst h0
    simp only [ne_eq, not_true, decide_false, cond_false]
    refine (ih _ _ ?_).trans rfl
    exact ⟨h5, h6, rfl, rfl⟩
   ·simp only [ne_eq, h0, not_false_iff, decide_true, cond_true, firstErr, if_false]
  ·rintro ρ m ⟨h5, h6, h7, rfl⟩
   simp (maxSteps := 1000000) only [go_sem, b_s_first_l0, b_s_first_r0, h6, h7, ge_dec, ↓reduceIte]
   rw [List.drop_length]; rfl
 rw [callL_go (show AP 114 = some c_s_first from rfl) rfl]
 simp (maxSteps := 1000000) only [go_sem, b_s_first, ints_len, reduceCtorEq, ↓reduceIte]
 exact key 0 _ _ (Nat.zero_le _) ⟨rfl, rfl, rfl, rfl⟩
theorem s_first2 {a b : Int} : callL AP (.fn 114) [.slice .full 1 [[I a], [I b]]] s = some (I (firstErr [a, b]), s) := s_first (l := [a, b]) (show (2 : Int) < _ by decide)
theorem s_first3 {a b c : Int} : callL AP (.fn 114) [.slice .full 1 [[I a], [I b], [I c]]] s = some (I (firstErr [a, b, c]), s) := s_first (l := [a, b, c]) (show (3 : Int) < _ by decide)
theorem s_first4 {a b c d : Int} : callL AP (.fn 114) [.slice .full 1 [[I a], [I b], [I c], [I d]]] s = some (I (firstErr [a, b, c, d]), s) := s_first (l := [a, b, c, d]) (show (4 : Int) < _ by decide)
theorem nameFrom_get {k : Nat} {l : List UInt8} {c : UInt8} (h : l[k]? = some c) : nameFrom k (l.drop k) = (nameAt k c && nameFrom (k + 1) (l.drop (k + 1))) := by
 rw [drop_get h]; rfl
theorem nameAt_int {k : Nat} {c : UInt8} : nameAt k c = ((decide ((97 : Int) ≤ (c.toNat : Int)) && decide ((c.toNat : Int) ≤ 122)) || (decide ((65 : Int) ≤ (c.toNat : Int)) && decide ((c.toNat : Int) ≤ 90)) || (!decide ((k : Int) = 0) && (decide ((c.toNat : Int) = 45) || (decide ((48 : Int) ≤ (c.toNat : Int)) && decide ((c.toNat : Int) ≤ 57))))) := by
 unfold nameAt letter
 have e1 : decide (97 ≤ c.toNat) = decide ((97 : Int) ≤ (c.toNat : Int)) := by simp; omega
 have e2 : decide (c.toNat ≤ 122) = decide ((c.toNat : Int) ≤ 122) := by simp; omega
 have e3 : decide (65 ≤ c.toNat) = decide ((65 : Int) ≤ (c.toNat : Int)) := by simp; omega
 have e4 : decide (c.toNat ≤ 90) = decide ((c.toNat : Int) ≤ 90) := by simp; omega
 have e5 : decide (k = 0) = decide ((k : Int) = 0) := by simp
 have e6 : decide (c.toNat = 45) = decide ((c.toNat : Int) = 45) := by simp; omega
 have e7 : decide (48 ≤ c.toNat) = decide ((48 : Int) ≤ (c.toNat : Int)) := by simp; omega
 have e8 : decide (c.toNat ≤ 57) = decide ((c.toNat : Int) ≤ 57) := by simp; omega
 rw [e1, e2, e3, e4, e5, e6, e7, e8]
theorem s_isName {x : ByteArray} (hx : (x.size : Int) < 9223372036854775808) : callL AP (.fn 137) [S x] s = some (B (isName x), s) := by
 have hsz : x.data.size = x.size := rfl
 have hl : x.data.toList.length = x.size := by simp [hsz]
 have key : ∀ k ρ m, k ≤ x.size → (ρ 0 = S x ∧ ρ 7 = .slice .any 1 (byteCells x) ∧ ρ 8 = I x.size ∧ ρ 9 = I k ∧ m = s.push ⟨[], []⟩) → go AP f_s_isName (.c (.loop b_s_isName_l0) :: k_s_isName_0) ⟨ρ, m⟩ = some (B (nameFrom k (x.data.toList.drop k) && decide (1 ≤ x.size) && decide (x.size ≤ 12)), s) := by
  refine loop_up x.size _ _ ?_ ?_
  ·rintro k ρ m hk ⟨h0, h7, h8, h9, rfl⟩ ih
   obtain ⟨c, hc⟩ := get_some (l := x.data.toList) (k := k) (by omega)
   have hr := ix_sl (o := .any) (es := 1) (byteCells_get hc)
   rw [nameFrom_get hc, nameAt_int]
   simp (maxSteps := 1000000) only [go_sem, b_s_isName_l0, h7, h8, h9, lt_dec hk, hr, wrap_succ hk hx, Nat.reduceEqDiff, reduceCtorEq, ↓reduceIte]
   simp only [ne_eq, decide_not]
   have ih2 : ∀ (ρ' : Nat → AV), ρ' 0 = S x → ρ' 7 = AV.slice Own.any 1 (byteCells x) → ρ' 8 = I ↑x.size → ρ' 9 = I ↑(k + 1) → go AP f_s_isName (.c (.loop b_s_isName_l0) :: k_s_isName_0) ⟨ρ', s.push ⟨[], []⟩⟩ = some (B (nameFrom (k + 1) (List.drop (k + 1) x.data.toList) && decide (1 ≤ x.size) && decide (x.size ≤ 12)), s) := fun ρ' a b c d => ih ρ' _ ⟨a, b, c, d, rfl⟩
   generalize decide ((97 : Int) ≤ (c.toNat : Int)) = a1
   generalize decide ((c.toNat : Int) ≤ 122) = a2
   generalize decide ((65 : Int) ≤ (c.toNat : Int)) = a3
   generalize decide ((c.toNat : Int) ≤ 90) = a4
   generalize decide ((c.toNat : Int) = 45) = a5
   have e8 : decide ((c.toNat : Int) < 48) = !decide ((48 : Int) ≤ (c.toNat : Int)) := dec_lt _ _
   have e9 : decide ((57 : Int) < (c.toNat : Int)) = !decide ((c.toNat : Int) ≤ 57) := dec_lt _ _
   rw [e8, e9]
   generalize decide ((48 : Int) ≤ (c.toNat : Int)) = a6
   generalize decide ((c.toNat : Int) ≤ 57) = a7
   generalize decide ((k : Int) = 0) = a8
   generalize nameFrom (k + 1) (List.drop (k + 1) x.data.toList) = nf at *
   cases a1 <;> cases a2 <;> cases a3 <;> cases a4 <;> cases a5 <;> cases a6 <;> cases a7 <;> cases a8 <;> first
    | rfl
    | exact ih2 _ h0 h7 h8 rfl
  ·rintro ρ m ⟨h0, h7, h8, h9, rfl⟩
   simp (maxSteps := 1000000) only [go_sem, b_s_isName_l0, b_s_isName_r0, h0, h8, h9, ge_dec, Nat.reduceEqDiff, reduceCtorEq, ↓reduceIte]
   have e1 : List.drop x.size x.data.toList = [] := by rw [← hl, List.drop_length]
   have e2 : decide (x ≠ ⟨#[]⟩) = decide (1 ≤ x.size) := by
    by_cases h : x = ⟨#[]⟩
    ·subst h; rfl
    ·have : x.size ≠ 0 := fun e => h (ByteArray.ext (by have : x.data.size = 0 := e; exact Array.eq_empty_of_size_eq_zero this))
     simp only [ne_eq, h, not_false_iff, decide_true]
     exact (decide_eq_true (by omega)).symm
   have e3 : decide ((x.size : Int) ≤ 12) = decide (x.size ≤ 12) := by
    by_cases h : x.size ≤ 12
    ·rw [decide_eq_true h, decide_eq_true (by omega)]
    ·rw [decide_eq_false h, decide_eq_false (by omega)]
   rw [e1, e2, e3]; rfl
 rw [callL_go (show AP 137 = some c_s_isName from rfl) rfl]
 simp (maxSteps := 1000000) only [go_sem, b_s_isName, hsz, reduceCtorEq, ↓reduceIte]
 refine (key 0 _ _ (Nat.zero_le _) ⟨rfl, rfl, rfl, rfl, rfl⟩).trans ?_
 rfl
theorem s_slotsErr_1 {n x : Int} {d b : Nat} {a r : AV} (hs : Ok s) (hn : 1 ≤ n) (hn2 : n ≤ 200) (hb : s.box d b = some [I n, a, r]) : callL AP (.fn 150) [I x, .ptr d b 0] s = some (B (wi x 0 (n - 1)), s) := by
 rw [callL_go (show AP 150 = some c_s_slotsErr_1 from rfl) rfl]
 simp (maxSteps := 1000000) only [go_sem, b_s_slotsErr_1, box_keep hb, s_within, wrap_id (x := n - 1) (by omega) (by omega), Nat.reduceEqDiff, reduceCtorEq, Nat.reduceAdd, ↓reduceIte]
theorem slots_first {c a : Bool} : firstErr [cond c 0 2, cond a 0 9] = if c = true then (if a = true then 0 else 9) else 2 := by cases c <;> cases a <;> rfl
theorem s_slotsErr {n x y : Int} {o1 o2 : Own} {e1 e2 : Nat} {r1 r2 : List (List AV)} (hs : Ok s) (hn : 1 ≤ n) (hn2 : n ≤ 200) : callL AP (.fn 138) [.agg [I n, .slice o1 e1 r1, .slice o2 e2 r2], .agg [I x, I y]] s = some (I (slotsE n x y), s) := by
 rw [callL_go (show AP 138 = some c_s_slotsErr from rfl) rfl]
 have e : ∀ x r, callL AP (.fn 150) [I x, .ptr s.acts.length 0 0] (roS (s.push ⟨[I n, .slice o1 e1 r1, .slice o2 e2 r2] :: r, []⟩)) = some (B (wi x 0 (n - 1)), roS (s.push ⟨[I n, .slice o1 e1 r1, .slice o2 e2 r2] :: r, []⟩)) := fun x r => s_slotsErr_1 ok_roS hn hn2 (by rw [roS_box, box_at0])
 simp (maxSteps := 1000000) only [go_sem, b_s_slotsErr, s_unless, s_first2, e, slots_first, Nat.reduceEqDiff, Nat.reduceAdd, ↓reduceIte]
 unfold slotsE
 cases wi x 0 (n - 1) <;> cases wi y 0 (n - 1) <;> by_cases h : x ≤ y <;> simp [h]
theorem s_antennaErr_1 {a b : A} {d k : Nat} (hs : Ok s) (hb : s.box d k = some (rowA b)) : callL AP (.fn 136) [.agg (rowA a), .ptr d k 0] s = some (B (decide (a.name = b.name)), s) := by
 rw [callL_go (show AP 136 = some c_s_antennaErr_1 from rfl) rfl]
 simp (maxSteps := 1000000) only [go_sem, b_s_antennaErr_1, box_keep hb, Nat.reduceEqDiff, Nat.reduceAdd, ↓reduceIte]
theorem closed_first {n e : Int} : ∀ {l : List (Int × Int)}, l.foldl (fun e p => firstErr [e, slotsE n p.1 p.2]) e = if e = 0 then closedE n l else e
 | [] => by by_cases h : e = 0 <;> simp [closedE, h]
 | p :: l => by
  rw [List.foldl_cons, closed_first]
  by_cases h : e = 0
  ·subst h
   by_cases h2 : slotsE n p.1 p.2 = 0 <;> simp [firstErr, closedE, h2]
  ·simp [firstErr, h]
theorem ant_first {a b c d : Bool} : firstErr [cond a 0 4, cond b 0 5, cond c 0 2, cond d 0 8] = if a = true then if b = true then if c = true then if d = true then 0 else 8 else 2 else 5 else 4 := by
 cases a <;> cases b <;> cases c <;> cases d <;> rfl
theorem slice_take {α : Type} {f : α → List AV} {o : Own} {es k : Nat} {l : List α} (hk : k ≤ l.length) : ∃ o', sliceOp (.sl es) (.slice o es (l.map f)) none (some (.v (.int .i64 (k : Int)))) none = some (.slice o' es ((l.take k).map f)) := by
 refine ⟨slOwn o false (0 == 0 && k == (l.map f).length) (k == (l.map f).length && 0 < (l.map f).length), ?_⟩
 have h1 : hiOf (some (AV.v (.int .i64 (k : Int)))) false (l.map f).length (l.map f).length = some k := by
  simp [hiOf, asNat, hk]
 simp only [List.length_map] at h1
 simp [sliceOp, mxOf, h1, loOf, List.map_take]
theorem s_antennaErr {n : Int} {as : List A} {o1 o2 : Own} {e2 : Nat} {rs : List (List AV)} {k : Nat} {a : A} (hs : Ok s) (hce : a.cl.l = [] ∨ a.cl.e = 2) (hn : 1 ≤ n) (hn2 : n ≤ 200) (ha : as[k]? = some a) (hsz : (a.name.size : Int) < 9223372036854775808) (hl : as.length ≤ 4) (hcl : (a.cl.l.length : Int) < 9223372036854775808) :
  callL AP (.fn 116) [.agg [I n, .slice o1 3 (as.map rowA), .slice o2 e2 rs], I k] s = some (I (antE n as k a), s) := by
 have hk : k < as.length := (List.getElem?_eq_some_iff.1 ha).1
 obtain ⟨name, setup, ⟨oc, ec, cl⟩⟩ := a
 obtain ⟨o', ho'⟩ := slice_take (f := rowA) (o := o1) (es := 3) (l := as) (k := k) (by omega)
 have hix := ix_map (f := rowA) (o := o1) (es := 3) ha
 have hcf : ∀ r, callL AP (.fn 135) [.slice o' 3 ((as.take k).map rowA), .fn 136 [] [.ptr s.acts.length 1 0]] (s.push ⟨[I n, .slice o1 3 (as.map rowA), .slice o2 e2 rs] :: rowA ⟨name, setup, ⟨oc, ec, cl⟩⟩ :: r, []⟩) = some (B ((as.take k).any fun b => decide (b.name = name)), s.push ⟨[I n, .slice o1 3 (as.map rowA), .slice o2 e2 rs] :: rowA ⟨name, setup, ⟨oc, ec, cl⟩⟩ :: r, []⟩) := fun r => by
  refine z_ContainsFunc_ScheduleAntenna (.inr rfl) (by rw [List.length_take]; omega) fun b hb r1 r2 => ?_
  refine s_antennaErr_1 (b := ⟨name, setup, ⟨oc, ec, cl⟩⟩) (((hs.push _).push _).push _) ?_
  exact box_keep (box_keep box_at1 _) _
 have hnm : ∀ {m : Sig}, callL AP (.fn 137) [S name] m = some (B (isName name), m) := s_isName hsz
 rw [callL_go (show AP 116 = some c_s_antennaErr from rfl) rfl]
 simp (maxSteps := 1000000) only [go_sem, b_s_antennaErr, hs, ho', hix, hcf, hnm, s_unless, s_within, s_first4, ant_first, Nat.reduceEqDiff, Nat.reduceAdd, ↓reduceIte]
 generalize hE0 : (if isName name = true then if (!(as.take k).any fun b => decide (b.name = name)) = true then if wi setup 0 50 = true then if decide ((cl.length : Int) ≤ 6) = true then (0 : Int) else 8 else 2 else 5 else 4) = E0
 have hfin : (if E0 = 0 then closedE n cl else E0) = antE n as k ⟨name, setup, ⟨oc, ec, cl⟩⟩ := by
  have h6 : decide ((cl.length : Int) ≤ 6) = decide (cl.length ≤ 6) := by
   by_cases h : cl.length ≤ 6
   ·rw [decide_eq_true h, decide_eq_true (by omega)]
   ·rw [decide_eq_false h, decide_eq_false (by omega)]
  rw [← hE0, h6]
  unfold antE
  simp only
  cases isName name <;> cases ((as.take k).any fun b => decide (b.name = name)) <;> cases wi setup 0 50 <;> by_cases h : cl.length ≤ 6 <;> simp [h]
 have key : ∀ j ρ m, j ≤ cl.length → (ρ 2 = .ptr s.acts.length 0 0 ∧ ρ 7 = I ((cl.take j).foldl (fun e p => firstErr [e, slotsE n p.1 p.2]) E0) ∧ ρ 40 = .slice oc ec (cl.map rowG) ∧ ρ 41 = I cl.length ∧ ρ 42 = I j ∧ ∃ junk, m = s.push ⟨[I n, .slice o1 3 (as.map rowA), .slice o2 e2 rs] :: junk, []⟩) → go AP f_s_antennaErr (.c (.loop b_s_antennaErr_l0) :: k_s_antennaErr_0) ⟨ρ, m⟩ = some (I (antE n as k ⟨name, setup, ⟨oc, ec, cl⟩⟩), s) := by
  refine loop_up cl.length _ _ ?_ ?_
  ·rintro j ρ m hj ⟨h2, h7, h40, h41, h42, junk, rfl⟩ ih
   obtain ⟨p, hp⟩ := get_some hj
   have hec : ec = 2 := by rcases hce with h | h; (simp only at h; rw [h] at hp; simp at hp); exact h
   subst hec
   have hr := ix_map (f := rowG) (o := oc) (es := 2) hp
   simp (maxSteps := 1000000) only [go_sem, b_s_antennaErr_l0, h2, h7, h40, h41, h42, hs, lt_dec hj, hr, s_slotsErr (hs.push _) hn hn2, s_first2, wrap_succ hj hcl, Nat.reduceEqDiff, ↓reduceIte]
   refine ih _ _ ?_
   refine ⟨h2, ?_, h40, h41, rfl, _, rfl⟩
   rw [take_get hp, List.foldl_append]; rfl
  ·rintro ρ m ⟨h2, h7, h40, h41, h42, junk, rfl⟩
   rw [List.take_length, closed_first, hfin] at h7
   simp (maxSteps := 1000000) only [go_sem, b_s_antennaErr_l0, b_s_antennaErr_r0, h7, h41, h42, ge_dec, Nat.reduceEqDiff, ↓reduceIte]
 refine key 0 _ _ (Nat.zero_le _) ?_
 exact ⟨rfl, rfl, rfl, rfl, rfl, _, rfl⟩
theorem ants_first {n : Int} : ∀ {l : List Int} {e last : Int}, (l.foldl (fun (q : Int × Int) a => (firstErr [q.1, cond (wi a 0 (n - 1)) 0 6, cond (decide (q.2 < a)) 0 9], a)) (e, last)).1 = if e = 0 then antsE n last l else e
 | [], e, last => by by_cases h : e = 0 <;> simp [antsE, h]
 | a :: l, e, last => by
  rw [List.foldl_cons, ants_first]
  by_cases h : e = 0
  ·subst h
   cases h1 : wi a 0 (n - 1) <;> by_cases h2 : last < a <;> simp [firstErr, antsE, h1, h2]
  ·simp [firstErr, h]
theorem s_requestErr {n : Int} {as : List (List AV)} {r : R} {o1 o2 : Own} {e1 e2 : Nat} {rs : List (List AV)} (hs : Ok s) (hre : r.an.l = [] ∨ r.an.e = 1) (hn : 1 ≤ n) (hn2 : n ≤ 200) (hsz : (r.mis.size : Int) < 9223372036854775808) (hl : as.length ≤ 4) (hcl : (r.an.l.length : Int) < 9223372036854775808) :
  callL AP (.fn 117) [.agg [I n, .slice o1 e1 as, .slice o2 e2 rs], .agg (rowR r)] s = some (I (reqE n as.length r), s) := by
 obtain ⟨mis, lo, hi, len, val, ⟨oa, ea, an⟩, need⟩ := r
 have hnm : ∀ {m : Sig}, callL AP (.fn 137) [S mis] m = some (B (isName mis), m) := s_isName hsz
 rw [callL_go (show AP 117 = some c_s_requestErr from rfl) rfl]
 simp (maxSteps := 1000000) only [go_sem, b_s_requestErr, hnm, s_unless, s_within, s_first2, s_slotsErr (hs.push _) hn hn2, Nat.reduceEqDiff, Nat.reduceAdd, Int.reduceNeg, ↓reduceIte]
 simp only at hre hcl
 by_cases he : firstErr [cond (isName mis) 0 4, slotsE n lo hi] = 0
 case neg =>
  simp only [ne_eq, he, not_false_iff, decide_true, cond_true]
  congr 3
  unfold reqE
  cases h1 : isName mis
  ·simp [firstErr]
  ·rw [h1] at he
   simp only [firstErr, cond_true, if_true] at he ⊢
   by_cases h2 : slotsE n lo hi = 0
   ·exact absurd (by rw [if_pos h2]) he
   ·simp [h2]
 simp only [ne_eq, he, not_true, decide_false, cond_false]
 have h1 : isName mis = true := by
  cases h1 : isName mis
  ·rw [h1] at he; simp [firstErr] at he
  ·rfl
 have h2 : slotsE n lo hi = 0 := by
  rw [h1] at he
  by_cases h2 : slotsE n lo hi = 0
  ·exact h2
  ·simp [firstErr, h2] at he
 have hb : (0 ≤ lo ∧ lo ≤ n - 1) ∧ (0 ≤ hi ∧ hi ≤ n - 1) := by
  unfold slotsE at h2
  cases q1 : wi lo 0 (n - 1) <;> cases q2 : wi hi 0 (n - 1) <;> rw [q1, q2] at h2 <;> simp at h2
  exact ⟨wi_iff.1 q1, wi_iff.1 q2⟩
 rw [wrap_id (x := hi - lo) (by omega) (by omega), wrap_id (x := hi - lo + 1) (by omega) (by omega)]
 generalize hE0 : firstErr [cond (wi len 1 (hi - lo + 1) && wi val 0 100000) 0 2, cond (decide ((0 : Int) < (an.length : Int))) 0 10] = E0
 have hfin : ∀ e, (if E0 = 0 then antsE (as.length : Nat) (-1) an else E0) = e → firstErr [e, cond (wi need 1 an.length) 0 2] = reqE n as.length ⟨mis, lo, hi, len, val, ⟨oa, ea, an⟩, need⟩ := by
  intro e he
  subst he
  rw [← hE0]
  unfold reqE
  simp only [h1, h2, if_true]
  cases an with
  | nil => cases (wi len 1 (hi - lo + 1) && wi val 0 100000) <;> simp [firstErr]
  | cons x l =>
   have : decide ((0 : Int) < (((x :: l).length : Nat) : Int)) = true := decide_eq_true (by rw [List.length_cons]; omega)
   rw [this]
   cases (wi len 1 (hi - lo + 1) && wi val 0 100000)
   ·simp [firstErr]
   ·simp only [firstErr, cond_true, if_true]
    by_cases h3 : antsE (as.length : Nat) (-1) (x :: l) = 0
    ·cases h4 : wi need 1 ((x :: l).length : Nat) <;> simp [h3, h4]
    ·simp [h3]
 have key : ∀ j ρ m, j ≤ an.length → (ρ 2 = .ptr s.acts.length 0 0 ∧ ρ 3 = .ptr s.acts.length 1 0 ∧
   (∃ q : Int × Int, (an.take j).foldl (fun (q : Int × Int) a => (firstErr [q.1, cond (wi a 0 ((as.length : Nat) - 1)) 0 6, cond (decide (q.2 < a)) 0 9], a)) (E0, -1) = q ∧ ρ 5 = I q.1 ∧ ρ 7 = I q.2) ∧ ρ 49 = .slice oa ea (an.map rowI) ∧ ρ 50 = I an.length ∧ ρ 51 = I j ∧
   m = s.push ⟨[[I n, .slice o1 e1 as, .slice o2 e2 rs], [S mis, I lo, I hi, I len, I val, .slice oa ea (an.map rowI), I need]], []⟩) → go AP f_s_requestErr (.c (.loop b_s_requestErr_l0) :: k_s_requestErr_0) ⟨ρ, m⟩ = some (I (reqE n as.length ⟨mis, lo, hi, len, val, ⟨oa, ea, an⟩, need⟩), s) := by
  refine loop_up an.length _ _ ?_ ?_
  ·rintro j ρ m hj ⟨hr2, hr3, ⟨q, hq, h5, h7⟩, h49, h50, h51, rfl⟩ ih
   obtain ⟨x, hx⟩ := get_some hj
   have hec : ea = 1 := by rcases hre with h | h; (rw [h] at hx; simp at hx); exact h
   subst hec
   have hr := ix_map (f := rowI) (o := oa) (es := 1) hx
   simp (maxSteps := 1000000) only [go_sem, b_s_requestErr_l0, hr2, h5, h7, h49, h50, h51, lt_dec hj, hr, s_within, s_unless, s_first3, wrap_succ hj hcl, wrap_id (x := (as.length : Int) - 1) (by omega) (by omega), Nat.reduceEqDiff, Nat.reduceAdd, ↓reduceIte]
   refine ih _ _ ?_
   refine ⟨hr2, hr3, ⟨(firstErr [q.1, cond (wi x 0 ((as.length : Nat) - 1)) 0 6, cond (decide (q.2 < x)) 0 9], x), ?_, rfl, rfl⟩, h49, h50, rfl, rfl⟩
   rw [take_get hx, List.foldl_append, hq]; rfl
  ·rintro ρ m ⟨hr2, hr3, ⟨q, hq, h5, h7⟩, h49, h50, h51, rfl⟩
   rw [List.take_length] at hq
   have hq1 := ants_first (n := (as.length : Nat)) (l := an) (e := E0) (last := -1)
   rw [hq] at hq1
   simp (maxSteps := 1000000) only [go_sem, b_s_requestErr_l0, b_s_requestErr_r0, hr3, h5, h50, h51, ge_dec, s_within, s_unless, s_first2, Nat.reduceEqDiff, Nat.reduceAdd, ↓reduceIte]
   rw [hfin q.1 hq1.symm]
 refine key 0 _ _ (Nat.zero_le _) ?_
 exact ⟨rfl, rfl, ⟨_, rfl, rfl, rfl⟩, rfl, rfl, rfl, rfl⟩
abbrev MK (p : Int × Int × Int) : AV := .tuple [.agg [I p.1, I p.2.1], I p.2.2]
theorem firstAt_get {α : Type} {f : Nat → α → Int} {l : List α} {k : Nat} {x : α} (h : l[k]? = some x) : firstAt f k (l.drop k) = if f k x = 0 then firstAt f (k + 1) (l.drop (k + 1)) else some (k, f k x) := by
 rw [drop_get h]; rfl
theorem s_CheckWeek {w : W} (hs : Ok s) (hw : w.Ok) (hf : w.Few) : callL AP (.fn 83) [w.v] s = some (MK (weekE w), s) := by
 obtain ⟨n, ⟨o1, e1, as⟩, ⟨o2, e2, rs⟩⟩ := w
 have h4 : decide ((as.length : Int) ≤ 4) = decide (as.length ≤ 4) := by
  by_cases h : as.length ≤ 4
  ·rw [decide_eq_true h, decide_eq_true (by omega)]
  ·rw [decide_eq_false h, decide_eq_false (by omega)]
 have h12 : decide ((rs.length : Int) ≤ 12) = decide (rs.length ≤ 12) := by
  by_cases h : rs.length ≤ 12
  ·rw [decide_eq_true h, decide_eq_true (by omega)]
  ·rw [decide_eq_false h, decide_eq_false (by omega)]
 rw [callL_go (show AP 83 = some c_s_CheckWeek from rfl) rfl]
 simp (maxSteps := 1000000) only [go_sem, b_s_CheckWeek, hs, s_within, s_unless, s_first2, h4, h12, Nat.reduceEqDiff, Nat.reduceAdd, ↓reduceIte]
 unfold weekE
 simp only
 cases hn : wi n 1 200
 ·simp [firstErr]
 rw [wi_iff] at hn
 by_cases hsm : as.length ≤ 4 ∧ rs.length ≤ 12
 case neg =>
  have : (decide (as.length ≤ 4) && decide (rs.length ≤ 12)) = false := by
   cases h : (decide (as.length ≤ 4) && decide (rs.length ≤ 12))
   ·rfl
   ·exact absurd (by simpa using h) hsm
  simp [firstErr, this, hsm]
 have : (decide (as.length ≤ 4) && decide (rs.length ≤ 12)) = true := by simpa using hsm
 simp only [this, firstErr, cond_true, if_true, ne_eq, not_true, decide_false, cond_false, hsm, and_self]
 have k2 : ∀ j ρ m, j ≤ rs.length → (ρ 1 = .ptr s.acts.length 0 0 ∧ ρ 2 = .ptr s.acts.length 1 0 ∧ ρ 49 = .slice o2 e2 (rs.map rowR) ∧ ρ 50 = I rs.length ∧ ρ 51 = I j ∧
   ∃ junk, m = s.push ⟨[I n, .slice o1 e1 (as.map rowA), .slice o2 e2 (rs.map rowR)] :: [I 0, I 0] :: junk, []⟩) → go AP f_s_CheckWeek (.c (.loop b_s_CheckWeek_l0) :: k_s_CheckWeek_0) ⟨ρ, m⟩ = some (MK (match firstAt (fun _ r => reqE n as.length r) j (rs.drop j) with | some (k, e) => (2, k, e) | none => (0, 0, 0)), s) := by
  refine loop_up rs.length _ _ ?_ ?_
  ·rintro j ρ m hj ⟨h1, h2, h49, h50, h51, junk, rfl⟩ ih
   obtain ⟨x, hx⟩ := get_some hj
   have hxm := List.mem_of_getElem? hx
   have hec : e2 = 7 := by rcases hw.rs.1 with h | h; (simp only at h; rw [h] at hx; simp at hx); exact h
   subst hec
   have hr := ix_map (f := rowR) (o := o2) (es := 7) hx
   have m1 := hf.mis x hxm
   have m2 := hf.an x hxm
   have hq : ∀ r, callL AP (.fn 117) [.agg [I n, .slice o1 e1 (as.map rowA), .slice o2 7 (rs.map rowR)], .agg [S x.mis, I x.lo, I x.hi, I x.len, I x.val, .slice x.an.o x.an.e (x.an.l.map rowI), I x.need]] (s.push r) = some (I (reqE n as.length x), s.push r) := fun r => by
    have := s_requestErr (s := s.push r) (n := n) (as := as.map rowA) (r := x) (o1 := o1) (e1 := e1) (o2 := o2) (e2 := 7) (rs := rs.map rowR) (hs.push _) (hw.an x hxm).1 hn.1 hn.2 (by omega) (by rw [List.length_map]; exact hsm.1) (by omega)
    rw [List.length_map] at this
    exact this
   simp (maxSteps := 1000000) only [go_sem, b_s_CheckWeek_l0, h1, h2, h49, h50, h51, hs, lt_dec hj, hr, hq, wrap_succ hj (show (rs.length : Int) < _ by omega), Nat.reduceEqDiff, ↓reduceIte]
   rw [firstAt_get hx]
   by_cases h0 : reqE n as.length x = 0
   ·simp only [h0, ne_eq, not_true, decide_false, cond_false, if_true]
    refine ih _ _ ?_
    exact ⟨h1, h2, h49, h50, rfl, _, rfl⟩
   ·simp only [h0, ne_eq, not_false_iff, decide_true, cond_true, if_false]
  ·rintro ρ m ⟨h1, h2, h49, h50, h51, junk, rfl⟩
   simp (maxSteps := 1000000) only [go_sem, b_s_CheckWeek_l0, b_s_CheckWeek_r0, h2, h50, h51, hs, ge_dec, Nat.reduceEqDiff, ↓reduceIte]
   rw [List.drop_length]; rfl
 have k1 : ∀ j ρ m, j ≤ as.length → (ρ 1 = .ptr s.acts.length 0 0 ∧ ρ 2 = .ptr s.acts.length 1 0 ∧ ρ 34 = .slice o1 e1 (as.map rowA) ∧ ρ 35 = I as.length ∧ ρ 36 = I j ∧
   m = s.push ⟨[[I n, .slice o1 e1 (as.map rowA), .slice o2 e2 (rs.map rowR)], [I 0, I 0]], []⟩) → go AP f_s_CheckWeek (.c (.loop b_s_CheckWeek_l1) :: k_s_CheckWeek_1) ⟨ρ, m⟩ = some (MK (match firstAt (antE n as) j (as.drop j) with | some (k, e) => (1, k, e) | none => match firstAt (fun _ r => reqE n as.length r) 0 rs with | some (k, e) => (2, k, e) | none => (0, 0, 0)), s) := by
  refine loop_up as.length _ _ ?_ ?_
  ·rintro j ρ m hj ⟨h1, h2, h34, h35, h36, rfl⟩ ih
   obtain ⟨x, hx⟩ := get_some hj
   have hxm := List.mem_of_getElem? hx
   have hec : e1 = 3 := by rcases hw.as.1 with h | h; (simp only at h; rw [h] at hx; simp at hx); exact h
   subst hec
   have m1 := hf.name x hxm
   have m2 := hf.cl x hxm
   have hq : ∀ r, callL AP (.fn 116) [.agg [I n, .slice o1 3 (as.map rowA), .slice o2 e2 (rs.map rowR)], I j] (s.push r) = some (I (antE n as j x), s.push r) := fun r => s_antennaErr (hs.push _) (hw.cl x hxm).1 hn.1 hn.2 hx (by omega) hsm.1 (by omega)
   simp (maxSteps := 1000000) only [go_sem, b_s_CheckWeek_l1, h1, h2, h35, h36, hs, lt_dec hj, hq, wrap_succ hj (show (as.length : Int) < _ by omega), Nat.reduceEqDiff, ↓reduceIte]
   rw [firstAt_get hx]
   by_cases h0 : antE n as j x = 0
   ·simp only [h0, ne_eq, not_true, decide_false, cond_false, if_true]
    refine ih _ _ ?_
    exact ⟨h1, h2, h34, h35, rfl, rfl⟩
   ·simp only [h0, ne_eq, not_false_iff, decide_true, cond_true, if_false]
  ·rintro ρ m ⟨h1, h2, h34, h35, h36, rfl⟩
   simp (maxSteps := 1000000) only [go_sem, b_s_CheckWeek_l1, b_s_CheckWeek_r1, h1, h35, h36, ge_dec, Nat.reduceEqDiff, Nat.reduceAdd, ↓reduceIte]
   rw [List.drop_length]
   refine (k2 0 _ _ (Nat.zero_le _) ?_).trans rfl
   exact ⟨h1, h2, rfl, rfl, rfl, [], rfl⟩
 refine (k1 0 _ _ (Nat.zero_le _) ?_).trans rfl
 exact ⟨rfl, rfl, rfl, rfl, rfl, rfl⟩
end
end Go.Ax.Sx.Sc

/-
  The opened week: a row of 803 cells.
-/
namespace Go.Ax.Sx.Sc
open Go.Ax
def gr (f : Nat → Bool) : List AV := (List.range 800).map fun j => B (f j)
theorem gr_len {f : Nat → Bool} : (gr f).length = 800 := by simp [gr]
theorem gr_get {f : Nat → Bool} {j : Nat} (h : j < 800) : (gr f)[j]? = some (B (f j)) := by simp [gr, h]
theorem zeros_gr : zeros 800 = gr fun _ => false := by
 refine List.ext_getElem? fun i => ?_
 unfold zeros
 by_cases h : i < 800
 ·rw [gr_get h, List.getElem?_replicate, if_pos h]
 ·rw [List.getElem?_replicate, if_neg h, List.getElem?_eq_none (by rw [gr_len]; omega)]
theorem gr_set {f : Nat → Bool} {j : Nat} {b : Bool} (h : j < 800) : (gr f).set j (B b) = gr fun i => if i = j then b else f i := by
 refine List.ext_getElem? fun i => ?_
 by_cases hi : i < 800
 ·rw [gr_get hi, List.getElem?_set]
  by_cases e : j = i
  ·subst e; rw [if_pos rfl, if_pos (by rw [gr_len]; exact h)]; simp
  ·rw [if_neg e, gr_get hi, if_neg (fun q => e q.symm)]
 ·rw [List.getElem?_eq_none (by rw [List.length_set, gr_len]; omega), List.getElem?_eq_none (by rw [gr_len]; omega)]
theorem gr_cells {f : Nat → Bool} : (gr f).all AV.isCell = true := by
 rw [List.all_eq_true]
 intro c hc
 obtain ⟨j, _, rfl⟩ := List.mem_map.1 hc
 rfl
def wk (n : Int) (a r : AV) (f : Nat → Bool) : List AV := I n :: a :: r :: gr f
theorem overN_wk {n : Int} {a r : AV} {f : Nat → Bool} {j : Nat} {b : Bool} (h : j < 800) : overN (wk n a r f) (3 + j) [B b] = some (wk n a r fun i => if i = j then b else f i) := by
 rw [overN_eq, if_pos (by simp [wk, gr_len]; omega)]
 have : 3 + j = j + 1 + 1 + 1 := by omega
 rw [this]
 simp only [wk, setCells, List.set_cons_succ, gr_set h]
theorem wk_1 {n : Int} {a r : AV} {f : Nat → Bool} : (wk n a r f)[1]? = some a := rfl
theorem wk_2 {n : Int} {a r : AV} {f : Nat → Bool} : (wk n a r f)[2]? = some r := rfl
theorem wk_at {n : Int} {a r : AV} {f : Nat → Bool} {j : Nat} (h : j < 800) : (wk n a r f)[3 + j]? = some (B (f j)) := by
 have : 3 + j = j + 1 + 1 + 1 := by omega
 rw [this]
 simp only [wk, List.getElem?_cons_succ, gr_get h]
theorem close_wk {n : Int} {a r : AV} {f : Nat → Bool} (ha : a.close = some a) (hr : r.close = some r) : closeAll (wk n a r f) = some (wk n a r f) := by
 have : closeAll (gr f) = some (gr f) := by
  unfold gr
  generalize List.range 800 = l
  induction l with
  | nil => rfl
  | cons x l ih => simp only [List.map_cons, closeAll_cons, ih]; rfl
 simp only [wk, closeAll_cons, this, ha, hr]
 rfl
theorem chunks1 : ∀ (m : Nat) (l : List AV), m ≤ l.length → chunks 1 m l = (l.take m).map fun c => [c]
 | 0, l, _ => by simp [chunks]
 | m + 1, [], h => by simp at h
 | m + 1, x :: l, h => by
  simp only [chunks, List.drop_succ_cons, List.drop_zero, List.take_succ_cons, List.take_zero, List.map_cons]
  rw [chunks1 m l (by simpa using h)]
def seg (f : Nat → Bool) (j m : Nat) : List Bool := (List.range m).map fun q => f (j + q)
theorem seg_any {f : Nat → Bool} {j m : Nat} : ((seg f j m).any fun a => (true == a)) = (List.range m).any fun q => f (j + q) := by
 simp [seg, List.any_map, Function.comp_def]
theorem chunks_wk {n : Int} {a r : AV} {f : Nat → Bool} {j m : Nat} (h : j + m ≤ 800) : chunks 1 m ((wk n a r f).drop (3 + j)) = (seg f j m).map fun b => [B b] := by
 rw [chunks1 _ _ (by rw [List.length_drop]; simp [wk, gr_len]; omega)]
 refine List.ext_getElem? fun i => ?_
 simp only [seg, List.getElem?_map, List.map_map]
 by_cases hi : i < m
 ·have e : (wk n a r f)[3 + j + i]? = some (B (f (j + i))) := by rw [Nat.add_assoc]; exact wk_at (by omega)
  simp [List.getElem?_take, hi, List.getElem?_drop, e]
 ·simp [List.getElem?_take, hi]
def isClosed (a : A) (t : Int) : Bool := a.cl.l.any fun p => wi t p.1 p.2
def closedF (as : List A) (j : Nat) : Bool := match as[j / 200]? with
 | some a => isClosed a ((j % 200 : Nat) : Int)
 | none => false
end Go.Ax.Sx.Sc

namespace Go.Ax.Sx.Sc
open Go.Ax
set_option linter.unusedSimpArgs false
set_option linter.unusedVariables false
structure ReqOk (n : Int) (m : Nat) (r : R) : Prop where
 lo0 : 0 ≤ r.lo
 lohi : r.lo ≤ r.hi
 hin : r.hi ≤ n - 1
 len1 : 1 ≤ r.len
 lenhi : r.len ≤ r.hi - r.lo + 1
 val0 : 0 ≤ r.val
 val1 : r.val ≤ 100000
 an : r.an.l ≠ []
 anin : ∀ a ∈ r.an.l, 0 ≤ a ∧ a < m
 anord : r.an.l.Pairwise (· < ·)
 need1 : 1 ≤ r.need
 need2 : r.need ≤ r.an.l.length
 name : isName r.mis = true
structure AntOk (n : Int) (a : A) : Prop where
 name : isName a.name = true
 set0 : 0 ≤ a.setup
 set1 : a.setup ≤ 50
 cll : a.cl.l.length ≤ 6
 cl : ∀ p ∈ a.cl.l, 0 ≤ p.1 ∧ p.1 ≤ p.2 ∧ p.2 ≤ n - 1
structure WkOk (w : W) : Prop where
 n1 : 1 ≤ w.slots
 n2 : w.slots ≤ 200
 al : w.as.l.length ≤ 4
 rl : w.rs.l.length ≤ 12
 a : ∀ a ∈ w.as.l, AntOk w.slots a
 r : ∀ r ∈ w.rs.l, ReqOk w.slots w.as.l.length r
theorem slotsE_0 {n lo hi : Int} (h : slotsE n lo hi = 0) : 0 ≤ lo ∧ lo ≤ hi ∧ hi ≤ n - 1 := by
 unfold slotsE at h
 by_cases h1 : (wi lo 0 (n - 1) && wi hi 0 (n - 1)) = true
 ·rw [if_pos h1] at h
  simp only [Bool.and_eq_true, wi_iff] at h1
  by_cases h2 : lo ≤ hi
  ·omega
  ·rw [if_neg h2] at h; omega
 ·rw [if_neg h1] at h; omega
theorem closedE_0 {n : Int} : ∀ {l : List (Int × Int)}, closedE n l = 0 → ∀ p ∈ l, 0 ≤ p.1 ∧ p.1 ≤ p.2 ∧ p.2 ≤ n - 1
 | [], _ => by simp
 | p :: r, h => by
  simp only [closedE] at h
  by_cases h1 : slotsE n p.1 p.2 = 0
  ·rw [if_pos h1] at h
   intro q hq
   rcases List.mem_cons.1 hq with rfl | hq
   ·exact slotsE_0 h1
   ·exact closedE_0 h q hq
  ·rw [if_neg h1] at h; exact absurd h h1
theorem antsE_0 {n : Int} : ∀ {l : List Int} {last : Int}, antsE n last l = 0 → (∀ a ∈ l, 0 ≤ a ∧ a < n) ∧ l.Pairwise (· < ·) ∧ ∀ a ∈ l, last < a
 | [], _, _ => by simp
 | a :: r, last, h => by
  simp only [antsE] at h
  by_cases h1 : wi a 0 (n - 1) = true
  ·rw [if_pos h1] at h
   by_cases h2 : last < a
   ·rw [if_pos h2] at h
    obtain ⟨i1, i2, i3⟩ := antsE_0 h
    rw [wi_iff] at h1
    refine ⟨fun b hb => ?_, List.pairwise_cons.2 ⟨i3, i2⟩, fun b hb => ?_⟩
    ·rcases List.mem_cons.1 hb with rfl | hb
     ·omega
     ·exact i1 b hb
    ·rcases List.mem_cons.1 hb with rfl | hb
     ·exact h2
     ·have := i3 b hb; omega
   ·rw [if_neg h2] at h; omega
  ·rw [if_neg h1] at h; omega
theorem antE_0 {n : Int} {as : List A} {k : Nat} {a : A} (h : antE n as k a = 0) : AntOk n a := by
 unfold antE at h
 by_cases h1 : isName a.name = true
 ·rw [if_pos h1] at h
  by_cases h2 : ((as.take k).any fun b => decide (b.name = a.name)) = true
  ·rw [if_pos h2] at h; omega
  ·rw [if_neg h2] at h
   by_cases h3 : wi a.setup 0 50 = true
   ·rw [if_pos h3] at h
    by_cases h4 : a.cl.l.length ≤ 6
    ·rw [if_pos h4] at h
     rw [wi_iff] at h3
     exact ⟨h1, h3.1, h3.2, h4, closedE_0 h⟩
    ·rw [if_neg h4] at h; omega
   ·rw [if_neg h3] at h; omega
 ·rw [if_neg h1] at h; omega
theorem reqE_0 {n : Int} {m : Nat} {r : R} (h : reqE n m r = 0) : ReqOk n m r := by
 unfold reqE at h
 by_cases h1 : isName r.mis = true
 ·rw [if_pos h1] at h
  by_cases h2 : slotsE n r.lo r.hi = 0
  ·rw [if_pos h2] at h
   by_cases h3 : (wi r.len 1 (r.hi - r.lo + 1) && wi r.val 0 100000) = true
   ·rw [if_pos h3] at h
    by_cases h4 : r.an.l = []
    ·rw [if_pos h4] at h; omega
    ·rw [if_neg h4] at h
     by_cases h5 : antsE m (-1) r.an.l = 0
     ·rw [if_pos h5] at h
      by_cases h6 : wi r.need 1 r.an.l.length = true
      ·simp only [Bool.and_eq_true, wi_iff] at h3
       rw [wi_iff] at h6
       have e2 := slotsE_0 h2
       have e5 := antsE_0 h5
       exact ⟨e2.1, e2.2.1, e2.2.2, h3.1.1, h3.1.2, h3.2.1, h3.2.2, h4, e5.1, e5.2.1, h6.1, h6.2, h1⟩
      ·rw [if_neg h6] at h; omega
     ·rw [if_neg h5] at h; exact absurd h h5
   ·rw [if_neg h3] at h; omega
  ·rw [if_neg h2] at h; exact absurd h h2
 ·rw [if_neg h1] at h; omega
theorem firstAt_none {α : Type} {f : Nat → α → Int} : ∀ {l : List α} {k : Nat}, firstAt f k l = none → ∀ x ∈ l, ∃ j, f j x = 0
 | [], _, _ => by simp
 | x :: r, k, h => by
  simp only [firstAt] at h
  by_cases h1 : f k x = 0
  ·rw [if_pos h1] at h
   intro y hy
   rcases List.mem_cons.1 hy with rfl | hy
   ·exact ⟨k, h1⟩
   ·exact firstAt_none h y hy
  ·rw [if_neg h1] at h; cases h
theorem firstAt_some {α : Type} {f : Nat → α → Int} : ∀ {l : List α} {k j : Nat} {e : Int}, firstAt f k l = some (j, e) → e ≠ 0
 | [], _, _, _, h => by cases h
 | x :: r, k, j, e, h => by
  simp only [firstAt] at h
  by_cases h1 : f k x = 0
  ·rw [if_pos h1] at h; exact firstAt_some h
  ·rw [if_neg h1] at h
   injection h with h
   injection h with _ h
   rw [← h]; exact h1
theorem weekE_ok {w : W} (h : (weekE w).2.2 = 0) : WkOk w := by
 unfold weekE at h
 by_cases h1 : wi w.slots 1 200 = true
 ·rw [if_pos h1] at h
  by_cases h2 : w.as.l.length ≤ 4 ∧ w.rs.l.length ≤ 12
  ·rw [if_pos h2] at h
   cases h3 : firstAt (antE w.slots w.as.l) 0 w.as.l with
   | some q => obtain ⟨k, e⟩ := q; rw [h3] at h; exact absurd h (firstAt_some h3)
   | none =>
    rw [h3] at h
    simp only at h
    cases h4 : firstAt (fun _ r => reqE w.slots w.as.l.length r) 0 w.rs.l with
    | some q => obtain ⟨k, e⟩ := q; rw [h4] at h; exact absurd h (firstAt_some h4)
    | none =>
     rw [wi_iff] at h1
     exact ⟨h1.1, h1.2, h2.1, h2.2, fun a ha => (firstAt_none h3 a ha).elim fun _ e => antE_0 e, fun r hr => (firstAt_none h4 r hr).elim fun _ e => reqE_0 e⟩
  ·rw [if_neg h2] at h; simp at h
 ·rw [if_neg h1] at h; simp at h
section
variable {s : Sig}
abbrev NP : AV := .v (.pointer none)
theorem idx_ok {k : IntKind} {n : Int} {len : Nat} (h1 : 0 ≤ n) (h2 : n < len) : idx (.v (.int k n)) len = some n.toNat := by
 rw [idx_eq, if_pos ⟨h1, h2⟩]
theorem idx_nat {k : IntKind} {n len : Nat} (h2 : n < len) : idx (.v (.int k (n : Int))) len = some n := by
 rw [idx_ok (by omega) (by omega)]; rfl
theorem s_open_bad {w : W} (hs : Ok s) (hw : w.Ok) (hf : w.Few) (he : (weekE w).2.2 ≠ 0) : callL AP (.fn 52) [w.v] s = some (.tuple [NP, I (weekE w).2.2], s) := by
 have hc : ∀ r, callL AP (.fn 83) [w.v] (s.push r) = some (MK (weekE w), s.push r) := fun r => s_CheckWeek (hs.push _) hw hf
 generalize weekE w = q at *
 rw [callL_go (show AP 52 = some c_s_open from rfl) rfl]
 simp (maxSteps := 1000000) only [go_sem, b_s_open, hs, hc, he, ne_eq, not_false_iff, Nat.reduceEqDiff, Nat.reduceAdd, ↓reduceIte]
def clq (as : List A) (a t : Nat) : Bool := match as[a]? with
 | some x => isClosed x (t : Int)
 | none => false
theorem closedF_eq {as : List A} {j : Nat} : closedF as j = clq as (j / 200) (j % 200) := rfl
def OW (w : W) : AV := .eptr (wk w.slots (w.as.v rowA) (w.rs.v rowR) (closedF w.as.l)) 0
theorem gr_congr {f g : Nat → Bool} (h : ∀ a t, t < 200 → f (200 * a + t) = g (200 * a + t)) : f = g := by
 funext j
 have := h (j / 200) (j % 200) (Nat.mod_lt _ (by decide))
 have e : 200 * (j / 200) + j % 200 = j := Nat.div_add_mod j 200
 rwa [e] at this
theorem s_open {w : W} (hs : Ok s) (hw : w.Ok) (hf : w.Few) (he : (weekE w).2.2 = 0) : callL AP (.fn 52) [w.v] s = some (.tuple [OW w, I 0], s) := by
 have hok := weekE_ok he
 have hc : ∀ r, callL AP (.fn 83) [w.v] (s.push r) = some (MK (weekE w), s.push r) := fun r => s_CheckWeek (hs.push _) hw hf
 generalize weekE w = q at *
 obtain ⟨n, ⟨o1, e1, as⟩, ⟨o2, e2, rs⟩⟩ := w
 have ha1 : (AV.slice o1 e1 (as.map rowA)).close = some (AV.slice o1 e1 (as.map rowA)) := Sl.close (f := rowA) hw.as
 have hr1 : (AV.slice o2 e2 (rs.map rowR)).close = some (AV.slice o2 e2 (rs.map rowR)) := Sl.close (f := rowR) hw.rs
 have hal : as.length ≤ 4 := hok.al
 have hn1 : 1 ≤ n := hok.n1
 have hn2 : n ≤ 200 := hok.n2
 have kout : ∀ (i : Nat) ρ m, i ≤ as.length → (ρ 6 = .ptr s.acts.length 2 0 ∧ ρ 24 = .slice o1 e1 (as.map rowA) ∧ ρ 25 = I as.length ∧ ρ 26 = I i ∧
   ∃ f b0 b1 junk, m = s.push ⟨b0 :: b1 :: wk n (.slice o1 e1 (as.map rowA)) (.slice o2 e2 (rs.map rowR)) f :: junk, []⟩ ∧ ∀ a t, t < 200 → f (200 * a + t) = (decide (a < i) && clq as a t)) →
   go AP f_s_open (.c (.loop b_s_open_l0) :: k_s_open_0) ⟨ρ, m⟩ = some (.tuple [OW ⟨n, ⟨o1, e1, as⟩, ⟨o2, e2, rs⟩⟩, I 0], s) := by
  refine loop_up as.length _ _ ?_ ?_
  ·rintro i ρ m hi ⟨h6, h24, h25, h26, f, b0, b1, junk, rfl, hF⟩ ih
   obtain ⟨x, hx⟩ := get_some hi
   have hxm := List.mem_of_getElem? hx
   have hec : e1 = 3 := by rcases hw.as.1 with h | h; (simp only at h; rw [h] at hx; simp at hx); exact h
   subst hec
   have hr := ix_map (f := rowA) (o := o1) (es := 3) hx
   have hxo := hok.a x hxm
   have hclq : ∀ t, clq as i t = x.cl.l.any fun p => wi t p.1 p.2 := fun t => by simp only [clq, hx]; rfl
   obtain ⟨name, setup, ⟨oc, ec, cl⟩⟩ := x
   have hcx := (hw.cl _ hxm).1
   simp only at hcx hclq
   have hcl6 : cl.length ≤ 6 := hxo.cll
   have kmid : ∀ (j : Nat) ρ m, j ≤ cl.length → (ρ 6 = .ptr s.acts.length 2 0 ∧ ρ 7 = I i ∧ ρ 24 = .slice o1 3 (as.map rowA) ∧ ρ 25 = I as.length ∧ ρ 26 = I i ∧ ρ 32 = .slice oc ec (cl.map rowG) ∧ ρ 33 = I cl.length ∧ ρ 34 = I j ∧
     ∃ f b0 b1 junk, m = s.push ⟨b0 :: b1 :: wk n (.slice o1 3 (as.map rowA)) (.slice o2 e2 (rs.map rowR)) f :: junk, []⟩ ∧ ∀ a t, t < 200 → f (200 * a + t) = if a = i then (cl.take j).any (fun p => wi t p.1 p.2) else (decide (a < i) && clq as a t)) →
     go AP f_s_open (.c (.loop b_s_open_l1) :: k_s_open_1) ⟨ρ, m⟩ = some (.tuple [OW ⟨n, ⟨o1, 3, as⟩, ⟨o2, e2, rs⟩⟩, I 0], s) := by
    refine loop_up cl.length _ _ ?_ ?_
    ·rintro j ρ m hj ⟨h6, h7, h24, h25, h26, h32, h33, h34, f, b0, b1, junk, rfl, hF⟩ ih2
     obtain ⟨p, hp⟩ := get_some hj
     have hpm := List.mem_of_getElem? hp
     have hec : ec = 2 := by rcases hcx with h | h; (rw [h] at hp; simp at hp); exact h
     subst hec
     have hr := ix_map (f := rowG) (o := oc) (es := 2) hp
     obtain ⟨lo, hi'⟩ := p
     have hpo := hxo.cl _ hpm
     simp only at hpo
     have kin : ∀ (u : Int) ρ m, (ρ 6 = .ptr s.acts.length 2 0 ∧ ρ 7 = I i ∧ ρ 10 = .ptr s.acts.length (junk.length + 1 + 1 + 1) 0 ∧ ρ 11 = I u ∧ ρ 24 = .slice o1 3 (as.map rowA) ∧ ρ 25 = I as.length ∧ ρ 26 = I i ∧ ρ 32 = .slice oc 2 (cl.map rowG) ∧ ρ 33 = I cl.length ∧ ρ 34 = I j ∧ lo ≤ u ∧ u ≤ hi' + 1 ∧
       ∃ f b0 b1, m = s.push ⟨b0 :: b1 :: wk n (.slice o1 3 (as.map rowA)) (.slice o2 e2 (rs.map rowR)) f :: (junk ++ [[I lo, I hi']]), []⟩ ∧ ∀ a t, t < 200 → f (200 * a + t) = if a = i then ((cl.take j).any (fun p => wi t p.1 p.2) || (decide (lo ≤ (t : Int)) && decide ((t : Int) < u))) else (decide (a < i) && clq as a t)) →
       go AP f_s_open (.c (.loop b_s_open_l2) :: k_s_open_2) ⟨ρ, m⟩ = some (.tuple [OW ⟨n, ⟨o1, 3, as⟩, ⟨o2, e2, rs⟩⟩, I 0], s) := by
      refine loop_upto hi' _ _ ?_ ?_
      ·rintro u ρ m hu ⟨h6, h7, h10, h11, h24, h25, h26, h32, h33, h34, hlo, hhi, f, b0, b1, rfl, hF⟩ ih3
       obtain ⟨v, rfl⟩ : ∃ v : Nat, u = v := ⟨u.toNat, by omega⟩
       have hd : decide ((v : Int) ≤ hi') = true := decide_eq_true hu
       have hi1 : idx (.v (.int .i64 (i : Int))) 4 = some i := idx_nat (by omega)
       have hi2 : idx (.v (.int .i64 (v : Int))) 200 = some v := idx_nat (by omega)
       have ho : overN (wk n (.slice o1 3 (as.map rowA)) (.slice o2 e2 (rs.map rowR)) f) (0 + 3 + i * 200 + v * 1) [B true] = some (wk n (.slice o1 3 (as.map rowA)) (.slice o2 e2 (rs.map rowR)) fun q => if q = i * 200 + v then true else f q) := by
        rw [show 0 + 3 + i * 200 + v * 1 = 3 + (i * 200 + v) by omega]; exact overN_wk (by omega)
       simp (maxSteps := 1000000) only [go_sem, b_s_open_l2, h6, h7, h10, h11, hs, hd, hi1, hi2, ho, wrap_id (x := (v : Int) + 1) (by omega) (by omega), Nat.reduceEqDiff, Nat.reduceAdd, ↓reduceIte]
       refine ih3 _ _ ?_
       refine ⟨h6, h7, h10, rfl, h24, h25, h26, h32, h33, h34, by omega, by omega, _, b0, b1, rfl, fun a t ht => ?_⟩
       show (if 200 * a + t = i * 200 + v then true else f (200 * a + t)) = _
       rw [hF a t ht]
       by_cases ha : a = i
       ·subst ha
        rw [if_pos rfl, if_pos rfl]
        by_cases htv : t = v
        ·subst htv
         have e1 : decide ((t : Int) < (t : Int) + 1) = true := decide_eq_true (by omega)
         have e2 : 200 * a + t = a * 200 + t := by omega
         rw [if_pos e2, decide_eq_true hlo, e1]; simp
        ·have e2 : ¬ 200 * a + t = a * 200 + v := by omega
         have e3 : decide ((t : Int) < (v : Int) + 1) = decide ((t : Int) < v) := by
          by_cases h : (t : Int) < v
          ·rw [decide_eq_true h, decide_eq_true (by omega)]
          ·rw [decide_eq_false h, decide_eq_false (by omega)]
         rw [if_neg e2, e3]
       ·have e2 : ¬ 200 * a + t = i * 200 + v := by omega
        rw [if_neg ha, if_neg ha, if_neg e2]
      ·rintro u ρ m hu ⟨h6, h7, h10, h11, h24, h25, h26, h32, h33, h34, hlo, hhi, f, b0, b1, rfl, hF⟩
       have hd : decide (u ≤ hi') = false := decide_eq_false (by omega)
       simp (maxSteps := 1000000) only [go_sem, b_s_open_l2, b_s_open_r2, h10, h11, h34, hd, wrap_succ hj (show (cl.length : Int) < _ by omega), Nat.reduceEqDiff, Nat.reduceAdd, ↓reduceIte]
       refine ih2 _ _ ?_
       refine ⟨h6, h7, h24, h25, h26, h32, h33, rfl, f, b0, b1, _, rfl, fun a t ht => ?_⟩
       rw [hF a t ht, take_get hp, List.any_append]
       have : u = hi' + 1 := by omega
       subst this
       have e : decide ((t : Int) < hi' + 1) = decide ((t : Int) ≤ hi') := by
        by_cases h : (t : Int) ≤ hi'
        ·rw [decide_eq_true h, decide_eq_true (by omega)]
        ·rw [decide_eq_false h, decide_eq_false (by omega)]
       simp [wi, e]
     simp (maxSteps := 1000000) only [go_sem, b_s_open_l1, h32, h33, h34, hs, lt_dec hj, hr, Nat.reduceEqDiff, Nat.reduceAdd, ↓reduceIte]
     refine kin lo _ _ ?_
     refine ⟨h6, h7, rfl, rfl, h24, h25, h26, h32, h33, h34, by omega, by omega, f, b0, b1, rfl, fun a t ht => ?_⟩
     rw [hF a t ht]
     have : (decide (lo ≤ (t : Int)) && decide ((t : Int) < lo)) = false := by
      by_cases h : lo ≤ (t : Int)
      ·rw [decide_eq_false (show ¬ (t : Int) < lo by omega), Bool.and_false]
      ·rw [decide_eq_false h]; rfl
     rw [this, Bool.or_false]
    ·rintro ρ m ⟨h6, h7, h24, h25, h26, h32, h33, h34, f, b0, b1, junk, rfl, hF⟩
     simp (maxSteps := 1000000) only [go_sem, b_s_open_l1, b_s_open_r1, h26, h33, h34, ge_dec, wrap_succ hi (show (as.length : Int) < _ by omega), Nat.reduceEqDiff, ↓reduceIte]
     refine ih _ _ ?_
     refine ⟨h6, h24, h25, rfl, f, b0, b1, _, rfl, fun a t ht => ?_⟩
     rw [hF a t ht, List.take_length]
     by_cases ha : a = i
     ·subst ha; rw [if_pos rfl, decide_eq_true (by omega), Bool.true_and, hclq]
     ·rw [if_neg ha]
      congr 1
      by_cases h : a < i
      ·rw [decide_eq_true h, decide_eq_true (by omega)]
      ·rw [decide_eq_false h, decide_eq_false (by omega)]
   simp (maxSteps := 1000000) only [go_sem, b_s_open_l0, h24, h25, h26, hs, lt_dec hi, hr, Nat.reduceEqDiff, Nat.reduceAdd, ↓reduceIte]
   refine kmid 0 _ _ (Nat.zero_le _) ?_
   refine ⟨h6, rfl, h24, h25, h26, rfl, rfl, rfl, f, b0, b1, _, rfl, fun a t ht => ?_⟩
   rw [hF a t ht]
   by_cases ha : a = i
   ·subst ha; rw [if_pos rfl, decide_eq_false (by omega)]; simp
   ·rw [if_neg ha]
  ·rintro ρ m ⟨h6, h24, h25, h26, f, b0, b1, junk, rfl, hF⟩
   simp (maxSteps := 1000000) only [go_sem, b_s_open_l0, b_s_open_r0, h6, h25, h26, ge_dec, close_wk ha1 hr1, Nat.reduceEqDiff, ↓reduceIte]
   have : f = closedF as := gr_congr fun a t ht => by
    rw [hF a t ht, closedF_eq, show (200 * a + t) / 200 = a by omega, show (200 * a + t) % 200 = t by omega]
    by_cases h : a < as.length
    ·rw [decide_eq_true h, Bool.true_and]
    ·rw [decide_eq_false h, Bool.false_and, clq, List.getElem?_eq_none (by omega)]
   rw [this]; rfl
 rw [callL_go (show AP 52 = some c_s_open from rfl) rfl]
 have hz : overN (I 0 :: .slice .nilS 0 [] :: .slice .nilS 0 [] :: zeros 800) 0 [I n, .slice o1 e1 (as.map rowA), .slice o2 e2 (rs.map rowR)] = some (wk n (.slice o1 e1 (as.map rowA)) (.slice o2 e2 (rs.map rowR)) fun _ => false) := by
  rw [zeros_gr, overN_eq, if_pos (by simp [gr_len])]; rfl
 have hfit : fitN 803 (wk n (.slice o1 e1 (as.map rowA)) (.slice o2 e2 (rs.map rowR)) fun _ => false) = true := by
  rw [fitN_iff]; refine ⟨by simp [wk, gr_len], ?_⟩
  simp [wk, AV.isCell, gr_cells]
 have hfit2 : fitN 803 (I 0 :: .slice .nilS 0 [] :: .slice .nilS 0 [] :: zeros 800) = true := by
  rw [fitN_iff, zeros_gr]; refine ⟨by simp [gr_len], ?_⟩
  simp [AV.isCell, gr_cells]
 simp (maxSteps := 1000000) only [go_sem, b_s_open, hs, hc, he, ne_eq, not_true, hz, hfit, Nat.reduceEqDiff, Nat.reduceAdd, ↓reduceIte]
 refine kout 0 _ _ (Nat.zero_le _) ?_
 exact ⟨rfl, rfl, rfl, rfl, _, _, _, [], rfl, fun a t _ => by simp⟩
end
end Go.Ax.Sx.Sc

namespace Go.Ax.Sx.Sc
open Go.Ax
set_option linter.unusedSimpArgs false
set_option linter.unusedVariables false
instance : Inhabited R := ⟨⟨ByteArray.empty, 0, 0, 0, 0, ⟨.nilS, 0, []⟩, 0⟩⟩
def W.rq (w : W) (i : Int) : R := (w.rs.l[i.toNat]?).getD default
def W.stp (w : W) (a : Int) : Int := ((w.as.l[a.toNat]?).map (·.setup)).getD 0
theorem W.rq_get {w : W} {i : Int} (h0 : 0 ≤ i) (h : i < w.rs.l.length) : w.rs.l[i.toNat]? = some (w.rq i) := by
 obtain ⟨x, hx⟩ := get_some (l := w.rs.l) (k := i.toNat) (by omega)
 rw [W.rq, hx]; rfl
theorem W.rq_mem {w : W} {i : Int} (h0 : 0 ≤ i) (h : i < w.rs.l.length) : w.rq i ∈ w.rs.l := List.mem_of_getElem? (W.rq_get h0 h)
structure PIn (w : W) (p : P) : Prop where
 r0 : 0 ≤ p.req
 r1 : p.req < w.rs.l.length
 s0 : 0 ≤ p.start
 s1 : p.start ≤ 200
 an : ∀ a ∈ p.an.l, 0 ≤ a ∧ a < w.as.l.length
 ok : p.an.ok 1
 len : (p.an.l.length : Int) < 9223372036854775808
structure Wk (w : W) : Prop where
 ok : w.Ok
 few : w.Few
 v : WkOk w
def endP (w : W) (p : P) : Int := p.start + (w.rq p.req).len
def clash (w : W) (a b : P) : Bool := a.an.l.any fun n => (b.an.l.any fun m => decide (n = m)) && decide (b.start - endP w a < (if (w.rq a.req).mis = (w.rq b.req).mis then 0 else w.stp n))
def conf (w : W) (a b : P) : Bool := if a.req = b.req then true else if b.start < a.start then clash w b a else clash w a b
def openB (w : W) (a st len : Int) : Bool := match w.as.l[a.toNat]? with
 | some x => !(List.range len.toNat).any fun q => isClosed x (st + q)
 | none => true
section
variable {s : Sig} {w : W}
theorem slice_wk {n : Int} {a r : AV} {f : Nat → Bool} {i st len : Nat} (hi : i < 4) (h : st + len ≤ 200) : sliceOp (.arr 200 1) (.eptr (wk n a r f) (3 + i * 200)) (some (I (st : Int))) (some (I ((st + len : Nat) : Int))) none = some (.slice .any 1 ((seg f (i * 200 + st) len).map fun b => [B b])) := by
 have h1 : hiOf (some (I ((st + len : Nat) : Int))) false 200 200 = some (st + len) := by simp [hiOf, asNat]; omega
 have h2 : loOf (some (I (st : Int))) (st + len) = some st := by simp [loOf, asNat]; omega
 have h3 : 3 + i * 200 + 200 * 1 ≤ (wk n a r f).length := by simp [wk, gr_len]; omega
 have h4 : chunks 1 (st + len - st) ((wk n a r f).drop (3 + i * 200 + st * 1)) = (seg f (i * 200 + st) len).map fun b => [B b] := by
  rw [show st + len - st = len by omega, show 3 + i * 200 + st * 1 = 3 + (i * 200 + st) by omega]
  exact chunks_wk (by omega)
 simp only [sliceOp, h1, h2, Option.isSome_none, Bool.false_eq_true, if_false, Option.bind_some, h3, if_true, h4]
theorem seg_len {f : Nat → Bool} {j m : Nat} : (seg f j m).length = m := by simp [seg]
theorem any_range_congr {m : Nat} {f g : Nat → Bool} (h : ∀ q, q < m → f q = g q) : (List.range m).any f = (List.range m).any g := by
 rw [Bool.eq_iff_iff]
 simp only [List.any_eq_true, List.mem_range]
 constructor <;> rintro ⟨q, h1, h2⟩ <;> exact ⟨q, h1, by simpa [h q h1] using h2⟩
theorem w_isOpen {a st len : Int} (hw : Wk w) (h0 : 0 ≤ a) (h1 : a < w.as.l.length) (h2 : 0 ≤ st) (h3 : 0 ≤ len) (h4 : st + len ≤ 200) :
  callL AP (.fn 119) [OW w, I a, I st, I len] s = some (B (openB w a st len), s) := by
 have hal := hw.v.al
 obtain ⟨i, rfl⟩ : ∃ i : Nat, a = i := ⟨a.toNat, by omega⟩
 obtain ⟨t, rfl⟩ : ∃ i : Nat, st = i := ⟨st.toNat, by omega⟩
 obtain ⟨m, rfl⟩ : ∃ i : Nat, len = i := ⟨len.toNat, by omega⟩
 have hi1 : idx (.v (.int .i64 (i : Int))) 4 = some i := idx_nat (by omega)
 have hsl := slice_wk (n := w.slots) (a := w.as.v rowA) (r := w.rs.v rowR) (f := closedF w.as.l) (i := i) (st := t) (len := m) (by omega) (by omega)
 have hw2 : IntKind.i64.wrap ((t : Int) + (m : Int)) = ((t + m : Nat) : Int) := by rw [wrap_id] <;> omega
 have hcb : ∀ r, callL AP (.fn 25) [.slice .any 1 ((seg (closedF w.as.l) (i * 200 + t) m).map fun b => [B b]), B true] (s.push r) = some (B ((seg (closedF w.as.l) (i * 200 + t) m).any fun a => (true == a)), s.push r) := fun r => z_Contains_bool (.inr rfl) (by rw [seg_len]; omega)
 rw [callL_go (show AP 119 = some c_w_isOpen from rfl) rfl]
 simp only [OW]
 simp only [Sl.v] at hsl hcb
 simp (maxSteps := 1000000) only [go_sem, b_w_isOpen, hi1, hsl, hw2, hcb, Nat.reduceEqDiff, reduceCtorEq, Nat.reduceAdd, ↓reduceIte]
 rw [seg_any]
 congr 4
 unfold openB
 obtain ⟨x, hx⟩ := get_some (l := w.as.l) (k := i) (by omega)
 simp only [Int.toNat_natCast, hx]
 congr 1
 refine any_range_congr fun q hq => ?_
 rw [closedF_eq, show (i * 200 + t + q) / 200 = i by omega, show (i * 200 + t + q) % 200 = t + q by omega]
 simp only [clq, hx]
 rfl
theorem ix_rs (hw : Wk w) {i : Int} (h0 : 0 ≤ i) (h1 : i < w.rs.l.length) : indexAddrOp none 7 (.slice w.rs.o w.rs.e (w.rs.l.map rowR)) (I i) = some (.eptr (rowR (w.rq i)) 0) := by
 have := Sl.ix (f := rowR) hw.ok.rs (W.rq_get h0 h1)
 rwa [show ((i.toNat : Nat) : Int) = i by omega] at this
theorem ix_as (hw : Wk w) {i : Int} (h0 : 0 ≤ i) (h1 : i < w.as.l.length) : ∃ a, w.as.l[i.toNat]? = some a ∧ w.stp i = a.setup ∧ indexAddrOp none 3 (.slice w.as.o w.as.e (w.as.l.map rowA)) (I i) = some (.eptr (rowA a) 0) := by
 obtain ⟨x, hx⟩ := get_some (l := w.as.l) (k := i.toNat) (by omega)
 have := Sl.ix (f := rowA) hw.ok.as hx
 refine ⟨x, hx, by rw [W.stp, hx]; rfl, ?_⟩
 rwa [show ((i.toNat : Nat) : Int) = i by omega] at this
theorem Wk.rq (hw : Wk w) {i : Int} (h0 : 0 ≤ i) (h1 : i < w.rs.l.length) : ReqOk w.slots w.as.l.length (w.rq i) := hw.v.r _ (W.rq_mem h0 h1)
theorem Wk.stp (hw : Wk w) {i : Int} (h0 : 0 ≤ i) (h1 : i < w.as.l.length) : 0 ≤ w.stp i ∧ w.stp i ≤ 50 := by
 obtain ⟨x, hx, he, _⟩ := ix_as hw h0 h1
 have := hw.v.a x (List.mem_of_getElem? hx)
 rw [he]; exact ⟨this.set0, this.set1⟩
theorem Wk.len (hw : Wk w) {i : Int} (h0 : 0 ≤ i) (h1 : i < w.rs.l.length) : 1 ≤ (w.rq i).len ∧ (w.rq i).len ≤ 200 := by
 have h := hw.rq h0 h1
 have := hw.v.n2
 exact ⟨h.len1, by have := h.lenhi; have := h.lo0; have := h.hin; omega⟩
theorem w_end {p : P} (hs : Ok s) (hw : Wk w) (h0 : 0 ≤ p.req) (h1 : p.req < w.rs.l.length) (h2 : 0 ≤ p.start) (h3 : p.start ≤ 200) : callL AP (.fn 144) [OW w, .agg (rowP p)] s = some (I (endP w p), s) := by
 have hl := hw.len h0 h1
 rw [callL_go (show AP 144 = some c_w_end from rfl) rfl]
 simp only [OW]
 simp (maxSteps := 1000000) only [go_sem, b_w_end, wk_2, ix_rs hw h0 h1, wrap_id (x := p.start + (w.rq p.req).len) (by omega) (by omega), Nat.reduceEqDiff, reduceCtorEq, Nat.reduceAdd, ↓reduceIte]
 rfl
theorem w_conflict_1 {a b : P} {n : Int} {d1 d2 d3 d4 b1 b2 b3 b4 : Nat} {c : Bool} (hs : Ok s) (hw : Wk w) (ha : PIn w a) (hb : PIn w b) (hn0 : 0 ≤ n) (hn1 : n < w.as.l.length)
  (e1 : s.box d1 b1 = some [OW w]) (e2 : s.box d2 b2 = some [B c]) (e3 : s.box d3 b3 = some (rowP b)) (e4 : s.box d4 b4 = some (rowP a)) :
  callL AP (.fn 143) [I n, .ptr d1 b1 0, .ptr d2 b2 0, .ptr d3 b3 0, .ptr d4 b4 0] s = some (B ((b.an.l.any fun m => decide (n = m)) && decide (b.start - endP w a < (if c = true then 0 else w.stp n))), s) := by
 obtain ⟨x, hx, hst, hix⟩ := ix_as hw hn0 hn1
 have hl := hw.len ha.r0 ha.r1
 have h3 := hb.s0
 have h4 := hb.s1
 have h5 := ha.s0
 have h6 := ha.s1
 have hc : ∀ r, callL AP (.fn 60) [.slice b.an.o b.an.e (b.an.l.map fun a => [I a]), I n] (s.push r) = some (B (b.an.l.any fun m => decide (n = m)), s.push r) := fun r => z_Contains_int hb.ok.1 hb.len
 have he : ∀ r, callL AP (.fn 144) [OW w, .agg (rowP a)] (roS (s.push r)) = some (I (endP w a), roS (s.push r)) := fun r => w_end ok_roS hw ha.r0 ha.r1 ha.s0 ha.s1
 have hend : 0 ≤ endP w a ∧ endP w a ≤ 400 := by unfold endP; omega
 rw [callL_go (show AP 143 = some c_w_conflict_1 from rfl) rfl]
 simp only [OW] at e1 he ⊢
 simp (maxSteps := 1000000) only [go_sem, b_w_conflict_1, box_keep e1, box_keep e2, box_keep e3, box_keep e4, wk_1, hix, hc, Nat.reduceEqDiff, reduceCtorEq, Nat.reduceAdd, ↓reduceIte]
 simp only [rowP, Sl.v] at he
 cases c <;> simp (maxSteps := 1000000) only [go_sem, he, wrap_id (x := b.start - endP w a) (by omega) (by omega), hst, Bool.false_eq_true, Nat.reduceEqDiff, ↓reduceIte]
theorem w_conflict {a b : P} (hs : Ok s) (hw : Wk w) (ha : PIn w a) (hb : PIn w b) : callL AP (.fn 123) [OW w, .agg (rowP a), .agg (rowP b)] s = some (B (conf w a b), s) := by
 have key : ∀ (a b : P) (junk : List (List AV)), PIn w a → PIn w b → callL AP (.fn 142) [.slice a.an.o a.an.e (a.an.l.map rowI), .fn 143 [] [.ptr s.acts.length 0 0, .ptr s.acts.length 3 0, .ptr s.acts.length 2 0, .ptr s.acts.length 1 0]] (s.push ⟨[OW w] :: rowP a :: rowP b :: [B (decide ((w.rq a.req).mis = (w.rq b.req).mis))] :: junk, []⟩) = some (B (clash w a b), s.push ⟨[OW w] :: rowP a :: rowP b :: [B (decide ((w.rq a.req).mis = (w.rq b.req).mis))] :: junk, []⟩) := by
  intro a b junk ha hb
  refine z_ContainsFunc_int ha.ok.1 ha.len fun n hn r q => ?_
  have hn' := ha.an n hn
  have bx : ∀ {k : Nat} {cs : List AV}, ([OW w] :: rowP a :: rowP b :: [B (decide ((w.rq a.req).mis = (w.rq b.req).mis))] :: junk)[k]? = some cs → (((s.push ⟨[OW w] :: rowP a :: rowP b :: [B (decide ((w.rq a.req).mis = (w.rq b.req).mis))] :: junk, []⟩).push r).push q).box s.acts.length k = some cs := fun h => box_keep (box_keep (by rw [box_push]; exact h) _) _
  rw [w_conflict_1 (((hs.push _).push _).push _) hw ha hb hn'.1 hn'.2 (bx rfl) (bx rfl) (bx rfl) (bx rfl)]
  simp only [decide_eq_true_eq]
 rw [callL_go (show AP 123 = some c_w_conflict from rfl) rfl]
 simp only [OW] at key ⊢
 have ra := ix_rs hw ha.r0 ha.r1
 have rb := ix_rs hw hb.r0 hb.r1
 simp (maxSteps := 1000000) only [go_sem, b_w_conflict, hs, wk_2, ra, rb, Nat.reduceEqDiff, Nat.reduceAdd, ↓reduceIte]
 unfold conf
 by_cases h1 : a.req = b.req
 ·simp only [h1, decide_true, cond_true, if_true]
 ·simp only [h1, decide_false, cond_false, if_false]
  by_cases h2 : b.start < a.start
  ·have k := key b a [] hb ha
   simp only [rowP, Sl.v] at k
   simp only [h2, decide_true, cond_true, if_true]
   simp (maxSteps := 1000000) only [go_sem, k, ↓reduceIte]
  ·have k := key a b [] ha hb
   simp only [rowP, Sl.v] at k
   simp only [h2, decide_false, cond_false, if_false]
   simp (maxSteps := 1000000) only [go_sem, k, ↓reduceIte]
theorem w_conflicts_1 {a b : P} {d1 d2 b1 b2 : Nat} (hs : Ok s) (hw : Wk w) (ha : PIn w a) (hb : PIn w b) (e1 : s.box d1 b1 = some [OW w]) (e2 : s.box d2 b2 = some (rowP b)) :
  callL AP (.fn 122) [.agg (rowP a), .ptr d1 b1 0, .ptr d2 b2 0] s = some (B (conf w a b), s) := by
 have h := fun r => w_conflict (hs.push r) hw ha hb
 rw [callL_go (show AP 122 = some c_w_conflicts_1 from rfl) rfl]
 simp only [rowP, Sl.v] at e2 h ⊢
 simp (maxSteps := 1000000) only [go_sem, b_w_conflicts_1, box_keep e1, box_keep e2, h, Nat.reduceEqDiff, Nat.reduceAdd, ↓reduceIte]
def confs (w : W) (p : P) (l : List P) : Bool := l.any fun o => conf w o p
theorem w_conflicts {p : P} {l : List P} {o : Own} {e : Nat} (hs : Ok s) (hw : Wk w) (hp : PIn w p) (hl : ∀ x ∈ l, PIn w x) (he : l = [] ∨ e = 3) (hn : (l.length : Int) < 9223372036854775808) :
  callL AP (.fn 86) [OW w, .agg (rowP p), .slice o e (l.map rowP)] s = some (B (confs w p l), s) := by
 have h : ∀ r, callL AP (.fn 121) [.slice o e (l.map rowP), .fn 122 [] [.ptr s.acts.length 0 0, .ptr s.acts.length 1 0]] (s.push ⟨[OW w] :: rowP p :: r, []⟩) = some (B (confs w p l), s.push ⟨[OW w] :: rowP p :: r, []⟩) := fun r =>
  z_ContainsFunc_SchedulePass he hn fun a ha r q => w_conflicts_1 (((hs.push _).push _).push _) hw (hl a ha) hp (box_keep (box_keep box_at0 _) _) (box_keep (box_keep box_at1 _) _)
 rw [callL_go (show AP 86 = some c_w_conflicts from rfl) rfl]
 simp only [OW, rowP, Sl.v] at h ⊢
 simp (maxSteps := 1000000) only [go_sem, b_w_conflicts, h, Nat.reduceEqDiff, Nat.reduceAdd, ↓reduceIte]
theorem w_requestErr {n : Int} (hw : Wk w) : callL AP (.fn 124) [OW w, I n] s = some (I (cond (wi n 0 (w.rs.l.length - 1)) 0 6), s) := by
 have := hw.v.rl
 rw [callL_go (show AP 124 = some c_w_requestErr from rfl) rfl]
 simp only [OW]
 simp (maxSteps := 1000000) only [go_sem, b_w_requestErr, wk_2, wrap_id (x := (w.rs.l.length : Int) - 1) (by omega) (by omega), s_within, s_unless, Nat.reduceEqDiff, reduceCtorEq, Nat.reduceAdd, ↓reduceIte]
end
end Go.Ax.Sx.Sc
