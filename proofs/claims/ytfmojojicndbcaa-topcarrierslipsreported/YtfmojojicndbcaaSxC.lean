/-
  How plain data look to the executor; loops over slices.
-/
import Derived.Test.YtfmojojicndbcaaSxB
namespace Go.Ax.Sx

abbrev I (n : Int) : AV := .v (.int .i64 n)
abbrev B (b : Bool) : AV := .v (.bool b)

/-- a number of the model's int -/
def inI (x : Int) : Prop := -9223372036854775808 ≤ x ∧ x < 9223372036854775808

def ints (l : List Int) : List (List AV) := l.map fun n => [I n]
theorem ints_len {l : List Int} : (ints l).length = l.length := by simp [ints]
theorem ints_get {l : List Int} {k : Nat} {x : Int} (h : l[k]? = some x) : (ints l)[k]? = some [I x] := by simp [ints, h]
theorem ints_nil : ints [] = [] := rfl
theorem ints_cons {x : Int} {l : List Int} : ints (x :: l) = [I x] :: ints l := rfl

theorem ediv_uniq {n b q : Int} (hb : 0 < b) (h1 : b * q ≤ n) (h2 : n < b * q + b) : n / b = q := by
  have e := Int.mul_ediv_add_emod n b
  have a1 := Int.emod_nonneg n (show b ≠ 0 by omega)
  have a2 := Int.emod_lt_of_pos n hb
  have k1 : b * q < b * (n / b + 1) := by rw [Int.mul_add]; omega
  have k2 : b * (n / b) < b * (q + 1) := by rw [Int.mul_add]; omega
  have := Int.lt_of_mul_lt_mul_left k1 (by omega)
  have := Int.lt_of_mul_lt_mul_left k2 (by omega)
  omega

theorem tdiv_pos {n b : Int} (hb : 0 < b) : (if n.tmod b < 0 then n.tdiv b - 1 else n.tdiv b) = n / b := by
  have a1 := Int.tmod_lt_of_pos n hb
  have a2 := Int.lt_tmod_of_pos n hb
  have e := Int.mul_tdiv_add_tmod n b
  split
  · exact (ediv_uniq hb (by rw [Int.mul_sub]; omega) (by rw [Int.mul_sub]; omega)).symm
  · exact (ediv_uniq hb (by omega) (by omega)).symm

theorem tmod_pos {n b : Int} (hb : 0 < b) : (if n.tmod b < 0 then n.tmod b + b else n.tmod b) = n % b := by
  have h := tdiv_pos (n := n) hb
  have h1 := Int.mul_ediv_add_emod n b
  have h2 := Int.mul_tdiv_add_tmod n b
  rw [← h] at h1
  split
  · rename_i hc
    rw [if_pos hc, Int.mul_sub] at h1; omega
  · rename_i hc
    rw [if_neg hc] at h1; omega

theorem tdiv_bound {n b : Int} (hb : 0 < b) (m : Int) (h1 : -m ≤ n) (h2 : n ≤ m) : -m ≤ n.tdiv b ∧ n.tdiv b ≤ m ∧ -b < n.tmod b ∧ n.tmod b < b := by
  have a1 := Int.tmod_lt_of_pos n hb
  have a2 := Int.lt_tmod_of_pos n hb
  rcases Int.lt_or_le n 0 with hn | hn
  · have e1 : n.tdiv b = -((-n) / b) := by
      rw [Int.tdiv_eq_ediv_of_nonneg (a := -n) (by omega) |>.symm, Int.neg_tdiv]; omega
    have := Int.ediv_le_self b (show 0 ≤ -n by omega)
    have := Int.ediv_nonneg (show 0 ≤ -n by omega) (show 0 ≤ b by omega)
    omega
  · have h2 : n.tdiv b = n / b := Int.tdiv_eq_ediv_of_nonneg hn
    have := Int.ediv_le_self b hn
    have := Int.ediv_nonneg hn (show 0 ≤ b by omega)
    omega

theorem ediv_bound {n b : Int} (hb : 0 < b) (m : Int) (h1 : -m ≤ n) (h2 : n ≤ m) : -m ≤ n / b ∧ n / b ≤ m := by
  have h := Int.mul_ediv_add_emod n b
  have a1 := Int.emod_nonneg n (show b ≠ 0 by omega)
  have a2 := Int.emod_lt_of_pos n hb
  constructor
  · apply Int.le_ediv_of_mul_le hb
    by_cases hm : 0 ≤ m
    · have := Int.mul_le_mul_of_nonneg_left (show (1:Int) ≤ b by omega) hm
      rw [Int.neg_mul]; omega
    · omega
  · apply Int.ediv_le_of_le_mul hb
    by_cases hm : 0 ≤ m
    · have := Int.mul_le_mul_of_nonneg_left (show (1:Int) ≤ b by omega) hm
      omega
    · omega

/-! ### Loops -/
section
variable {AP : FuncId → Option AFn} {F : AExit → St → Option (AV × Sig)} {L : ACode} {ks : List K}

/-- A loop that counts up to N: what it leads to, from each count on. -/
theorem loop_up (N : Nat) (P : Nat → (Nat → AV) → Sig → Prop) (R : Nat → Option (AV × Sig))
    (step : ∀ k ρ m, k < N → P k ρ m → (∀ ρ' m', P (k + 1) ρ' m' → go AP F (.c (.loop L) :: ks) ⟨ρ', m'⟩ = R (k + 1)) → go AP F (.c L :: .lp L :: ks) ⟨ρ, m⟩ = R k)
    (last : ∀ ρ m, P N ρ m → go AP F (.c L :: .lp L :: ks) ⟨ρ, m⟩ = R N) :
    ∀ k ρ m, k ≤ N → P k ρ m → go AP F (.c (.loop L) :: ks) ⟨ρ, m⟩ = R k := by
  intro k ρ m hk hP
  induction h : N - k generalizing k ρ m with
  | zero =>
    have e : k = N := by omega
    subst e
    rw [go_loop]; exact last ρ m hP
  | succ n ih =>
    rw [go_loop]
    exact step k ρ m (by omega) hP (fun ρ' m' hP' => ih (k + 1) ρ' m' (by omega) hP' (by omega))

/-- A loop that counts up to hi, over whole numbers. -/
theorem loop_upto (hi : Int) (P : Int → (Nat → AV) → Sig → Prop) (R : Int → Option (AV × Sig))
    (step : ∀ i ρ m, i ≤ hi → P i ρ m → (∀ ρ' m', P (i + 1) ρ' m' → go AP F (.c (.loop L) :: ks) ⟨ρ', m'⟩ = R (i + 1)) → go AP F (.c L :: .lp L :: ks) ⟨ρ, m⟩ = R i)
    (last : ∀ i ρ m, hi < i → P i ρ m → go AP F (.c L :: .lp L :: ks) ⟨ρ, m⟩ = R i) :
    ∀ i ρ m, P i ρ m → go AP F (.c (.loop L) :: ks) ⟨ρ, m⟩ = R i := by
  intro i ρ m hP
  induction h : (hi + 1 - i).toNat generalizing i ρ m with
  | zero => rw [go_loop]; exact last i ρ m (by omega) hP
  | succ n ih =>
    rw [go_loop]
    exact step i ρ m (by omega) hP (fun ρ' m' hP' => ih (i + 1) ρ' m' hP' (by omega))

/-- The same, where what it leads to is only said to be there. -/
theorem loop_ex (N : Nat) (P : Nat → (Nat → AV) → Sig → Prop) (R : Option (AV × Sig) → Prop)
    (step : ∀ k ρ m, k < N → P k ρ m → (∀ ρ' m', P (k + 1) ρ' m' → R (go AP F (.c (.loop L) :: ks) ⟨ρ', m'⟩)) → R (go AP F (.c L :: .lp L :: ks) ⟨ρ, m⟩))
    (last : ∀ ρ m, P N ρ m → R (go AP F (.c L :: .lp L :: ks) ⟨ρ, m⟩)) :
    ∀ k ρ m, k ≤ N → P k ρ m → R (go AP F (.c (.loop L) :: ks) ⟨ρ, m⟩) := by
  intro k ρ m hk hP
  induction h : N - k generalizing k ρ m with
  | zero =>
    have e : k = N := by omega
    subst e
    rw [go_loop]; exact last ρ m hP
  | succ n ih =>
    rw [go_loop]
    exact step k ρ m (by omega) hP (fun ρ' m' hP' => ih (k + 1) ρ' m' (by omega) hP' (by omega))
theorem loop_exi (hi : Int) (P : Int → (Nat → AV) → Sig → Prop) (R : Option (AV × Sig) → Prop)
    (step : ∀ i ρ m, i ≤ hi → P i ρ m → (∀ ρ' m', P (i + 1) ρ' m' → R (go AP F (.c (.loop L) :: ks) ⟨ρ', m'⟩)) → R (go AP F (.c L :: .lp L :: ks) ⟨ρ, m⟩))
    (last : ∀ i ρ m, hi < i → P i ρ m → R (go AP F (.c L :: .lp L :: ks) ⟨ρ, m⟩)) :
    ∀ i ρ m, P i ρ m → R (go AP F (.c (.loop L) :: ks) ⟨ρ, m⟩) := by
  intro i ρ m hP
  induction h : (hi + 1 - i).toNat generalizing i ρ m with
  | zero => rw [go_loop]; exact last i ρ m (by omega) hP
  | succ n ih =>
    rw [go_loop]
    exact step i ρ m (by omega) hP (fun ρ' m' hP' => ih (i + 1) ρ' m' hP' (by omega))

theorem drop_get {α : Type} {l : List α} {k : Nat} {x : α} (h : l[k]? = some x) : l.drop k = x :: l.drop (k + 1) := by
  have hk := (List.getElem?_eq_some_iff.1 h).1
  rw [List.drop_eq_getElem_cons hk]; congr 1
  exact (List.getElem?_eq_some_iff.1 h).2
theorem get_some {α : Type} {l : List α} {k : Nat} (h : k < l.length) : ∃ x, l[k]? = some x := ⟨l[k], List.getElem?_eq_getElem h⟩
theorem take_get {α : Type} {l : List α} {k : Nat} {x : α} (h : l[k]? = some x) : l.take (k + 1) = l.take k ++ [x] := by
  rw [List.take_add_one, h]; rfl
theorem lt_dec {k n : Nat} (h : k < n) : decide ((k : Int) < (n : Int)) = true := by simp; omega
theorem ge_dec (n : Nat) : decide ((n : Int) < (n : Int)) = false := by simp
end

theorem dec_lt (a b : Int) : decide (b < a) = !decide (a ≤ b) := by
  by_cases h : a ≤ b
  · simp [h]
  · simp [h]; omega

/-! ### Boxes behind others -/
section
variable {α : Type} {l r : List α} {x x1 x2 x3 y : α}
theorem at_len : (l ++ x :: r)[l.length]? = some x := by simp
theorem at_len1 : (l ++ x1 :: x :: r)[l.length + 1]? = some x := by simp
theorem at_len2 : (l ++ x1 :: x2 :: x :: r)[l.length + 1 + 1]? = some x := by
  rw [List.getElem?_append_right (by omega)]; simp [show l.length + 1 + 1 - l.length = 2 by omega]
theorem at_len3 : (l ++ x1 :: x2 :: x3 :: x :: r)[l.length + 1 + 1 + 1]? = some x := by
  rw [List.getElem?_append_right (by omega)]; simp [show l.length + 1 + 1 + 1 - l.length = 3 by omega]
theorem set_len : (l ++ x :: r).set l.length y = l ++ y :: r := by simp
theorem set_len1 : (l ++ x1 :: x :: r).set (l.length + 1) y = l ++ x1 :: y :: r := by
  rw [List.set_append_right _ _ (by omega)]; simp
theorem set_len2 : (l ++ x1 :: x2 :: x :: r).set (l.length + 1 + 1) y = l ++ x1 :: x2 :: y :: r := by
  rw [List.set_append_right _ _ (by omega)]; simp [show l.length + 1 + 1 - l.length = 2 by omega]
theorem set_len3 : (l ++ x1 :: x2 :: x3 :: x :: r).set (l.length + 1 + 1 + 1) y = l ++ x1 :: x2 :: x3 :: y :: r := by
  rw [List.set_append_right _ _ (by omega)]; simp [show l.length + 1 + 1 + 1 - l.length = 3 by omega]
theorem len_app : (l ++ [x]).length = l.length + 1 := by simp
theorem len_app2 : (l ++ [x, x1]).length = l.length + 1 + 1 := by simp
theorem len_app3 : (l ++ [x, x1, x2]).length = l.length + 1 + 1 + 1 := by simp
end
attribute [go_sem] at_len at_len1 at_len2 at_len3 set_len set_len1 set_len2 set_len3 len_app len_app2 len_app3 List.append_assoc

/-! ### Lists that are built by append -/

/-- what a list that was built by append is to others -/
def accV (es : Nat) : List (List AV) → AV
  | [] => .slice .nilS 0 []
  | x :: r => .slice .any es (x :: r)

def Acc (d es : Nat) (xs : List (List AV)) (x : AV) (og : Option Nat) (toks : List (Option Nat)) : Prop :=
  match og with
  | none => xs = [] ∧ x = .slice .nilS 0 []
  | some g => xs ≠ [] ∧ x = .slice (.tok d g) es xs ∧ toks[g]? = some (some xs.length)

theorem Acc.start {d es : Nat} {toks : List (Option Nat)} : Acc d es [] (.slice .nilS 0 []) none toks := ⟨rfl, rfl⟩

theorem Acc.append {s : Sig} {es : Nat} {xs : List (List AV)} {x : AV} {og : Option Nat} {toks : List (Option Nat)} (h : Acc s.acts.length es xs x og toks) (hs : Ok s) (o : Own) {ys : List (List AV)} (hy : ys ≠ []) (hl : xs.length + ys.length ≤ 4294967296) :
    ∃ x' og' toks', (∀ boxes, appendOp (s.push ⟨boxes, toks⟩) es x (.slice o es ys) = some (x', s.push ⟨boxes, toks'⟩)) ∧ Acc s.acts.length es (xs ++ ys) x' og' toks' ∧ og' ≠ none ∧
      (∀ es2 xs2 x2 og2, Acc s.acts.length es2 xs2 x2 og2 toks → (og2 ≠ og ∨ og2 = none) → Acc s.acts.length es2 xs2 x2 og2 toks' ∧ og2 ≠ og') := by
  have hy' : ys.isEmpty = false := by cases ys <;> simp_all
  cases og with
  | none =>
    obtain ⟨rfl, rfl⟩ := h
    refine ⟨.slice (.tok s.acts.length toks.length) es ys, some toks.length, toks ++ [some ys.length], fun boxes => ?_, ⟨by simpa using hy, rfl, by simp⟩, by simp, ?_⟩
    · have : ys.length ≤ 4294967296 := by simpa using hl
      simp [appendOp, hy', Own.isNil, most, this, ntok_push, addTok_push]
    · intro es2 xs2 x2 og2 h2 _
      cases og2 with
      | none => exact ⟨h2, by simp⟩
      | some g =>
        obtain ⟨a, b, c⟩ := h2
        have := (List.getElem?_eq_some_iff.1 c).1
        exact ⟨⟨a, b, by rw [List.getElem?_append_left this]; exact c⟩, by simp; omega⟩
  | some g =>
    obtain ⟨hx, rfl, hg⟩ := h
    refine ⟨.slice (.tok s.acts.length g) es (xs ++ ys), some g, toks.set g (some (xs.length + ys.length)), fun boxes => ?_, ⟨by simp [hx], rfl, ?_⟩, by simp, ?_⟩
    · simp [appendOp, hy', most, hl, tok_push, hg, ro_push, hs.ro, setTok_push]
    · rw [List.getElem?_set_self (List.getElem?_eq_some_iff.1 hg).1]; simp
    · intro es2 xs2 x2 og2 h2 hne
      cases og2 with
      | none => exact ⟨h2, by simp⟩
      | some g2 =>
        obtain ⟨a, b, c⟩ := h2
        have hne : g2 ≠ g := by rcases hne with h | h <;> simp_all
        exact ⟨⟨a, b, by rw [List.getElem?_set_ne (fun e => hne e.symm)]; exact c⟩, by simpa using hne⟩

section
variable {d es : Nat} {xs : List (List AV)} {x : AV} {og : Option Nat} {toks : List (Option Nat)}
theorem Acc.leave (h : Acc d es xs x og toks) (m : Sig) : leaveVal m x = some (accV es xs) := by
  cases og with
  | none => obtain ⟨rfl, rfl⟩ := h; rfl
  | some g =>
    obtain ⟨hx, rfl, _⟩ := h
    cases xs with
    | nil => exact absurd rfl hx
    | cons a r => rfl
theorem Acc.leavec (h : Acc d es xs x og toks) (m : Sig) : leaveCell m x = some (accV es xs) := by
  cases og with
  | none => obtain ⟨rfl, rfl⟩ := h; rfl
  | some g =>
    obtain ⟨hx, rfl, _⟩ := h
    cases xs with
    | nil => exact absurd rfl hx
    | cons a r => rfl
theorem Acc.close (h : Acc d es xs x og toks) : x.close = some (accV es xs) := by
  cases og with
  | none => obtain ⟨rfl, rfl⟩ := h; rfl
  | some g =>
    obtain ⟨hx, rfl, _⟩ := h
    cases xs with
    | nil => exact absurd rfl hx
    | cons a r => rfl
theorem Acc.len (h : Acc d es xs x og toks) : lenOp false x = some (.v (.int .i64 xs.length)) := by
  cases og with
  | none => obtain ⟨rfl, rfl⟩ := h; rfl
  | some g => obtain ⟨hx, rfl, _⟩ := h; rfl
theorem Acc.isCell (h : Acc d es xs x og toks) : x.isCell = true := by
  cases og with
  | none => obtain ⟨rfl, rfl⟩ := h; rfl
  | some g => obtain ⟨hx, rfl, _⟩ := h; rfl
end

/-! lists that begin as an empty literal -/
def copyO : List (List AV) → Own
  | [] => .full
  | _ :: _ => .any
def AccF (d es : Nat) (xs : List (List AV)) (x : AV) (og : Option Nat) (toks : List (Option Nat)) : Prop :=
  match og with
  | none => xs = [] ∧ x = .slice .full es []
  | some g => xs ≠ [] ∧ x = .slice (.tok d g) es xs ∧ toks[g]? = some (some xs.length)
theorem AccF.start {d es : Nat} {toks : List (Option Nat)} : AccF d es [] (.slice .full es []) none toks := ⟨rfl, rfl⟩
theorem AccF.append {s : Sig} {es : Nat} {xs : List (List AV)} {x : AV} {og : Option Nat} {toks : List (Option Nat)} (h : AccF s.acts.length es xs x og toks) (hs : Ok s) (o : Own) {ys : List (List AV)} (hy : ys ≠ []) (hl : xs.length + ys.length ≤ 4294967296) :
    ∃ x' og' toks', (∀ boxes, appendOp (s.push ⟨boxes, toks⟩) es x (.slice o es ys) = some (x', s.push ⟨boxes, toks'⟩)) ∧ AccF s.acts.length es (xs ++ ys) x' og' toks' ∧ og' ≠ none ∧
      (∀ es2 xs2 x2 og2, AccF s.acts.length es2 xs2 x2 og2 toks → (og2 ≠ og ∨ og2 = none) → AccF s.acts.length es2 xs2 x2 og2 toks' ∧ og2 ≠ og') := by
  have hy' : ys.isEmpty = false := by cases ys <;> simp_all
  cases og with
  | none =>
    obtain ⟨rfl, rfl⟩ := h
    refine ⟨.slice (.tok s.acts.length toks.length) es ys, some toks.length, toks ++ [some ys.length], fun boxes => ?_, ⟨by simpa using hy, rfl, by simp⟩, by simp, ?_⟩
    · have : ys.length ≤ 4294967296 := by simpa using hl
      simp [appendOp, hy', Own.isNil, most, this, ntok_push, addTok_push]
    · intro es2 xs2 x2 og2 h2 _
      cases og2 with
      | none => exact ⟨h2, by simp⟩
      | some g =>
        obtain ⟨a, b, c⟩ := h2
        have := (List.getElem?_eq_some_iff.1 c).1
        exact ⟨⟨a, b, by rw [List.getElem?_append_left this]; exact c⟩, by simp; omega⟩
  | some g =>
    obtain ⟨hx, rfl, hg⟩ := h
    refine ⟨.slice (.tok s.acts.length g) es (xs ++ ys), some g, toks.set g (some (xs.length + ys.length)), fun boxes => ?_, ⟨by simp [hx], rfl, ?_⟩, by simp, ?_⟩
    · simp [appendOp, hy', most, hl, tok_push, hg, ro_push, hs.ro, setTok_push]
    · rw [List.getElem?_set_self (List.getElem?_eq_some_iff.1 hg).1]; simp
    · intro es2 xs2 x2 og2 h2 hne
      cases og2 with
      | none => exact ⟨h2, by simp⟩
      | some g2 =>
        obtain ⟨a, b, c⟩ := h2
        have hne : g2 ≠ g := by rcases hne with h | h <;> simp_all
        exact ⟨⟨a, b, by rw [List.getElem?_set_ne (fun e => hne e.symm)]; exact c⟩, by simpa using hne⟩
theorem AccF.leave {d es : Nat} {xs : List (List AV)} {x : AV} {og : Option Nat} {toks : List (Option Nat)} (h : AccF d es xs x og toks) (m : Sig) : leaveVal m x = some (.slice (copyO xs) es xs) := by
  cases og with
  | none => obtain ⟨rfl, rfl⟩ := h; rfl
  | some g =>
    obtain ⟨hx, rfl, _⟩ := h
    cases xs with
    | nil => exact absurd rfl hx
    | cons a r => rfl
/-- Appending to an empty literal: a copy. -/
theorem copy_app {s : Sig} {r : Rec} {es : Nat} {x : AV} {xs : List (List AV)} {o : Own} (hx : x = .slice o es xs) (hl : xs.length ≤ 4294967296) :
    ∃ x' t', appendOp (s.push r) es (.slice .full es []) x = some (x', s.push ⟨r.boxes, t'⟩) ∧ ∀ m, leaveVal m x' = some (.slice (copyO xs) es xs) := by
  subst hx
  cases xs with
  | nil => exact ⟨.slice .full es [], r.toks, by simp [appendOp], fun m => rfl⟩
  | cons a l =>
    refine ⟨.slice (.tok s.acts.length r.toks.length) es (a :: l), r.toks ++ [some (l.length + 1)], ?_, fun m => rfl⟩
    have hl' : l.length + 1 ≤ 4294967296 := by simpa using hl
    simp [appendOp, Own.isNil, most, hl', ntok_push, addTok_push]
theorem leave_copy {es : Nat} {xs ys : List (List AV)} {m : Sig} : leaveVal m (.slice (copyO ys) es xs) = some (.slice (copyO ys) es xs) := by cases ys <;> rfl

theorem ix_acc {es k : Nat} {xs : List (List AV)} {row : List AV} (h : xs[k]? = some row) : indexAddrOp none es (accV es xs) (.v (.int .i64 (k : Int))) = some (.eptr row 0) := by
  cases xs with
  | nil => simp at h
  | cons a r => exact ix_sl h
theorem len_acc {es : Nat} {xs : List (List AV)} : lenOp false (accV es xs) = some (.v (.int .i64 xs.length)) := by cases xs <;> rfl
theorem leave_acc {es : Nat} {xs : List (List AV)} {m : Sig} : leaveVal m (accV es xs) = some (accV es xs) := by cases xs <;> rfl
theorem leavec_acc {es : Nat} {xs : List (List AV)} {m : Sig} : leaveCell m (accV es xs) = some (accV es xs) := by cases xs <;> rfl
theorem close_acc {es : Nat} {xs : List (List AV)} : (accV es xs).close = some (accV es xs) := by cases xs <;> rfl
theorem isCell_acc {es : Nat} {xs : List (List AV)} : (accV es xs).isCell = true := by cases xs <;> rfl
theorem cells_acc {es : Nat} {xs : List (List AV)} : (accV es xs).cells = [accV es xs] := by cases xs <;> rfl
attribute [go_sem] len_acc leave_acc leavec_acc close_acc isCell_acc cells_acc

/-- the first error -/
def firstErr : List Int → Int
  | [] => 0
  | e :: r => if e = 0 then firstErr r else e

end Go.Ax.Sx
