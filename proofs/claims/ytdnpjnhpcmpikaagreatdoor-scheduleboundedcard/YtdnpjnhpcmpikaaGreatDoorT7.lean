/-
  How plain data look to the executor; loops over slices.
-/
import Derived.Test.YtdnpjnhpcmpikaaGreatDoorT6
import Derived.ProofKit
namespace Go.Ax.Sx
abbrev I (n : Int) : AV := .v (.int .i64 n)
abbrev B (b : Bool) : AV := .v (.bool b)
def inI (x : Int) : Prop := -9223372036854775808 ≤ x ∧ x < 9223372036854775808
def ints (l : List Int) : List (List AV) := l.map fun n => [I n]
theorem ints_len {l : List Int} : (ints l).length = l.length := by simp [ints]
theorem ints_get {l : List Int} {k : Nat} {x : Int} (h : l[k]? = some x) : (ints l)[k]? = some [I x] := by simp [ints, h]
section
variable {AP : FuncId → Option AFn} {F : AExit → St → Option (AV × Sig)} {L : ACode} {ks : List K}
theorem loop_up (N : Nat) (P : Nat → (Nat → AV) → Sig → Prop) (R : Nat → Option (AV × Sig))
  (step : ∀ k ρ m, k < N → P k ρ m → (∀ ρ' m', P (k + 1) ρ' m' → go AP F (.c (.loop L) :: ks) ⟨ρ', m'⟩ = R (k + 1)) → go AP F (.c L :: .lp L :: ks) ⟨ρ, m⟩ = R k)
  (last : ∀ ρ m, P N ρ m → go AP F (.c L :: .lp L :: ks) ⟨ρ, m⟩ = R N) :
  ∀ k ρ m, k ≤ N → P k ρ m → go AP F (.c (.loop L) :: ks) ⟨ρ, m⟩ = R k := by
 intro k ρ m hk hP
 induction h : N - k generalizing k ρ m with
 | zero =>
  have e : k = N := by omega
  subst e
  rw [go_loop]; exact last ρ m hP
 | succ n ih =>
  rw [go_loop]
  exact step k ρ m (by omega) hP (fun ρ' m' hP' => ih (k + 1) ρ' m' (by omega) hP' (by omega))
theorem loop_upto (hi : Int) (P : Int → (Nat → AV) → Sig → Prop) (R : Int → Option (AV × Sig))
  (step : ∀ i ρ m, i ≤ hi → P i ρ m → (∀ ρ' m', P (i + 1) ρ' m' → go AP F (.c (.loop L) :: ks) ⟨ρ', m'⟩ = R (i + 1)) → go AP F (.c L :: .lp L :: ks) ⟨ρ, m⟩ = R i)
  (last : ∀ i ρ m, hi < i → P i ρ m → go AP F (.c L :: .lp L :: ks) ⟨ρ, m⟩ = R i) :
  ∀ i ρ m, P i ρ m → go AP F (.c (.loop L) :: ks) ⟨ρ, m⟩ = R i := by
 intro i ρ m hP
 induction h : (hi + 1 - i).toNat generalizing i ρ m with
 | zero => rw [go_loop]; exact last i ρ m (by omega) hP
 | succ n ih =>
  rw [go_loop]
  exact step i ρ m (by omega) hP (fun ρ' m' hP' => ih (i + 1) ρ' m' hP' (by omega))
theorem loop_ex (N : Nat) (P : Nat → (Nat → AV) → Sig → Prop) (R : Option (AV × Sig) → Prop)
  (step : ∀ k ρ m, k < N → P k ρ m → (∀ ρ' m', P (k + 1) ρ' m' → R (go AP F (.c (.loop L) :: ks) ⟨ρ', m'⟩)) → R (go AP F (.c L :: .lp L :: ks) ⟨ρ, m⟩))
  (last : ∀ ρ m, P N ρ m → R (go AP F (.c L :: .lp L :: ks) ⟨ρ, m⟩)) :
  ∀ k ρ m, k ≤ N → P k ρ m → R (go AP F (.c (.loop L) :: ks) ⟨ρ, m⟩) := by
 intro k ρ m hk hP
 induction h : N - k generalizing k ρ m with
 | zero =>
  have e : k = N := by omega
  subst e
  rw [go_loop]; exact last ρ m hP
 | succ n ih =>
  rw [go_loop]
  exact step k ρ m (by omega) hP (fun ρ' m' hP' => ih (k + 1) ρ' m' (by omega) hP' (by omega))
theorem loop_exi (hi : Int) (P : Int → (Nat → AV) → Sig → Prop) (R : Option (AV × Sig) → Prop)
  (step : ∀ i ρ m, i ≤ hi → P i ρ m → (∀ ρ' m', P (i + 1) ρ' m' → R (go AP F (.c (.loop L) :: ks) ⟨ρ', m'⟩)) → R (go AP F (.c L :: .lp L :: ks) ⟨ρ, m⟩))
  (last : ∀ i ρ m, hi < i → P i ρ m → R (go AP F (.c L :: .lp L :: ks) ⟨ρ, m⟩)) :
  ∀ i ρ m, P i ρ m → R (go AP F (.c (.loop L) :: ks) ⟨ρ, m⟩) := by
 intro i ρ m hP
 induction h : (hi + 1 - i).toNat generalizing i ρ m with
 | zero => rw [go_loop]; exact last i ρ m (by omega) hP
 | succ n ih =>
  rw [go_loop]
  exact step i ρ m (by omega) hP (fun ρ' m' hP' => ih (i + 1) ρ' m' hP' (by omega))
theorem drop_get {α : Type} {l : List α} {k : Nat} {x : α} (h : l[k]? = some x) : l.drop k = x :: l.drop (k + 1) := by
 have hk := (List.getElem?_eq_some_iff.1 h).1
 rw [List.drop_eq_getElem_cons hk]; congr 1
 exact (List.getElem?_eq_some_iff.1 h).2
theorem get_some {α : Type} {l : List α} {k : Nat} (h : k < l.length) : ∃ x, l[k]? = some x := ⟨l[k], List.getElem?_eq_getElem h⟩
theorem take_get {α : Type} {l : List α} {k : Nat} {x : α} (h : l[k]? = some x) : l.take (k + 1) = l.take k ++ [x] := by
 rw [List.take_add_one, h]; rfl
theorem lt_dec {k n : Nat} (h : k < n) : decide ((k : Int) < (n : Int)) = true := by simp; omega
theorem ge_dec (n : Nat) : decide ((n : Int) < (n : Int)) = false := by simp
end
theorem dec_lt (a b : Int) : decide (b < a) = !decide (a ≤ b) := by
 by_cases h : a ≤ b
 ·simp [h]
 ·simp [h]; omega
section
variable {α : Type} {l r : List α} {x x1 x2 x3 y : α}
theorem at_len : (l ++ x :: r)[l.length]? = some x := by simp
theorem at_len1 : (l ++ x1 :: x :: r)[l.length + 1]? = some x := by simp
theorem at_len2 : (l ++ x1 :: x2 :: x :: r)[l.length + 1 + 1]? = some x := by
 rw [List.getElem?_append_right (by omega)]; simp [show l.length + 1 + 1 - l.length = 2 by omega]
theorem at_len3 : (l ++ x1 :: x2 :: x3 :: x :: r)[l.length + 1 + 1 + 1]? = some x := by
 rw [List.getElem?_append_right (by omega)]; simp [show l.length + 1 + 1 + 1 - l.length = 3 by omega]
theorem set_len : (l ++ x :: r).set l.length y = l ++ y :: r := by simp
theorem set_len1 : (l ++ x1 :: x :: r).set (l.length + 1) y = l ++ x1 :: y :: r := by
 rw [List.set_append_right _ _ (by omega)]; simp
theorem set_len2 : (l ++ x1 :: x2 :: x :: r).set (l.length + 1 + 1) y = l ++ x1 :: x2 :: y :: r := by
 rw [List.set_append_right _ _ (by omega)]; simp [show l.length + 1 + 1 - l.length = 2 by omega]
theorem set_len3 : (l ++ x1 :: x2 :: x3 :: x :: r).set (l.length + 1 + 1 + 1) y = l ++ x1 :: x2 :: x3 :: y :: r := by
 rw [List.set_append_right _ _ (by omega)]; simp [show l.length + 1 + 1 + 1 - l.length = 3 by omega]
theorem len_app : (l ++ [x]).length = l.length + 1 := by simp
theorem len_app2 : (l ++ [x, x1]).length = l.length + 1 + 1 := by simp
theorem len_app3 : (l ++ [x, x1, x2]).length = l.length + 1 + 1 + 1 := by simp
end
attribute [go_sem] at_len at_len1 at_len2 at_len3 set_len set_len1 set_len2 set_len3 len_app len_app2 len_app3 List.append_assoc
def accV (es : Nat) : List (List AV) → AV
 | [] => .slice .nilS 0 []
 | x :: r => .slice .any es (x :: r)
def Acc (d es : Nat) (xs : List (List AV)) (x : AV) (og : Option Nat) (toks : List (Option Nat)) : Prop :=
 match og with
 | none => xs = [] ∧ x = .slice .nilS 0 []
 | some g => xs ≠ [] ∧ x = .slice (.tok d g) es xs ∧ toks[g]? = some (some xs.length)
theorem Acc.start {d es : Nat} {toks : List (Option Nat)} : Acc d es [] (.slice .nilS 0 []) none toks := ⟨rfl, rfl⟩
theorem Acc.append {s : Sig} {es : Nat} {xs : List (List AV)} {x : AV} {og : Option Nat} {toks : List (Option Nat)} (h : Acc s.acts.length es xs x og toks) (hs : Ok s) (o : Own) {ys : List (List AV)} (hy : ys ≠ []) (hl : xs.length + ys.length ≤ 4294967296) :
  ∃ x' og' toks', (∀ boxes, appendOp (s.push ⟨boxes, toks⟩) es x (.slice o es ys) = some (x', s.push ⟨boxes, toks'⟩)) ∧ Acc s.acts.length es (xs ++ ys) x' og' toks' ∧ og' ≠ none ∧
   (∀ es2 xs2 x2 og2, Acc s.acts.length es2 xs2 x2 og2 toks → (og2 ≠ og ∨ og2 = none) → Acc s.acts.length es2 xs2 x2 og2 toks' ∧ og2 ≠ og') := by
 have hy' : ys.isEmpty = false := by cases ys <;> simp_all
 cases og with
 | none =>
  obtain ⟨rfl, rfl⟩ := h
  refine ⟨.slice (.tok s.acts.length toks.length) es ys, some toks.length, toks ++ [some ys.length], fun boxes => ?_, ⟨by simpa using hy, rfl, by simp⟩, by simp, ?_⟩
  ·have : ys.length ≤ 4294967296 := by simpa using hl
   simp [appendOp, hy', Own.isNil, most, this, ntok_push, addTok_push]
  ·intro es2 xs2 x2 og2 h2 _
   cases og2 with
   | none => exact ⟨h2, by simp⟩
   | some g =>
    obtain ⟨a, b, c⟩ := h2
    have := (List.getElem?_eq_some_iff.1 c).1
    exact ⟨⟨a, b, by rw [List.getElem?_append_left this]; exact c⟩, by simp; omega⟩
 | some g =>
  obtain ⟨hx, rfl, hg⟩ := h
  refine ⟨.slice (.tok s.acts.length g) es (xs ++ ys), some g, toks.set g (some (xs.length + ys.length)), fun boxes => ?_, ⟨by simp [hx], rfl, ?_⟩, by simp, ?_⟩
  ·simp [appendOp, hy', most, hl, tok_push, hg, ro_push, hs.ro, setTok_push]
  ·rw [List.getElem?_set_self (List.getElem?_eq_some_iff.1 hg).1]; simp
  ·intro es2 xs2 x2 og2 h2 hne
   cases og2 with
   | none => exact ⟨h2, by simp⟩
   | some g2 =>
    obtain ⟨a, b, c⟩ := h2
    have hne : g2 ≠ g := by rcases hne with h | h <;> simp_all
    exact ⟨⟨a, b, by rw [List.getElem?_set_ne (fun e => hne e.symm)]; exact c⟩, by simpa using hne⟩
section
variable {d es : Nat} {xs : List (List AV)} {x : AV} {og : Option Nat} {toks : List (Option Nat)}
theorem Acc.leave (h : Acc d es xs x og toks) (m : Sig) : leaveVal m x = some (accV es xs) := by
 cases og with
 | none => obtain ⟨rfl, rfl⟩ := h; rfl
 | some g =>
  obtain ⟨hx, rfl, _⟩ := h
  cases xs with
  | nil => exact absurd rfl hx
  | cons a r => rfl
theorem Acc.leavec (h : Acc d es xs x og toks) (m : Sig) : leaveCell m x = some (accV es xs) := by
 cases og with
 | none => obtain ⟨rfl, rfl⟩ := h; rfl
 | some g =>
  obtain ⟨hx, rfl, _⟩ := h
  cases xs with
  | nil => exact absurd rfl hx
  | cons a r => rfl
theorem Acc.close (h : Acc d es xs x og toks) : x.close = some (accV es xs) := by
 cases og with
 | none => obtain ⟨rfl, rfl⟩ := h; rfl
 | some g =>
  obtain ⟨hx, rfl, _⟩ := h
  cases xs with
  | nil => exact absurd rfl hx
  | cons a r => rfl
theorem Acc.len (h : Acc d es xs x og toks) : lenOp false x = some (.v (.int .i64 xs.length)) := by
 cases og with
 | none => obtain ⟨rfl, rfl⟩ := h; rfl
 | some g => obtain ⟨hx, rfl, _⟩ := h; rfl
theorem Acc.isCell (h : Acc d es xs x og toks) : x.isCell = true := by
 cases og with
 | none => obtain ⟨rfl, rfl⟩ := h; rfl
 | some g => obtain ⟨hx, rfl, _⟩ := h; rfl
end
def copyO : List (List AV) → Own
 | [] => .full
 | _ :: _ => .any
def AccF (d es : Nat) (xs : List (List AV)) (x : AV) (og : Option Nat) (toks : List (Option Nat)) : Prop :=
 match og with
 | none => xs = [] ∧ x = .slice .full es []
 | some g => xs ≠ [] ∧ x = .slice (.tok d g) es xs ∧ toks[g]? = some (some xs.length)
theorem AccF.start {d es : Nat} {toks : List (Option Nat)} : AccF d es [] (.slice .full es []) none toks := ⟨rfl, rfl⟩
theorem AccF.append {s : Sig} {es : Nat} {xs : List (List AV)} {x : AV} {og : Option Nat} {toks : List (Option Nat)} (h : AccF s.acts.length es xs x og toks) (hs : Ok s) (o : Own) {ys : List (List AV)} (hy : ys ≠ []) (hl : xs.length + ys.length ≤ 4294967296) :
  ∃ x' og' toks', (∀ boxes, appendOp (s.push ⟨boxes, toks⟩) es x (.slice o es ys) = some (x', s.push ⟨boxes, toks'⟩)) ∧ AccF s.acts.length es (xs ++ ys) x' og' toks' ∧ og' ≠ none ∧
   (∀ es2 xs2 x2 og2, AccF s.acts.length es2 xs2 x2 og2 toks → (og2 ≠ og ∨ og2 = none) → AccF s.acts.length es2 xs2 x2 og2 toks' ∧ og2 ≠ og') := by
 have hy' : ys.isEmpty = false := by cases ys <;> simp_all
 cases og with
 | none =>
  obtain ⟨rfl, rfl⟩ := h
  refine ⟨.slice (.tok s.acts.length toks.length) es ys, some toks.length, toks ++ [some ys.length], fun boxes => ?_, ⟨by simpa using hy, rfl, by simp⟩, by simp, ?_⟩
  ·have : ys.length ≤ 4294967296 := by simpa using hl
   simp [appendOp, hy', Own.isNil, most, this, ntok_push, addTok_push]
  ·intro es2 xs2 x2 og2 h2 _
   cases og2 with
   | none => exact ⟨h2, by simp⟩
   | some g =>
    obtain ⟨a, b, c⟩ := h2
    have := (List.getElem?_eq_some_iff.1 c).1
    exact ⟨⟨a, b, by rw [List.getElem?_append_left this]; exact c⟩, by simp; omega⟩
 | some g =>
  obtain ⟨hx, rfl, hg⟩ := h
  refine ⟨.slice (.tok s.acts.length g) es (xs ++ ys), some g, toks.set g (some (xs.length + ys.length)), fun boxes => ?_, ⟨by simp [hx], rfl, ?_⟩, by simp, ?_⟩
  ·simp [appendOp, hy', most, hl, tok_push, hg, ro_push, hs.ro, setTok_push]
  ·rw [List.getElem?_set_self (List.getElem?_eq_some_iff.1 hg).1]; simp
  ·intro es2 xs2 x2 og2 h2 hne
   cases og2 with
   | none => exact ⟨h2, by simp⟩
   | some g2 =>
    obtain ⟨a, b, c⟩ := h2
    have hne : g2 ≠ g := by rcases hne with h | h <;> simp_all
    exact ⟨⟨a, b, by rw [List.getElem?_set_ne (fun e => hne e.symm)]; exact c⟩, by simpa using hne⟩
theorem AccF.leave {d es : Nat} {xs : List (List AV)} {x : AV} {og : Option Nat} {toks : List (Option Nat)} (h : AccF d es xs x og toks) (m : Sig) : leaveVal m x = some (.slice (copyO xs) es xs) := by
 cases og with
 | none => obtain ⟨rfl, rfl⟩ := h; rfl
 | some g =>
  obtain ⟨hx, rfl, _⟩ := h
  cases xs with
  | nil => exact absurd rfl hx
  | cons a r => rfl
theorem copy_app {s : Sig} {r : Rec} {es : Nat} {x : AV} {xs : List (List AV)} {o : Own} (hx : x = .slice o es xs) (hl : xs.length ≤ 4294967296) :
  ∃ x' t', appendOp (s.push r) es (.slice .full es []) x = some (x', s.push ⟨r.boxes, t'⟩) ∧ ∀ m, leaveVal m x' = some (.slice (copyO xs) es xs) := by
 subst hx
 cases xs with
 | nil => exact ⟨.slice .full es [], r.toks, by simp [appendOp], fun m => rfl⟩
 | cons a l =>
  refine ⟨.slice (.tok s.acts.length r.toks.length) es (a :: l), r.toks ++ [some (l.length + 1)], ?_, fun m => rfl⟩
  have hl' : l.length + 1 ≤ 4294967296 := by simpa using hl
  simp [appendOp, Own.isNil, most, hl', ntok_push, addTok_push]
theorem ix_acc {es k : Nat} {xs : List (List AV)} {row : List AV} (h : xs[k]? = some row) : indexAddrOp none es (accV es xs) (.v (.int .i64 (k : Int))) = some (.eptr row 0) := by
 cases xs with
 | nil => simp at h
 | cons a r => exact ix_sl h
theorem len_acc {es : Nat} {xs : List (List AV)} : lenOp false (accV es xs) = some (.v (.int .i64 xs.length)) := by cases xs <;> rfl
theorem leave_acc {es : Nat} {xs : List (List AV)} {m : Sig} : leaveVal m (accV es xs) = some (accV es xs) := by cases xs <;> rfl
theorem leavec_acc {es : Nat} {xs : List (List AV)} {m : Sig} : leaveCell m (accV es xs) = some (accV es xs) := by cases xs <;> rfl
theorem close_acc {es : Nat} {xs : List (List AV)} : (accV es xs).close = some (accV es xs) := by cases xs <;> rfl
theorem isCell_acc {es : Nat} {xs : List (List AV)} : (accV es xs).isCell = true := by cases xs <;> rfl
theorem cells_acc {es : Nat} {xs : List (List AV)} : (accV es xs).cells = [accV es xs] := by cases xs <;> rfl
attribute [go_sem] len_acc leave_acc leavec_acc close_acc isCell_acc cells_acc
def firstErr : List Int → Int
 | [] => 0
 | e :: r => if e = 0 then firstErr r else e
end Go.Ax.Sx

/-
  Loops over functions: the rounds.
-/
namespace Go.Ax.Sx
section
variable {AP : FuncId → Option AFn} {Fin : AExit → St → Option (AV × Sig)} {ks : List K} {ρ : Nat → AV} {m S : Sig} {l : Nat} {lp : ALoop}
noncomputable def goL (AP : FuncId → Option AFn) (Fin : AExit → St → Option (AV × Sig)) (l : Nat) (ks : List K) (ρ : Nat → AV) (s : Sig) : Option (AV × Sig) :=
 (leaveLoop s l).bind fun p => goE AP Fin ks (p.1.getD .normal) ⟨ρ, p.2⟩
theorem go_range {x : AOpd} {ps : List Nat} {a b : ACode} {g : FuncId} {first caps : List AV} (h : evalT ρ x = .fn g first caps) :
  go AP Fin (.c (.rangeFunc x ps a b) :: ks) ⟨ρ, m⟩ = (callL AP (.fn g) (first ++ .yield m.loops.length :: caps) (enterLoop m ⟨true, none, ρ, ps, a, b⟩)).bind fun p => goL AP Fin m.loops.length ks ρ p.2 := by
 simp only [go, goE, runL_rangeFunc, h, goL]
 cases callL AP (.fn g) (first ++ .yield m.loops.length :: caps) (enterLoop m ⟨true, none, ρ, ps, a, b⟩) with
 | none => rfl
 | some p =>
  obtain ⟨x, s⟩ := p
  simp only [Option.bind_some]
  cases leaveLoop s m.loops.length with
  | none => rfl
  | some q => rfl
theorem leave_enter (h : m.loops.length = l) (hr : lp.ready = true ∨ lp.pend.isSome = true) : leaveLoop (enterLoop m lp) l = some (lp.pend, m) := by
 subst h
 have : (lp.ready = true ∨ lp.pend.isSome = true) := hr
 simp [leaveLoop, enterLoop, this]
theorem goL_normal (h : m.loops.length = l) (hr : lp.ready = true) (hp : lp.pend = none) : goL AP Fin l ks ρ (enterLoop m lp) = go AP Fin ks ⟨ρ, m⟩ := by
 rw [goL, leave_enter h (.inl hr), hp]; rfl
theorem goL_ret (h : m.loops.length = l) (hp : lp.pend = some .ret) : goL AP Fin l ks ρ (enterLoop m lp) = Fin .ret ⟨ρ, m⟩ := by
 rw [goL, leave_enter h (.inr (by simp [hp])), hp]
 exact goR_any (ks := ks)
theorem goL_exit {j : Nat} (h : m.loops.length = l) (hp : lp.pend = some (.exit j)) : goL AP Fin l ks ρ (enterLoop m lp) = goX AP Fin j ks ⟨ρ, m⟩ := by
 rw [goL, leave_enter h (.inr (by simp [hp])), hp]; rfl
structure Ready (l : Nat) (lp : ALoop) (S : Sig) : Prop where
 get : S.loops[l]? = some lp
 ready : lp.ready = true
 pend : lp.pend = none
 lro : S.lro ≤ l
def busy (l : Nat) (S : Sig) : Sig := setLoop S l fun p => { p with ready := false }
def over (l : Nat) (e : AExit) (S : Sig) : Sig := setLoop S l fun p => { p with ready := false, pend := some e }
theorem busy_box {d b : Nat} : (busy l S).box d b = S.box d b := rfl
theorem Ok.busy (h : Ok S) : Ok (busy l S) := ⟨h.ro, by have := h.lro; simp [Sx.busy, setLoop]; exact this⟩
theorem Ok.over {e : AExit} (h : Ok S) : Ok (over l e S) := ⟨h.ro, by have := h.lro; simp [Sx.over, setLoop]; exact this⟩
theorem Ok.enter (h : Ok S) : Ok (enterLoop S lp) := ⟨h.ro, by have := h.lro; simp [enterLoop]; omega⟩
theorem enter_box {d b : Nat} : (enterLoop S lp).box d b = S.box d b := rfl
theorem setLoop_push {r : Rec} {f : ALoop → ALoop} : setLoop (S.push r) l f = (setLoop S l f).push r := rfl
theorem enter_ready {ρ : Nat → AV} {ps : List Nat} {a b : ACode} (h : Ok m) : Ready m.loops.length ⟨true, none, ρ, ps, a, b⟩ (enterLoop m ⟨true, none, ρ, ps, a, b⟩) := ⟨by simp [enterLoop], rfl, rfl, h.lro⟩
theorem Ready.push (h : Ready l lp S) (r : Rec) : Ready l lp (S.push r) := ⟨h.get, h.ready, h.pend, h.lro⟩
theorem busy_back (h : Ready l lp S) : setLoop (busy l S) l (fun p => { p with ready := true, pend := none }) = S := by
 have e : (S.loops.modify l fun p => { p with ready := false }).modify l (fun p => { p with ready := true, pend := none }) = S.loops := by
  apply List.ext_getElem?
  intro i
  simp only [List.getElem?_modify]
  by_cases hi : l = i
  ·subst hi
   have := h.get
   rw [this]
   obtain ⟨a, b, c, d, f, g⟩ := lp
   have h1 := h.ready
   have h2 := h.pend
   simp at h1 h2
   simp [h1, h2]
  ·simp [hi]
 simp only [busy, setLoop, e]
noncomputable def finA (AP : FuncId → Option AFn) (l : Nat) (body : ACode) (e : AExit) (st : St) : Option (AV × Sig) :=
 match e with
 | .normal => if loopReady st.sig l = true then go AP (finR l) [.c body] ⟨st.tmps, busy l st.sig⟩ else none
 | _ => none
theorem go_finR {body : ACode} {st : St} : go AP (finR l) [.c body] st = endRound l (runL AP body st) := by
 simp only [go, goE, finR]
 cases runL AP body st with
 | none => rfl
 | some p => rfl
theorem callL_round {as : List AV} (h : Ready l lp S) (hl : as.length = lp.params.length) :
  callL AP (.yield l) as S = go AP (finA AP l lp.body) [.c lp.assign] ⟨setParams lp.tmps lp.params as, S.push ⟨[], []⟩⟩ := by
 rw [callL_yield, h.get]
 simp only
 rw [if_pos ⟨h.ready, h.lro, hl⟩]
 simp only [go, goE, finA]
 cases runL AP lp.assign ⟨setParams lp.tmps lp.params as, S.push ⟨[], []⟩⟩ with
 | none => rfl
 | some p =>
  obtain ⟨e, st⟩ := p
  cases e with
  | normal =>
   simp only [Option.bind_some]
   have := go_finR (AP := AP) (l := l) (body := lp.body) (st := ⟨st.tmps, busy l st.sig⟩)
   simp only [go, goE] at this
   rw [this]; rfl
  | exit j => rfl
  | ret => rfl
theorem finA_n {body : ACode} {r : Rec} (h : Ready l lp S) : finA AP l body .normal ⟨ρ, S.push r⟩ = go AP (finR l) [.c body] ⟨ρ, (busy l S).push r⟩ := by
 have : loopReady (S.push r) l = true := by
  simp only [loopReady, Sig.push, h.get, h.ready]
 simp only [finA, this, if_true]; rfl
theorem finR_n {r : Rec} (h : Ready l lp S) : finR l .normal ⟨ρ, (busy l S).push r⟩ = some (.v (.bool true), S) := by
 simp only [finR, endRound, setLoop_push, busy_back h, pop_push]
theorem over_busy {e : AExit} : setLoop (busy l S) l (fun p => { p with ready := false, pend := some e }) = over l e S := by
 have : (S.loops.modify l fun p => { p with ready := false }).modify l (fun p => { p with ready := false, pend := some e }) = S.loops.modify l fun p => { p with ready := false, pend := some e } := by
  apply List.ext_getElem?
  intro i
  simp only [List.getElem?_modify]
  by_cases hi : l = i
  ·cases S.loops[i]? <;> simp [hi]
  ·simp [hi]
 simp only [busy, over, setLoop, this]
theorem finR_r {r : Rec} : finR l .ret ⟨ρ, (busy l S).push r⟩ = some (.v (.bool false), over l .ret S) := by
 simp only [finR, endRound, setLoop_push, over_busy, pop_push]
theorem finR_x {r : Rec} {j : Nat} : finR l (.exit j) ⟨ρ, (busy l S).push r⟩ = some (.v (.bool false), over l (.exit j) S) := by
 simp only [finR, endRound, setLoop_push, over_busy, pop_push]
theorem over_enter {e : AExit} : over m.loops.length e (enterLoop m lp) = enterLoop m { lp with ready := false, pend := some e } := by
 have : ∀ (f : ALoop → ALoop) (L : List ALoop), (L ++ [lp]).modify L.length f = L ++ [f lp] := by
  intro f L
  induction L with
  | nil => rfl
  | cons a L ih => simpa using ih
 simp only [over, setLoop, enterLoop, this]
theorem setParams_1 {p : Nat} {x : AV} : setParams ρ [p] [x] = put p x ρ := rfl
theorem setParams_0 : setParams ρ [] [] = ρ := rfl
end
section
variable {S s : Sig} {r : Rec} {d b l : Nat} {lp : ALoop}
theorem low_self : s.acts.length < (s.push r).acts.length := by simp [Sig.push]
theorem low_push (h : d < S.acts.length) : d < (S.push r).acts.length := by simp [Sig.push]; omega
theorem low_busy (h : d < S.acts.length) : d < (busy l S).acts.length := h
theorem low_enter (h : d < S.acts.length) : d < (enterLoop S lp).acts.length := h
theorem box_low (h : d < S.acts.length) : (S.push r).box d b = S.box d b := by
 simp only [Sig.box, Sig.push]
 rw [List.getElem?_append_left h]
theorem box_busy_top : ((busy l S).push r).box S.acts.length b = r.boxes[b]? := box_push (busy l S) r b
theorem at_app {α : Type} {l r : List α} {k : Nat} : (l ++ r)[l.length + k]? = r[k]? := by
 rw [List.getElem?_append_right (by omega)]; congr 1; omega
theorem set_app {α : Type} {l r : List α} {k : Nat} {y : α} : (l ++ r).set (l.length + k) y = l ++ r.set k y := by
 rw [List.set_append_right _ _ (by omega)]; congr 2; omega
end
attribute [go_sem] set_app
attribute [go_sem] low_self low_push low_busy low_enter box_low box_busy_top at_app List.length_append
attribute [go_sem] busy_box Ok.busy Ok.over Ok.enter enter_box finR_r finR_x setParams_1 setParams_0
end Go.Ax.Sx

/-
  Slices that came in: their cells and who owns them.
-/
namespace Go.Ax.Sx
structure Sl (α : Type) where
 o : Own
 e : Nat
 l : List α
abbrev Sl.v {α : Type} (f : α → List AV) (x : Sl α) : AV := .slice x.o x.e (x.l.map f)
def Sl.ok {α : Type} (n : Nat) (x : Sl α) : Prop := (x.l = [] ∨ x.e = n) ∧ (x.o = .any ∨ x.o = .full ∨ (x.o = .nilS ∧ x.l = []))
section
variable {α : Type} {f : α → List AV} {x : Sl α} {n k : Nat} {a : α} {m : Sig}
theorem ix_map {o : Own} {es : Nat} {l : List α} (hk : l[k]? = some a) : indexAddrOp none es (.slice o es (l.map f)) (.v (.int .i64 (k : Int))) = some (.eptr (f a) 0) := ix_sl (by rw [List.getElem?_map, hk]; rfl)
theorem Sl.ix (h : x.ok n) (hk : x.l[k]? = some a) : indexAddrOp none n (x.v f) (.v (.int .i64 (k : Int))) = some (.eptr (f a) 0) := by
 have he : x.e = n := by
  rcases h.1 with h | h
  ·rw [h] at hk; simp at hk
  ·exact h
 rw [Sl.v, he]
 exact ix_sl (by simp [hk])
theorem Sl.isClosed1 (h : x.ok n) : (x.v f).isClosed1 = true := by
 rcases h.2 with h | h | h <;> simp [Sl.v, AV.isClosed1, h]
theorem Sl.close (h : x.ok n) : (x.v f).close = some (x.v f) := by
 rcases h.2 with h | h | h <;> simp [Sl.v, AV.close, AV.isClosed, AV.isClosed1, h]
theorem Sl.leavec (h : x.ok n) : leaveCell m (x.v f) = some (x.v f) := by
 rcases h.2 with h | h | h <;> simp [Sl.v, leaveCell, AV.close, AV.isClosed, AV.isClosed1, h]
theorem Sl.leave (h : x.ok n) : leaveVal m (x.v f) = some (x.v f) := by
 rw [show leaveVal m (x.v f) = leaveCell m (x.v f) from rfl]; exact Sl.leavec h
end
attribute [go_sem] List.length_map
section
variable {a b : Int} {x y : ByteArray} {k : Nat} {c : UInt8}
theorem ar_lss8 : arithOp .lss (.v (.int .u8 a)) (.v (.int .u8 b)) = some (.v (.bool (decide (a < b)))) := rfl
theorem ar_leq8 : arithOp .leq (.v (.int .u8 a)) (.v (.int .u8 b)) = some (.v (.bool (decide (a ≤ b)))) := rfl
theorem ar_gtr8 : arithOp .gtr (.v (.int .u8 a)) (.v (.int .u8 b)) = some (.v (.bool (decide (b < a)))) := rfl
theorem ar_geq8 : arithOp .geq (.v (.int .u8 a)) (.v (.int .u8 b)) = some (.v (.bool (decide (b ≤ a)))) := rfl
theorem ar_eql8 : arithOp .eql (.v (.int .u8 a)) (.v (.int .u8 b)) = some (.v (.bool (decide (a = b)))) := by
 simp only [arithOp, isShift, intOp]; by_cases h : a = b <;> simp [h]
theorem ar_neq8 : arithOp .neq (.v (.int .u8 a)) (.v (.int .u8 b)) = some (.v (.bool (decide (a ≠ b)))) := by
 simp only [arithOp, isShift, intOp]; by_cases h : a = b <;> simp [h]
theorem ar_eqls : arithOp .eql (.v (.string x)) (.v (.string y)) = some (.v (.bool (decide (x = y)))) := by
 have : strOp .eql x y = some (.bool (decide (x = y))) := by
  simp only [strOp]
  congr 2
  by_cases h : x = y
  ·simp [h]
  ·have : ¬ x.data = y.data := fun e => h (ByteArray.ext e)
   simp [h, this]
 simp [arithOp, this]
theorem ar_neqs : arithOp .neq (.v (.string x)) (.v (.string y)) = some (.v (.bool (decide (x ≠ y)))) := by
 have : strOp .neq x y = some (.bool (decide (x ≠ y))) := by
  simp only [strOp]
  congr 2
  by_cases h : x = y
  ·simp [h]
  ·have : ¬ x.data = y.data := fun e => h (ByteArray.ext e)
   simp [h, this]
 simp [arithOp, this]
theorem cv_bytes : convOp .bytes (.v (.string x)) = some (.slice .any 1 (byteCells x)) := rfl
theorem byteCells_len : (byteCells x).length = x.data.size := by simp [byteCells]
theorem byteCells_get (h : x.data.toList[k]? = some c) : (byteCells x)[k]? = some [.v (.int .u8 c.toNat)] := by simp [byteCells] at h ⊢; simp [h]
end
attribute [go_sem] ar_lss8 ar_leq8 ar_gtr8 ar_geq8 ar_eql8 ar_neq8 ar_eqls ar_neqs cv_bytes byteCells_len
theorem leave_np {m : Sig} : leaveVal m (.v (.pointer none)) = some (.v (.pointer none)) := rfl
theorem leavec_np {m : Sig} : leaveCell m (.v (.pointer none)) = some (.v (.pointer none)) := rfl
theorem close_np : (AV.v (.pointer none)).close = some (.v (.pointer none)) := rfl
theorem leave_eptr {m : Sig} {cs : List AV} {off : Nat} : leaveVal m (.eptr cs off) = some (.eptr cs off) := rfl
theorem leavec_eptr {m : Sig} {cs : List AV} {off : Nat} : leaveCell m (.eptr cs off) = some (.eptr cs off) := rfl
theorem close_eptr {cs : List AV} {off : Nat} : (AV.eptr cs off).close = some (.eptr cs off) := rfl
theorem leave_ptr {s : Sig} {r : Rec} {b off : Nat} : leaveVal (s.push r) (.ptr s.acts.length b off) = (r.boxes[b]?).bind fun cs => (closeAll cs).map fun cs' => .eptr cs' off := by
 have : leaveVal (s.push r) (.ptr s.acts.length b off) = leaveCell (s.push r) (.ptr s.acts.length b off) := rfl
 rw [this, leaveCell, if_pos (by rw [cur_push]), box_push]
theorem leavec_ptr {s : Sig} {r : Rec} {b off : Nat} : leaveCell (s.push r) (.ptr s.acts.length b off) = (r.boxes[b]?).bind fun cs => (closeAll cs).map fun cs' => .eptr cs' off := by
 rw [leaveCell, if_pos (by rw [cur_push]), box_push]
attribute [go_sem] leave_np leavec_np close_np leave_eptr leavec_eptr close_eptr leave_ptr leavec_ptr
theorem nilc_p {d b off : Nat} : nilCheckOp (.ptr d b off) = some (.ptr d b off) := rfl
theorem nilc_e {cs : List AV} {off : Nat} : nilCheckOp (.eptr cs off) = some (.eptr cs off) := rfl
attribute [go_sem] nilc_p nilc_e
theorem evalOpt_n {ρ : AOpd → AV} : evalOpt ρ none = none := .trans rfl rfl
theorem evalOpt_s {ρ : AOpd → AV} {x : AOpd} : evalOpt ρ (some x) = some (ρ x) := .trans rfl rfl
attribute [go_sem ↓] evalOpt_n evalOpt_s
theorem eq_bool {a b : Bool} : eqOp .bool (.v (.bool a)) (.v (.bool b)) = some (a == b) := rfl
attribute [go_sem] eq_bool
theorem roS_box {m : Sig} {d b : Nat} : (roS m).box d b = m.box d b := rfl
theorem box_at0 {s : Sig} {b0 : List AV} {r : List (List AV)} {t : List (Option Nat)} : (s.push ⟨b0 :: r, t⟩).box s.acts.length 0 = some b0 := by rw [box_push]; rfl
theorem box_at1 {s : Sig} {b0 b1 : List AV} {r : List (List AV)} {t : List (Option Nat)} : (s.push ⟨b0 :: b1 :: r, t⟩).box s.acts.length 1 = some b1 := by rw [box_push]; rfl
def cpI (l : List Int) : Sl Int := ⟨copyO (ints l), 1, l⟩
theorem cpI_ok {l : List Int} : (cpI l).ok 1 := by
 refine ⟨.inr rfl, ?_⟩
 cases l
 ·exact .inr (.inl rfl)
 ·exact .inl rfl
end Go.Ax.Sx

/-
  Functions that yield: what a round gets, and what stands behind all rounds.
-/
namespace Go.Ax.Sx
def up (S : Sig) (B : List Rec) (ls : List ALoop) : Sig := { S with acts := S.acts ++ B, loops := S.loops ++ ls }
section
variable {S : Sig} {B : List Rec} {ls : List ALoop} {r : Rec} {lp : ALoop} {d b : Nat}
theorem up_push : (up S B ls).push r = up S (B ++ [r]) ls := by simp [up, Sig.push]
theorem push_up : S.push r = up S [r] [] := by simp [up, Sig.push]
theorem up_up {B' : List Rec} {ls' : List ALoop} : up (up S B ls) B' ls' = up S (B ++ B') (ls ++ ls') := by simp [up]
theorem up_enter : enterLoop (up S B ls) lp = up S B (ls ++ [lp]) := by simp [up, enterLoop]
theorem up_acts : (up S B ls).acts.length = S.acts.length + B.length := by simp [up]
theorem up_loops : (up S B ls).loops.length = S.loops.length + ls.length := by simp [up]
theorem Ok.up (h : Ok S) : Ok (up S B ls) := ⟨by have := h.ro; simp [Sx.up]; omega, by have := h.lro; simp [Sx.up]; omega⟩
theorem up_top : (up S (r :: B) ls).box S.acts.length b = r.boxes[b]? := by
 simp [Sig.box, up]
theorem up_ready {l : Nat} (h : Ready l lp S) : Ready l lp (up S B ls) :=
 ⟨by have := (List.getElem?_eq_some_iff.1 h.get).1; simp only [up]; rw [List.getElem?_append_left this]; exact h.get, h.ready, h.pend, h.lro⟩
theorem modify_app {α : Type} {l l' : List α} {k : Nat} {f : α → α} (h : k < l.length) : (l ++ l').modify k f = l.modify k f ++ l' := by
 apply List.ext_getElem?
 intro i
 rw [List.getElem?_modify]
 by_cases hi : i < l.length
 ·rw [List.getElem?_append_left hi, List.getElem?_append_left (by simpa using hi), List.getElem?_modify]
 ·rw [List.getElem?_append_right (by omega), List.getElem?_append_right (by simp; omega), List.length_modify]
  have : ¬ k = i := by omega
  simp [this]
theorem up_busy {l : Nat} (h : l < S.loops.length) : busy l (up S B ls) = up (busy l S) B ls := by
 simp only [busy, setLoop, up, modify_app h]
theorem up_over {l : Nat} {e : AExit} (h : l < S.loops.length) : over l e (up S B ls) = up (over l e S) B ls := by
 simp only [over, setLoop, up, modify_app h]
end
section
variable {α ι : Type} (I : List α → ι → Prop) (stop : List α → α → Bool) (O : List α → α → ι → Prop)
def Ends : List α → List α → Bool → ι → Prop
 | done, [], b, i => b = true ∧ I done i
 | done, x :: r, b, i => if stop done x = true then b = false ∧ O done x i else Ends (done ++ [x]) r b i
variable {I stop O}
theorem Ends.all {done xs : List α} {i : ι} (h : Ends I stop O done xs true i) : I (done ++ xs) i := by
 induction xs generalizing done with
 | nil => simpa using h.2
 | cons x r ih =>
  simp only [Ends] at h
  split at h
  ·exact absurd h.1 (by simp)
  ·have := ih h; simpa using this
theorem Ends.app_t {done xs ys : List α} {i i' : ι} {b : Bool} (h : Ends I stop O done xs true i) (h' : Ends I stop O (done ++ xs) ys b i') : Ends I stop O done (xs ++ ys) b i' := by
 induction xs generalizing done with
 | nil => simpa using h'
 | cons x r ih =>
  simp only [Ends, List.cons_append] at h ⊢
  split at h
  ·exact absurd h.1 (by simp)
  ·rename_i hs
   rw [if_neg hs]
   exact ih h (by simpa using h')
theorem Ends.app_f {done xs : List α} (ys : List α) {i : ι} (h : Ends I stop O done xs false i) : Ends I stop O done (xs ++ ys) false i := by
 induction xs generalizing done with
 | nil => exact absurd h.1 (by simp)
 | cons x r ih =>
  simp only [Ends, List.cons_append] at h ⊢
  split at h
  ·rename_i hs; rw [if_pos hs]; exact h
  ·rename_i hs; rw [if_neg hs]; exact ih h
theorem Ends.never {done xs : List α} {i : ι} {b : Bool} (hs : ∀ d x, stop d x = false) (h : Ends I stop O done xs b i) : b = true ∧ I (done ++ xs) i := by
 have : b = true := by
  induction xs generalizing done with
  | nil => exact h.1
  | cons x r ih =>
   simp only [Ends, hs] at h
   exact ih (by simpa using h)
 subst this
 exact ⟨rfl, h.all⟩
theorem Ends.first {done xs : List α} {i : ι} (h : Ends I stop O done xs false i) : ∃ pre x post, xs = pre ++ x :: post ∧ O (done ++ pre) x i ∧ stop (done ++ pre) x = true ∧ ∀ p y q, pre = p ++ y :: q → stop (done ++ p) y = false := by
 induction xs generalizing done with
 | nil => exact absurd h.1 (by simp)
 | cons x r ih =>
  simp only [Ends] at h
  split at h
  ·rename_i hs
   exact ⟨[], x, r, rfl, by simpa using h.2, by simpa using hs, fun p y q e => by simp at e⟩
  ·rename_i hs
   obtain ⟨pre, y, post, e1, e2, e3, e4⟩ := ih h
   refine ⟨x :: pre, y, post, by simp [e1], by simpa using e2, by simpa using e3, fun p z q e => ?_⟩
   cases p with
   | nil =>
    simp only [List.nil_append, List.cons.injEq] at e
    rw [← e.1]; simpa using hs
   | cons a p =>
    simp only [List.cons_append, List.cons.injEq] at e
    have := e4 p z q e.2
    rw [e.1] at this; simpa using this
end
theorem Ends.map {α β ι κ : Type} {I : List α → ι → Prop} {stop : List α → α → Bool} {O : List α → α → ι → Prop} {mk : β → α} {f : κ → ι} {d0 : List α} {I2 : List β → κ → Prop} {stop2 : List β → β → Bool} {O2 : List β → β → κ → Prop}
  (hI : ∀ dn j, I2 dn j → I (d0 ++ dn.map mk) (f j)) (hs : ∀ dn g, stop2 dn g = stop (d0 ++ dn.map mk) (mk g)) (hO : ∀ dn g j, O2 dn g j → O (d0 ++ dn.map mk) (mk g) (f j)) {xs : List β} {b : Bool} {j : κ} :
  ∀ {dn : List β}, Ends I2 stop2 O2 dn xs b j → Ends I stop O (d0 ++ dn.map mk) (xs.map mk) b (f j) := by
 induction xs with
 | nil => intro dn h; exact ⟨h.1, hI _ _ h.2⟩
 | cons x r ih =>
  intro dn h
  simp only [Ends, List.map_cons] at h ⊢
  rw [hs] at h
  by_cases hc : stop (d0 ++ dn.map mk) (mk x) = true
  ·rw [if_pos hc] at h ⊢; exact ⟨h.1, hO _ _ _ h.2⟩
  ·rw [if_neg hc] at h ⊢
   have := ih h
   simpa using this
section
variable {S : Sig} {B : List Rec} {ls : List ALoop} {lp : ALoop} {l : Nat}
theorem busy_up0 (h : S.loops.length = l) : busy l (up S B (lp :: ls)) = up S B ({ lp with ready := false } :: ls) := by
 subst h
 have : ∀ (L : List ALoop) (f : ALoop → ALoop), (L ++ lp :: ls).modify L.length f = L ++ f lp :: ls := by
  intro L f
  induction L with
  | nil => rfl
  | cons a L ih => simpa using ih
 simp only [busy, setLoop, up, this]
theorem over_up0 {e : AExit} (h : S.loops.length = l) : over l e (up S B (lp :: ls)) = up S B ({ lp with ready := false, pend := some e } :: ls) := by
 subst h
 have : ∀ (L : List ALoop) (f : ALoop → ALoop), (L ++ lp :: ls).modify L.length f = L ++ f lp :: ls := by
  intro L f
  induction L with
  | nil => rfl
  | cons a L ih => simpa using ih
 simp only [over, setLoop, up, this]
theorem ready_up0 (hs : Ok S) (h : S.loops.length = l) (hr : lp.ready = true) (hp : lp.pend = none) : Ready l lp (up S B (lp :: ls)) := by
 subst h
 exact ⟨by simp [up], hr, hp, hs.lro⟩
end
structure Hand {α ι : Type} (AP : FuncId → Option AFn) (L : Nat) (V : α → AV) (base : ι → Sig) (I : List α → ι → Prop) (stop : List α → α → Bool) (O : List α → α → ι → Prop) (X : α → Prop) (N NL M : Nat) : Prop where
 ok : ∀ i, Ok (base i)
 len : ∀ i, (base i).acts.length = N
 llen : ∀ i, (base i).loops.length = NL
 go : ∀ done x i B ls, done.length < M → I done i → X x → stop done x = false → ∃ i', callL AP (.yield L) [V x] (up (base i) B ls) = some (.v (.bool true), up (base i') B ls) ∧ I (done ++ [x]) i'
 st : ∀ done x i B ls, done.length < M → I done i → X x → stop done x = true → ∃ i', callL AP (.yield L) [V x] (up (base i) B ls) = some (.v (.bool false), up (base i') B ls) ∧ O done x i'
section
variable {α ι : Type} {AP : FuncId → Option AFn} {L : Nat} {V : α → AV} {base : ι → Sig} {I : List α → ι → Prop} {stop : List α → α → Bool} {O : List α → α → ι → Prop} {X : α → Prop} {N NL M : Nat}
theorem Hand.one (h : Hand AP L V base I stop O X N NL M) {done : List α} {x : α} {i : ι} {B : List Rec} {ls : List ALoop} (hm : done.length < M) (hi : I done i) (hx : X x) (r : Rec) :
  ∃ b i', callL AP (.yield L) [V x] ((up (base i) B ls).push r) = some (.v (.bool b), (up (base i') B ls).push r) ∧ Ends I stop O done [x] b i' := by
 rw [up_push]
 cases hs : stop done x with
 | false =>
  obtain ⟨i', h1, h2⟩ := h.go done x i (B ++ [r]) ls hm hi hx hs
  exact ⟨true, i', by rw [h1, up_push], by simp [Ends, hs, h2]⟩
 | true =>
  obtain ⟨i', h1, h2⟩ := h.st done x i (B ++ [r]) ls hm hi hx hs
  exact ⟨false, i', by rw [h1, up_push], by simp [Ends, hs, h2]⟩
end
structure Mid (X : Rec → Sig) (d : Nat) : Prop where
 get : ∀ r, (X r).acts[d]? = some r
 on : ∀ r f, (X r).onRec d f = X (f r)
 ro : ∀ r, (X r).ro ≤ d
theorem mid_loop {s : Sig} {l : Nat} {lp : ALoop} {B : List Rec} {ls : List ALoop} (hs : Ok s) : Mid (fun r => up (busy l (enterLoop (s.push r) lp)) B ls) s.acts.length := by
 refine ⟨fun r => ?_, fun r f => ?_, fun r => hs.ro⟩
 ·simp [up, busy, setLoop, enterLoop, Sig.push]
 ·have : ((s.acts ++ [r]) ++ B).modify s.acts.length f = (s.acts ++ [f r]) ++ B := by
   rw [modify_app (by simp)]
   congr 1
   exact (congrArg Sig.acts (onRec_push s r f) : _)
  simp only [Sig.onRec, up, busy, setLoop, enterLoop, Sig.push, this]
section
variable {X : Rec → Sig} {d : Nat} {r r0 : Rec}
theorem Mid.lt (h : Mid X d) (r : Rec) : d < (X r).acts.length := (List.getElem?_eq_some_iff.1 (h.get r)).1
theorem Mid.onPush (h : Mid X d) (f : Rec → Rec) : ((X r).push r0).onRec d f = (X (f r)).push r0 := by
 rw [← h.on r f]
 simp only [Sig.onRec, Sig.push, modify_app (h.lt r)]
theorem Mid.box (h : Mid X d) {b : Nat} : ((X r).push r0).box d b = r.boxes[b]? := by
 have := h.lt r
 simp only [Sig.box, Sig.push]
 rw [List.getElem?_append_left this, h.get r]; rfl
theorem Mid.tok (h : Mid X d) {g : Nat} : ((X r).push r0).tok d g = (r.toks[g]?).join := by
 have := h.lt r
 simp only [Sig.tok, Sig.push]
 rw [List.getElem?_append_left this, h.get r]; rfl
theorem Mid.ntok (h : Mid X d) : ((X r).push r0).ntok d = r.toks.length := by
 have := h.lt r
 simp only [Sig.ntok, Sig.push]
 rw [List.getElem?_append_left this, h.get r]
theorem Mid.setBox (h : Mid X d) {b : Nat} {cs : List AV} : ((X r).push r0).setBox d b cs = (X ⟨r.boxes.set b cs, r.toks⟩).push r0 := h.onPush _
theorem Mid.setTok (h : Mid X d) {g : Nat} {n : Option Nat} : ((X r).push r0).setTok d g n = (X ⟨r.boxes, r.toks.set g n⟩).push r0 := h.onPush _
theorem Mid.addTok (h : Mid X d) {n : Nat} : ((X r).push r0).addTok d n = (X ⟨r.boxes, r.toks ++ [some n]⟩).push r0 := h.onPush _
theorem fitAll_closed {m : Sig} {d : Nat} : ∀ {cs : List AV}, (cs.all AV.isClosed = true) → m.fitAll d cs = some (cs, m)
 | [], _ => rfl
 | x :: r, h => by
  simp only [List.all_cons, Bool.and_eq_true] at h
  have hx : m.fit d x = some (x, m) := by
   cases x with
   | slice o es xs =>
    cases o with
    | tok => simp [AV.isClosed, AV.isClosed1] at h
    | _ => simp [Sig.fit, AV.close, AV.isClosed, AV.isClosed1]
   | ptr => simp [AV.isClosed, AV.isClosed1] at h
   | rsl => simp [AV.isClosed, AV.isClosed1] at h
   | _ => simp only [Sig.fit, AV.close, h.1, if_true, Option.map_some]
  simp only [Sig.fitAll, hx, fitAll_closed h.2]
theorem Mid.store (h : Mid X d) {b off n : Nat} {y : AV} (hc : y.cells.all AV.isClosed = true) (hn : fitN n y.cells = true) {row row' : List AV} (hb : r.boxes[b]? = some row) (ho : overN row off y.cells = some row') :
  ((X r).push r0).store n (.ptr d b off) y = some ((X ⟨r.boxes.set b row', r.toks⟩).push r0) := by
 have hlt := h.lt r
 have hcur : ((X r).push r0).cur = (X r).acts.length := cur_push _ _
 have hro : ((X r).push r0).ro ≤ d := h.ro r
 obtain ⟨h1, h2⟩ := fitN_iff.1 hn
 have hne : ¬ d = (X r).acts.length := by omega
 rw [overN_eq] at ho
 by_cases hl : off + y.cells.length ≤ row.length
 ·rw [if_pos hl] at ho
  injection ho with ho
  subst ho
  have hle : off + n ≤ row.length := by omega
  simp only [Sig.store, hro, h1, h2, and_self, if_true, hcur, hne, if_false, fitAll_closed hc, h.box, hb, hle, h.setBox]
 ·rw [if_neg hl] at ho; cases ho
theorem Mid.append (h : Mid X d) {es b : Nat} {xs : List (List AV)} {x : AV} {og : Option Nat} (ha : Acc d es xs x og r.toks) (o : Own) {ys : List (List AV)} (hy : ys ≠ []) (hl : xs.length + ys.length ≤ 4294967296) (hb : b < r.boxes.length) (hrow : ∃ c, r.boxes[b]? = some [c]) :
  ∃ x1 m1 r0' x' og' tk', appendOp ((X r).push r0) es x (.slice o es ys) = some (x1, m1) ∧ m1.store 1 (.ptr d b 0) x1 = some ((X ⟨r.boxes.set b [x'], tk'⟩).push r0') ∧ r0'.boxes = r0.boxes ∧ Acc d es (xs ++ ys) x' og' tk' ∧ og' ≠ none ∧
   (∀ es2 xs2 x2 og2, Acc d es2 xs2 x2 og2 r.toks → (og2 ≠ og ∨ og2 = none) → Acc d es2 xs2 x2 og2 tk' ∧ og2 ≠ og') := by
 have hlt := h.lt r
 have hcur : ∀ q, ((X r).push q).cur = (X r).acts.length := fun q => cur_push _ _
 have hro : ∀ q, ((X r).push q).ro ≤ d := fun q => h.ro r
 have hne : ¬ d = (X r).acts.length := by omega
 have hne2 : ¬ (X r).acts.length ≤ d := by omega
 obtain ⟨c, hrow⟩ := hrow
 have hy' : ys.isEmpty = false := by cases ys <;> simp_all
 cases og with
 | none =>
  obtain ⟨rfl, rfl⟩ := ha
  have hl' : ys.length ≤ 4294967296 := by simpa using hl
  refine ⟨.slice (.tok (X r).acts.length r0.toks.length) es ys, (X r).push ⟨r0.boxes, r0.toks ++ [some ys.length]⟩, ⟨r0.boxes, (r0.toks ++ [some ys.length]).set r0.toks.length none⟩, .slice (.tok d r.toks.length) es ys, some r.toks.length, r.toks ++ [some ys.length], ?_, ?_, rfl, ⟨by simpa using hy, rfl, by simp⟩, by simp, ?_⟩
  ·simp [appendOp, hy', Own.isNil, most, hl', hcur, ntok_push, addTok_push]
  ·have hcell : (AV.slice (.tok (X r).acts.length r0.toks.length) es ys).cells = [.slice (.tok (X r).acts.length r0.toks.length) es ys] := rfl
   have htok : ((X r).push ⟨r0.boxes, r0.toks ++ [some ys.length]⟩).tok (X r).acts.length r0.toks.length = some ys.length := by rw [tok_push]; simp
   have hfit : ((X r).push ⟨r0.boxes, r0.toks ++ [some ys.length]⟩).fitAll d [.slice (.tok (X r).acts.length r0.toks.length) es ys] = some ([.slice (.tok d r.toks.length) es ys], (X ⟨r.boxes, r.toks ++ [some ys.length]⟩).push ⟨r0.boxes, (r0.toks ++ [some ys.length]).set r0.toks.length none⟩) := by
    simp only [Sig.fitAll, Sig.fit, hne2, if_false, hcur, htok, and_self, if_true, h.ntok, setTok_push, h.addTok]
   simp only [Sig.store, hro, hcell, List.length_cons, List.length_nil, List.all_cons, List.all_nil, AV.isCell, Bool.and_self, and_self, if_true, hcur, hne, if_false, hfit, h.box, hrow, h.setBox, Nat.zero_add, Nat.le_refl, setCells, List.set_cons_zero]
  ·intro es2 xs2 x2 og2 h2 _
   cases og2 with
   | none => exact ⟨h2, by simp⟩
   | some g =>
    obtain ⟨a, b, c⟩ := h2
    have := (List.getElem?_eq_some_iff.1 c).1
    exact ⟨⟨a, b, by rw [List.getElem?_append_left this]; exact c⟩, by simp; omega⟩
 | some g =>
  obtain ⟨hx, rfl, hg⟩ := ha
  refine ⟨.slice (.tok d g) es (xs ++ ys), (X ⟨r.boxes, r.toks.set g (some (xs.length + ys.length))⟩).push r0, r0, .slice (.tok d g) es (xs ++ ys), some g, r.toks.set g (some (xs.length + ys.length)), ?_, ?_, rfl, ⟨by simp [hx], rfl, ?_⟩, by simp, ?_⟩
  ·simp [appendOp, hy', most, hl, h.tok, hg, hro, h.setTok]
  ·have hcell : (AV.slice (.tok d g) es (xs ++ ys)).cells = [.slice (.tok d g) es (xs ++ ys)] := rfl
   have hcur' : ∀ q tk, ((X ⟨r.boxes, tk⟩).push q).cur = (X ⟨r.boxes, tk⟩).acts.length := fun q tk => cur_push _ _
   have hro' : ∀ q tk, ((X ⟨r.boxes, tk⟩).push q).ro ≤ d := fun q tk => h.ro _
   have hne' : ∀ tk, ¬ d = (X ⟨r.boxes, tk⟩).acts.length := fun tk => by have := h.lt ⟨r.boxes, tk⟩; omega
   have hfit : ∀ m : Sig, m.fitAll d [.slice (.tok d g) es (xs ++ ys)] = some ([.slice (.tok d g) es (xs ++ ys)], m) := fun m => by
    simp only [Sig.fitAll, Sig.fit, Nat.le_refl, if_true]
   simp only [Sig.store, hro', hcell, List.length_cons, List.length_nil, List.all_cons, List.all_nil, AV.isCell, Bool.and_self, and_self, if_true, hcur', hne', if_false, hfit, h.box, hrow, h.setBox, Nat.zero_add, Nat.le_refl, setCells, List.set_cons_zero]
  ·rw [List.getElem?_set_self (List.getElem?_eq_some_iff.1 hg).1]; simp
  ·intro es2 xs2 x2 og2 h2 hne
   cases og2 with
   | none => exact ⟨h2, by simp⟩
   | some g2 =>
    obtain ⟨a, b, c⟩ := h2
    have hne : g2 ≠ g := by rcases hne with h | h <;> simp_all
    exact ⟨⟨a, b, by rw [List.getElem?_set_ne (fun e => hne e.symm)]; exact c⟩, by simpa using hne⟩
end
end Go.Ax.Sx

/-
  From the executor's answer to a law's row: the arguments opened and shut.
-/
namespace Go.Ax
open Go.ChangeShapes Go.WideShapes Go.ChangeAt Go.RowKit Sx
def ArgShp (P : Program) (d : Nat) (t : TypeId) (x : AV) : Prop :=
 match P.underlying t with
 | some (.struct _) | some (.array _ _) => ∃ avs, x = .agg avs ∧ Shp P d t avs
 | _ => Shp P d t [x]
inductive ArgsShp (P : Program) (d : Nat) : List TypeId → List AV → Prop
 | nil : ArgsShp P d [] []
 | cons {t : TypeId} {ts : List TypeId} {x : AV} {xs : List AV} (h : ArgShp P d t x) (r : ArgsShp P d ts xs) : ArgsShp P d (t :: ts) (x :: xs)
section
variable {H : Type} {enc : TypeId × Value → H} {P : Program} {w : World}
theorem cells_other {v : Value} {cs : Array Value} (h : v.cells = cs) (hn : ∀ c, v ≠ .agg c) : cs.toList = [v] := by
 subst h
 cases v <;> first | rfl | exact absurd rfl (hn _)
theorem reads_agg {avs : List AV} {cs : Array Value} (h : RL w avs cs.toList) : Reads w (.agg avs) (.agg cs) :=
 .agg (by simpa using h.len.symm) (fun c hc => by
  obtain ⟨i, hi⟩ := List.getElem?_of_mem hc
  have hil := (List.getElem?_eq_some_iff.1 hi).1
  have hl := h.len
  have hcl : i < cs.toList.length := by omega
  exact (h.get i c (cs.toList[i]) hi (List.getElem?_eq_getElem hcl)).2) (fun i hi => by
  have hl := h.len
  have hcl : i < cs.toList.length := by omega
  have := (h.get i avs[i] (cs.toList[i]) (List.getElem?_eq_getElem hi) (List.getElem?_eq_getElem hcl)).1
  have e : cs.getD i Go.undef = cs.toList[i] := by
   have : i < cs.size := by simpa using hcl
   simp [Array.getD, this]
  rw [e]; exact this)
theorem open_arg {d : Nat} {r : Reach} {b0 : Nat} {t : TypeId} {v : Value} {x : DataW H} {ps : List MemPlace} (hok : okT P d t = true) (hval : Value.okWide P w r b0 t v) (h : DataW.Trod enc P w 0 (fun _ => true) true t v x ps) :
  ∃ a, Reads w a v ∧ ArgShp P d t a := by
 obtain ⟨fuel, hf⟩ := h
 obtain ⟨avs, h1, h2, h3⟩ := open_type d t fuel _ _ hok hf
 cases d with
 | zero => simp [okT] at hok
 | succ d =>
  unfold okT at hok
  cases hu : P.underlying t with
  | none => rw [hu] at hok; cases hok
  | some u =>
   rw [hu] at hok
   have key : (∀ c, v ≠ .agg c) → (P.cellsOf t = 1) → ∃ a, Reads w a v ∧ Shp P (d + 1) t [a] := by
    intro hn h1c
    have hc := cells_other (v := v) rfl hn
    rw [hc] at h1
    have hl := h1.len
    match avs, hl, h1, h3 with
    | [a], _, h1, h3 => exact ⟨a, (h1.get 0 a v rfl rfl).1, h3⟩
   cases u with
   | bool =>
    obtain ⟨a, k1, k2⟩ := key (fun c e => by subst e; simp only [Value.okWide, hu] at hval; simp [Cell.okWide, Cell.ok, hu] at hval) (by simpa using hok)
    exact ⟨a, k1, by simp only [ArgShp, hu]; exact k2⟩
   | int k =>
    obtain ⟨a, k1, k2⟩ := key (fun c e => by subst e; simp only [Value.okWide, hu] at hval; simp [Cell.okWide, Cell.ok, hu] at hval) (by simpa using hok)
    exact ⟨a, k1, by simp only [ArgShp, hu]; exact k2⟩
   | string =>
    obtain ⟨a, k1, k2⟩ := key (fun c e => by subst e; simp only [Value.okWide, hu] at hval; simp [Cell.okWide, Cell.ok, hu] at hval) (by simpa using hok)
    exact ⟨a, k1, by simp only [ArgShp, hu]; exact k2⟩
   | slice e =>
    obtain ⟨a, k1, k2⟩ := key (fun c e => by subst e; simp only [Value.okWide, hu] at hval; simp [Cell.okWide, Cell.ok, hu] at hval) (by simp only [Bool.and_eq_true, decide_eq_true_eq] at hok; exact hok.1.1)
    exact ⟨a, k1, by simp only [ArgShp, hu]; exact k2⟩
   | struct fs =>
    simp only [Value.okWide, hu] at hval
    obtain ⟨cs, rfl, _, _⟩ := hval
    exact ⟨.agg avs, reads_agg h1, by simp only [ArgShp, hu]; exact ⟨avs, rfl, h3⟩⟩
   | array n e =>
    simp only [Value.okWide, hu] at hval
    obtain ⟨cs, rfl, _, _⟩ := hval
    exact ⟨.agg avs, reads_agg h1, by simp only [ArgShp, hu]; exact ⟨avs, rfl, h3⟩⟩
   | _ => cases hok
theorem open_args {d : Nat} {r : Reach} {b0 : Nat} : ∀ {ts : List TypeId} {vs : List Value} {ds : List (DataW H)} {ps : List MemPlace}, (∀ t ∈ ts, okT P d t = true) → (∀ (j : Nat) t v, ts[j]? = some t → vs[j]? = some v → Value.okWide P w r b0 t v) →
  DataW.TrodAll enc P w 0 (fun _ => true) true ts vs ds ps → ∃ as : List AV, ArgsShp P d ts as ∧ as.length = vs.length ∧ ∀ (i : Nat) a v, as[i]? = some a → vs[i]? = some v → Reads w a v
 | [], [], [], _, _, _, _ => ⟨[], .nil, rfl, fun i a v h => by simp at h⟩
 | t :: ts, v :: vs, x :: ds, _, hok, hval, ⟨p, q, h1, h2, _⟩ => by
  obtain ⟨a, k1, k2⟩ := open_arg (hok t (List.mem_cons_self ..)) (hval 0 t v rfl rfl) h1
  obtain ⟨as, m1, m2, m3⟩ := open_args (fun t ht => hok t (List.mem_cons_of_mem _ ht)) (fun j t v h1 h2 => hval (j + 1) t v (by simpa using h1) (by simpa using h2)) h2
  exact ⟨a :: as, .cons k2 m1, by simp [m2], fun i b u hb hu => by
   cases i with
   | zero => simp at hb hu; subst hb hu; exact k1
   | succ i => simp at hb hu; exact m3 i b u hb hu⟩
theorem trodAll_len {sp : Nat → Bool} {held : Bool} {base : Nat} : ∀ {ts : List TypeId} {vs : List Value} {ds : List (DataW H)} {ps : List MemPlace}, DataW.TrodAll enc P w base sp held ts vs ds ps → ds.length = ts.length
 | [], [], [], _, _ => rfl
 | t :: ts, v :: vs, x :: ds, _, ⟨p, q, h1, h2, _⟩ => by simp [trodAll_len h2]
theorem stay_args (hl : laidOutB P = true) {W' : World} (hb : Below w.heap.size w W') {sp : Nat → Bool} : ∀ {ts : List TypeId} {vs : List Value} {ds : List (DataW H)} {ps : List MemPlace}, (∀ t ∈ ts, P.readableRec t = true ∧ t < P.types.size) →
  DataW.TrodAll enc P w 0 (fun _ => true) true ts vs ds ps → (∀ p ∈ ps, p.block < w.heap.size) → (∀ p ∈ ps, sp p.block = true) → DataW.TrodAll enc P W' 0 sp true ts vs ds ps
 | [], [], [], _, _, h, _, _ => h
 | t :: ts, v :: vs, x :: ds, _, hT, ⟨p, q, h1, h2, e⟩, hlt, hsp => by
  subst e
  have ht := hT t (List.mem_cons_self ..)
  exact ⟨p, q, WideElems.Trod_stays hl ht.1 ht.2 h1 (fun y hy => hb.same (hlt y (List.mem_append_left _ hy))) (fun y hy => hsp y (List.mem_append_left _ hy)),
   stay_args hl hb (fun t ht => hT t (List.mem_cons_of_mem _ ht)) h2 (fun y hy => hlt y (List.mem_append_right _ hy)) (fun y hy => hsp y (List.mem_append_right _ hy)), rfl⟩
theorem post_of_below {f : Func} {s : ChangeSpec} {apart fresh handsOn again : Bool} {W W' : World} {args : Array Value} {v : Value} {ds gs : List (DataW H)} {before pa pv : List MemPlace}
  (hW : DataW.Whole enc P f.params.toList s.vars apart W args.toList ds gs before)
  (hres : ∀ (b : Nat) (sp : Nat → Bool) (hd : Bool), DataW.TrodAll enc P W' b sp hd f.resultTypes.toList (v.resultList f.resultTypes.size) (s.fn H (ds ++ gs)).results [])
  (hargs : ∀ sp : Nat → Bool, (∀ p ∈ before, sp p.block = true) → DataW.TrodAll enc P W' 0 sp true f.params.toList args.toList (s.fn H (ds ++ gs)).args pa)
  (hvars : ∀ sp : Nat → Bool, (∀ p ∈ before, sp p.block = true) → DataW.TrodVars enc P W' sp s.vars (s.fn H (ds ++ gs)).vars pv)
  (hps : before = pa ++ pv) (hb : Below W.heap.size W W')
  (hok : ∀ (j : Nat) (t : TypeId) (r : Value), f.resultTypes[j]? = some t → (v.resultList f.resultTypes.size)[j]? = some r → Value.okWide P W' .any 0 t r) :
  s.post enc P f apart fresh handsOn again W args v W' := by
 have hlt : ∀ p ∈ before, p.block < W.heap.size := fun p hp => hW.lt p hp
 have hold : ∀ p ∈ before, (fun b => decide (b < W.heap.size)) p.block = true := fun p hp => by simpa using hlt p hp
 refine ⟨ds, gs, before, [], pa, pv, hW, hres _ _ _, hargs _ hold, hvars _ hold, World.keptBut_mono (fun p hp => ⟨hp, ?_⟩) (hb.frame (· ∈ before)), fun _ => ?_⟩
 ·rw [hps, List.mem_append] at hp
  exact Or.inr hp
 ·obtain ⟨_, _, _, _, _, hz, hn⟩ := hW
  refine ⟨hok, _, _, ([] ++ pa) ++ pv, ⟨[] ++ pa, pv, trodAll_append (hargs _ (fun _ _ => rfl)) (hres _ _ _), hvars _ (fun _ _ => rfl), rfl, ?_, ?_⟩, ?_⟩
  ·intro b off hp
   have hin : MemPlace.cell b off ∈ before := by rw [hps]; simpa using hp
   rw [hb.frozen (hlt _ hin)]
   exact hz b off hin
  ·intro ha
   have := hn ha
   rw [hps] at this
   simpa using this
  ·intro p hp _
   rw [hps]
   simpa using hp
def LawOk (P : Program) (AP : FuncId → Option AFn) (f : FuncId) (d : Nat) (ts : List TypeId) : Prop :=
 ∀ (as : List AV) (s : Sig), Ok s → ArgsShp P d ts as → callL AP (.fn f) as s = some (.v (.bool true), s)
theorem law_calls {AP : FuncId → Option AFn} (hp : ProgOk P AP) {f : FuncId} {d : Nat} {ts : List TypeId} (hlaw : LawOk P AP f d ts) {args : Array Value} {ds : List (DataW H)} {ps : List MemPlace} {r : Reach} {b0 : Nat} (hok : ∀ t ∈ ts, okT P d t = true)
  (hval : ∀ (j : Nat) t v, ts[j]? = some t → args.toList[j]? = some v → Value.okWide P w r b0 t v) (hA : DataW.TrodAll enc P w 0 (fun _ => true) true ts args.toList ds ps) :
  Calls P f args w fun e w' => e = .returned (.bool true) ∧ Below w.heap.size w w' := by
 obtain ⟨as, h1, h2, h3⟩ := open_args hok hval hA
 obtain ⟨n, hn⟩ := callL_iff.1 (hlaw as startS ⟨Nat.le_refl _, Nat.le_refl _⟩ h1)
 refine run_sound hp (by simpa using h2.symm) (fun i hi => ?_) hn
 have hi' : i < args.toList.length := by omega
 have e : args.getD i Go.undef = args.toList[i] := by
  have : i < args.size := by simpa using hi'
  simp [Array.getD, this]
 rw [e]
 exact h3 i as[i] args.toList[i] (List.getElem?_eq_getElem hi) (List.getElem?_eq_getElem hi')
end
end Go.Ax

/-
  What a shape says, type by type.
-/
namespace Go.Ax.Sx
section
variable {P : Program} {d : Nat} {t : TypeId} {avs : List AV}
theorem shp_int (hu : P.underlying t = some (.int .i64)) (h : Shp P (d + 1) t avs) : ∃ x, avs = [I x] ∧ inI x := by
 simp only [Shp, hu] at h
 obtain ⟨x, rfl, hw⟩ := h
 refine ⟨x, rfl, ?_⟩
 simp only [Lit.wf, Bool.and_eq_true, decide_eq_true_eq] at hw
 have h1 : IntKind.i64.min = -9223372036854775808 := by decide
 have h2 : IntKind.i64.max = 9223372036854775807 := by decide
 unfold inI; omega
theorem shp_str (hu : P.underlying t = some .string) (h : Shp P (d + 1) t avs) : ∃ x : ByteArray, avs = [.v (.string x)] ∧ x.size ≤ maxLen := by
 simp only [Shp, hu] at h; exact h
theorem shp_struct {fs : Array Field} (hu : P.underlying t = some (.struct fs)) (h : Shp P (d + 1) t avs) : ∃ ps : List (List AV), avs = ps.flatten ∧ ps.length = fs.size ∧ ∀ (i : Nat) (f : Field) (p : List AV), fs[i]? = some f → ps[i]? = some p → Shp P d f.type p := by
 simp only [Shp, hu] at h
 obtain ⟨ps, h1, h2, h3⟩ := h
 exact ⟨ps, h1, h2, fun i f p a b => (h3 i f p a b).2⟩
theorem shp_slice {e : TypeId} (hu : P.underlying t = some (.slice e)) (h : Shp P (d + 1) t avs) : ∃ o rows, avs = [.slice o (P.cellsOf e) rows] ∧ (o = .any ∨ (o = .nilS ∧ rows = [])) ∧ rows.length ≤ maxLen ∧ ∀ r ∈ rows, Shp P d e r := by
 simp only [Shp, hu] at h
 obtain ⟨o, rows, h1, h2, h3, h4⟩ := h
 exact ⟨o, rows, h1, h2, h3, fun r a => (h4 r a).2⟩
theorem rows_map {α : Type} {q : List AV → α → Prop} : ∀ {rows : List (List AV)}, (∀ r ∈ rows, ∃ a, q r a) → ∃ l : List α, rows.length = l.length ∧ ∀ (i : Nat) r a, rows[i]? = some r → l[i]? = some a → q r a
 | [], _ => ⟨[], rfl, fun i r a h => by simp at h⟩
 | r :: rows, h => by
  obtain ⟨a, ha⟩ := h r (List.mem_cons_self ..)
  obtain ⟨l, h1, h2⟩ := rows_map (rows := rows) (fun r hr => h r (List.mem_cons_of_mem _ hr))
  exact ⟨a :: l, by simp [h1], fun i r' a' h3 h4 => by
   cases i with
   | zero => simp at h3 h4; subst h3 h4; exact ha
   | succ i => simp at h3 h4; exact h2 i r' a' h3 h4⟩
theorem rows_eq {α : Type} {f : α → List AV} {g : α → Prop} {rows : List (List AV)} (h : ∀ r ∈ rows, ∃ a, r = f a ∧ g a) : ∃ l : List α, rows = l.map f ∧ ∀ a ∈ l, g a := by
 obtain ⟨l, h1, h2⟩ := rows_map (q := fun r a => r = f a ∧ g a) h
 refine ⟨l, ?_, fun a ha => ?_⟩
 ·apply List.ext_getElem?
  intro i
  by_cases hi : i < rows.length
  ·obtain ⟨a, ha⟩ := get_some (l := l) (k := i) (by omega)
   rw [List.getElem?_map, ha, List.getElem?_eq_getElem hi]
   exact congrArg some (h2 i _ a (List.getElem?_eq_getElem hi) ha).1
  ·rw [List.getElem?_eq_none (by omega), List.getElem?_eq_none (by simp; omega)]
 ·obtain ⟨i, hi⟩ := List.getElem?_of_mem ha
  have hil := (List.getElem?_eq_some_iff.1 hi).1
  obtain ⟨r, hr⟩ := get_some (l := rows) (k := i) (by omega)
  exact (h2 i r a hr hi).2
end
end Go.Ax.Sx

/-
  What is taken from the library's shelf.
-/
namespace Go.Ax.Sx.Sc
def zeros (n : Nat) : List AV := List.replicate n (.v (.bool false))
def dig2 (n : Nat) : List UInt8 := if n < 10 then [UInt8.ofNat (48 + n)] else [UInt8.ofNat (48 + n / 10), UInt8.ofNat (48 + n % 10)]
def itoaF : List AV → Option AV
 | [.v (.int .i64 n)] => if 0 ≤ n ∧ n < 100 then some (.v (.string ⟨(dig2 n.toNat).toArray⟩)) else none
 | _ => none
def stringsOf : List (List AV) → Option (List (List UInt8))
 | [] => some []
 | [.v (.string s)] :: r => (stringsOf r).map (s.data.toList :: ·)
 | _ => none
def joinF : List AV → Option AV
 | [.slice _ _ rows, .v (.string sep)] => (stringsOf rows).bind fun l =>
  if l.length ≤ 1000000 ∧ (sep.data.toList.intercalate l).length ≤ 1000000 then some (.v (.string ⟨(sep.data.toList.intercalate l).toArray⟩)) else none
 | _ => none
def pItoa : AFn := .prim itoaF
def pJoin : AFn := .prim joinF
end Go.Ax.Sx.Sc
