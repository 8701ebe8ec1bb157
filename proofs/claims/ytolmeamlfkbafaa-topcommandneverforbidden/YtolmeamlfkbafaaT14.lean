/- A part of the proof. -/
import Derived.Test.YtolmeamlfkbafaaT13
namespace Go.Ax.Sx.Cm
open Go.Ax
set_option linter.unusedSimpArgs false
set_option linter.unusedVariables false
set_option maxRecDepth 100000
def cpS {α : Type} (es : Nat) (l : List α) : Sl α := ⟨if l.isEmpty then .full else .any, es, l⟩
theorem cpS_ok {α : Type} {es : Nat} {l : List α} : (cpS es l).ok es := by
 refine ⟨.inr rfl, ?_⟩
 unfold cpS
 cases l with
 | nil => exact .inr (.inl rfl)
 | cons _ _ => exact .inl rfl
theorem flat_I : ∀ {l : List Int}, (l.map rowI).flatten = l.map I
 | [] => rfl
 | a :: l => by rw [List.map_cons, List.flatten_cons, flat_I]; rfl
section
variable {s : Sig}
theorem b_CopyInts {l : List Int} {y : AV} (hs : Ok s) (hl : l.length ≤ 1000000) (hy : ∀ r, (s.push r).srcRows 1 y = some (l.map I, l.length)) : callL AP (.fn 27) [y] s = some ((cpS 1 l).v rowI, s) := by
 cases hl0 : l with
 | nil =>
  have ha : ∀ r, appendiOp (s.push r) 1 (.slice .full 1 []) y = some (.slice .full 1 [], s.push r) := fun r => by
   have := hy r
   rw [hl0] at this
   simp only [appendiOp, this, Option.bind_some, List.length_nil, if_true]
  rw [callL_go (show AP 27 = some c_b_CopyInts from rfl) rfl]
  simp (maxSteps := 1000000) only [go_sem, b_b_CopyInts, ha, Nat.reduceEqDiff, reduceCtorEq, ↓reduceIte]
  rfl
 | cons a q =>
  rw [← hl0]
  have hn : ¬ l.length = 0 := by rw [hl0]; simp
  have hm : l.length ≤ most := by simp only [most]; omega
  have ha : appendiOp (s.push ⟨[], []⟩) 1 (.slice .full 1 []) y = some (.rsl s.acts.length 0 0 1 l.length 0, s.push ⟨[l.map I], []⟩) := by
   simp only [appendiOp, hy, Option.bind_some, hn, if_false, List.isEmpty_nil, Own.isNil, Own.isFull, Bool.false_eq_true, true_and, and_self, false_or, if_true, hm, cur_push, nbox_push, addBox_push]
   rfl
  have hlv : leaveVal (s.push ⟨[l.map I], []⟩) (.rsl s.acts.length 0 0 1 l.length 0) = some ((cpS 1 l).v rowI) := by
   show leaveCell (s.push ⟨[l.map I], []⟩) (.rsl s.acts.length 0 0 1 l.length 0) = _
   have hle : 0 + l.length * 1 ≤ (l.map I).length := by simp
   have hch : chunks 1 l.length (l.map I) = l.map rowI := by
    have := chunks_take (es := 1) (rows := l.map rowI) (cs := l.map I) (fun r hr => by obtain ⟨_, _, rfl⟩ := List.mem_map.1 hr; rfl) (by rw [List.take_of_length_le (by simp), flat_I])
    rwa [List.length_map] at this
   simp only [leaveCell, cur_push, if_true, box_push, List.getElem?_cons_zero, Option.bind_some, if_pos hle, close_ints, Option.or, Option.map_some, List.drop_zero, hch]
   unfold cpS
   rw [hl0]; rfl
  generalize (cpS 1 l).v rowI = Z at *
  rw [callL_go (show AP 27 = some c_b_CopyInts from rfl) rfl]
  simp (maxSteps := 1000000) only [go_sem, b_b_CopyInts, ha, hlv, Nat.reduceEqDiff, reduceCtorEq, ↓reduceIte]
theorem src_sl {m : Sig} {o : Own} {e : Nat} {l : List Int} (he : l = [] ∨ e = 1) : m.srcRows 1 (.slice o e (l.map rowI)) = some (l.map I, l.length) := by
 have : (l.map rowI).isEmpty = true ∨ e = 1 := by
  rcases he with h | h
  ·left; rw [h]; rfl
  ·exact .inr h
 simp only [Sig.srcRows, if_pos this, flat_I, List.length_map]
theorem src_rsl {m : Sig} {d b c n : Nat} {l : List Int} (hb : m.box d b = some (l.map I)) (hn : n = l.length) : m.srcRows 1 (.rsl d b 0 1 n c) = some (l.map I, l.length) := by
 subst hn
 have : 0 + l.length * 1 ≤ (l.map I).length := by simp
 simp only [Sig.srcRows, if_true, hb, Option.bind_some, if_pos this, List.drop_zero]
 rw [List.take_of_length_le (by simp)]
theorem app_lit {α : Type} {f : α → List AV} {es : Nat} {x : Sl α} {tk : List (Option Nat)} (hx : x.l = [] ∨ x.e = es) (hl : x.l.length ≤ 1000000) :
  ∃ X tk', (∀ bx, appendOp (s.push ⟨bx, tk⟩) es (.slice .full es []) (x.v f) = some (X, s.push ⟨bx, tk'⟩)) ∧ (∀ m : Sig, leaveCell m X = some ((cpS es x.l).v f)) ∧ (∀ m : Sig, leaveVal m X = some ((cpS es x.l).v f)) ∧ ∃ o, X = .slice o es (x.l.map f) := by
 obtain ⟨o, e, l⟩ := x
 cases l with
 | nil => exact ⟨.slice .full es [], tk, fun bx => rfl, fun m => rfl, fun m => rfl, _, rfl⟩
 | cons a r =>
  have he : e = es := by rcases hx with h | h; (exact absurd h (by simp)); exact h
  subst he
  have hm : (a :: r).length ≤ most := by have hl : (a :: r).length ≤ 1000000 := hl; simp only [most]; omega
  refine ⟨.slice (.tok s.acts.length tk.length) e ((a :: r).map f), tk ++ [some (a :: r).length], fun bx => ?_, fun m => rfl, fun m => rfl, _, rfl⟩
  have h1 : ((a :: r).map f).isEmpty = false := rfl
  simp only [appendOp, h1, Bool.false_eq_true, if_false, List.length_map, List.length_nil, Nat.zero_add, or_true, hm, and_self, if_true, cur_push, ntok_push, addTok_push, List.nil_append]
theorem b_CopyTexts {x : Sl ByteArray} (hs : Ok s) (hx : x.l = [] ∨ x.e = 1) (hl : x.l.length ≤ 1000000) : callL AP (.fn 35) [x.v rowS] s = some ((cpS 1 x.l).v rowS, s) := by
 obtain ⟨X, tk', h1, h2, h3, o, rfl⟩ := app_lit (s := s) (f := rowS) (tk := []) hx hl
 generalize (cpS 1 x.l).v rowS = Z at *
 simp only [Sl.v] at h1
 rw [callL_go (show AP 35 = some c_b_CopyTexts from rfl) rfl]
 simp (maxSteps := 1000000) only [go_sem, b_b_CopyTexts, h1, h3, Nat.reduceEqDiff, reduceCtorEq, ↓reduceIte]
theorem r_CopyFile {x : Sl Ac} (hs : Ok s) (hx : x.l = [] ∨ x.e = 3) (hl : x.l.length ≤ 1000000) : callL AP (.fn 22) [x.v rowAc] s = some ((cpS 3 x.l).v rowAc, s) := by
 obtain ⟨X, tk', h1, h2, h3, o, rfl⟩ := app_lit (s := s) (f := rowAc) (tk := []) hx hl
 generalize (cpS 3 x.l).v rowAc = Z at *
 simp only [Sl.v] at h1
 rw [callL_go (show AP 22 = some c_r_CopyFile from rfl) rfl]
 simp (maxSteps := 1000000) only [go_sem, b_r_CopyFile, h1, h3, Nat.reduceEqDiff, reduceCtorEq, ↓reduceIte]
structure Mo.Src (m : Mo) : Prop where
 modes : m.modes.l = [] ∨ m.modes.e = 1
 kinds : m.kinds.l = [] ∨ m.kinds.e = 2
 rules : m.rules.l = [] ∨ m.rules.e = 5
 ml : m.modes.l.length ≤ 1000000
 kl : m.kinds.l.length ≤ 1000000
 rl : m.rules.l.length ≤ 1000000
structure Upl.Src (u : Upl) : Prop where
 m : u.m.Src
 file : u.file.l = [] ∨ u.file.e = 3
 fl : u.file.l.length ≤ 1000000
theorem Mo.Ok.src {m : Mo} (h : m.Ok) : m.Src := ⟨h.modes.1, h.kinds.1, h.rules.1, h.ml, h.kl, h.rl⟩
theorem Upl.Ok.src {u : Upl} (h : u.Ok) : u.Src := ⟨h.m.src, h.file.1, h.fl⟩
def cpMo (m : Mo) : Mo := ⟨cpS 1 m.modes.l, cpS 2 m.kinds.l, cpS 5 m.rules.l⟩
def cpUp (u : Upl) : Upl := ⟨cpMo u.m, cpS 3 u.file.l, u.win, u.fl⟩
def cpSt (x : StV) : StV := ⟨x.at_, x.mode, cpS 2 x.done.l, x.halted, x.base, x.told, cpS 1 x.down.l, cpS 2 x.up.l⟩
theorem cpMo_Ok {m : Mo} (h : m.Ok) : (cpMo m).Ok := ⟨cpS_ok, cpS_ok, cpS_ok, h.ml, h.kl, h.rl, h.mz, h.kz, h.rz⟩
theorem cpUp_Ok {u : Upl} (h : u.Ok) : (cpUp u).Ok := ⟨cpMo_Ok h.m, cpS_ok, h.fl⟩
theorem cpSt_Ok {x : StV} (h : x.Ok) : (cpSt x).Ok := ⟨cpS_ok, cpS_ok, cpS_ok, h.dl, h.nl, h.ul⟩
theorem r_CopyModel {m : Mo} (hs : Ok s) (hm : m.Src) : callL AP (.fn 12) [m.v] s = some ((cpMo m).v, s) := by
 obtain ⟨X, tk1, h1, h2, h3, o, rfl⟩ := app_lit (s := s) (f := rowKd) (tk := []) hm.kinds hm.kl
 obtain ⟨Y, tk2, k1, k2, k3, o2, rfl⟩ := app_lit (s := s) (f := rowRu) (tk := tk1) hm.rules hm.rl
 have hc : ∀ q : Sig, callL AP (.fn 35) [m.modes.v rowS] (roS q) = some ((cpS 1 m.modes.l).v rowS, roS q) := fun q => b_CopyTexts ok_roS hm.modes hm.ml
 have hlv : ∀ q : Sig, leaveCell q ((cpS 1 m.modes.l).v rowS) = some ((cpS 1 m.modes.l).v rowS) := fun q => Sl.leavec cpS_ok
 have hres : (cpMo m).v = .agg [(cpS 1 m.modes.l).v rowS, (cpS 2 m.kinds.l).v rowKd, (cpS 5 m.rules.l).v rowRu] := rfl
 rw [hres]
 have e1 : (cpS 1 m.modes.l).v rowS = .slice (cpS 1 m.modes.l).o 1 (m.modes.l.map rowS) := rfl
 have e2 : (cpS 2 m.kinds.l).v rowKd = .slice (cpS 2 m.kinds.l).o 2 (m.kinds.l.map rowKd) := rfl
 have e3 : (cpS 5 m.rules.l).v rowRu = .slice (cpS 5 m.rules.l).o 5 (m.rules.l.map rowRu) := rfl
 rw [e1] at hc hlv
 rw [e2] at h2
 rw [e3] at k2
 rw [e1, e2, e3]
 generalize (cpS 1 m.modes.l).o = q1 at *
 generalize (cpS 2 m.kinds.l).o = q2 at *
 generalize (cpS 5 m.rules.l).o = q3 at *
 simp only [Sl.v] at h1 k1 hc
 rw [callL_go (show AP 12 = some c_r_CopyModel from rfl) rfl]
 simp (maxSteps := 1000000) only [go_sem, b_r_CopyModel, rowMo, hs, hc, h1, k1, hlv, h2, k2, Nat.reduceEqDiff, Nat.reduceAdd, ↓reduceIte]
theorem r_CopyUplink {u : Upl} (hs : Ok s) (hu : u.Src) : callL AP (.fn 7) [u.v] s = some ((cpUp u).v, s) := by
 have h1 : ∀ q : Sig, callL AP (.fn 12) [u.m.v] (roS q) = some ((cpMo u.m).v, roS q) := fun q => r_CopyModel ok_roS hu.m
 have h2 : ∀ r, callL AP (.fn 22) [u.file.v rowAc] (s.push r) = some ((cpS 3 u.file.l).v rowAc, s.push r) := fun r => r_CopyFile (hs.push r) hu.file hu.fl
 have l1 : ∀ q : Sig, leaveCell q ((cpS 1 u.m.modes.l).v rowS) = some ((cpS 1 u.m.modes.l).v rowS) := fun q => Sl.leavec cpS_ok
 have l2 : ∀ q : Sig, leaveCell q ((cpS 2 u.m.kinds.l).v rowKd) = some ((cpS 2 u.m.kinds.l).v rowKd) := fun q => Sl.leavec cpS_ok
 have l3 : ∀ q : Sig, leaveCell q ((cpS 5 u.m.rules.l).v rowRu) = some ((cpS 5 u.m.rules.l).v rowRu) := fun q => Sl.leavec cpS_ok
 have l4 : ∀ q : Sig, leaveCell q ((cpS 3 u.file.l).v rowAc) = some ((cpS 3 u.file.l).v rowAc) := fun q => Sl.leavec cpS_ok
 have hres : (cpUp u).v = .agg [(cpS 1 u.m.modes.l).v rowS, (cpS 2 u.m.kinds.l).v rowKd, (cpS 5 u.m.rules.l).v rowRu, (cpS 3 u.file.l).v rowAc, I u.win, I u.fl] := rfl
 have hres1 : (cpMo u.m).v = .agg [(cpS 1 u.m.modes.l).v rowS, (cpS 2 u.m.kinds.l).v rowKd, (cpS 5 u.m.rules.l).v rowRu] := rfl
 rw [hres]
 rw [hres1] at h1
 have e1 : (cpS 1 u.m.modes.l).v rowS = .slice (cpS 1 u.m.modes.l).o 1 (u.m.modes.l.map rowS) := rfl
 have e2 : (cpS 2 u.m.kinds.l).v rowKd = .slice (cpS 2 u.m.kinds.l).o 2 (u.m.kinds.l.map rowKd) := rfl
 have e3 : (cpS 5 u.m.rules.l).v rowRu = .slice (cpS 5 u.m.rules.l).o 5 (u.m.rules.l.map rowRu) := rfl
 have e4 : (cpS 3 u.file.l).v rowAc = .slice (cpS 3 u.file.l).o 3 (u.file.l.map rowAc) := rfl
 rw [e1, e2, e3] at h1
 rw [e4] at h2
 rw [e1] at l1
 rw [e2] at l2
 rw [e3] at l3
 rw [e4] at l4
 rw [e1, e2, e3, e4]
 generalize (cpS 1 u.m.modes.l).o = q1 at *
 generalize (cpS 2 u.m.kinds.l).o = q2 at *
 generalize (cpS 5 u.m.rules.l).o = q3 at *
 generalize (cpS 3 u.file.l).o = q4 at *
 simp only [Mo.v, rowMo, Sl.v] at h1 h2
 rw [callL_go (show AP 7 = some c_r_CopyUplink from rfl) rfl]
 simp (maxSteps := 1000000) only [go_sem, b_r_CopyUplink, rowUp, hs, h1, h2, l1, l2, l3, l4, Nat.reduceEqDiff, Nat.reduceAdd, ↓reduceIte]
theorem r_Copy {x : StV} (hs : Ok s) (hx : x.Ok) : callL AP (.fn 9) [x.v] s = some ((cpSt x).v, s) := by
 obtain ⟨X, tk1, h1, h2, h3, o, rfl⟩ := app_lit (s := s) (f := rowDn) (tk := []) hx.done.1 hx.dl
 obtain ⟨Y, tk2, k1, k2, k3, o2, rfl⟩ := app_lit (s := s) (f := rowUp2) (tk := tk1) hx.up.1 hx.ul
 have hc : ∀ r, callL AP (.fn 27) [x.down.v rowI] (s.push r) = some ((cpS 1 x.down.l).v rowI, s.push r) := fun r => b_CopyInts (hs.push r) hx.nl fun r => src_sl hx.down.1
 have l1 : ∀ q : Sig, leaveCell q ((cpS 1 x.down.l).v rowI) = some ((cpS 1 x.down.l).v rowI) := fun q => Sl.leavec cpS_ok
 have hres : (cpSt x).v = .agg [I x.at_, I x.mode, (cpS 2 x.done.l).v rowDn, B x.halted, I x.base, B x.told, (cpS 1 x.down.l).v rowI, (cpS 2 x.up.l).v rowUp2] := rfl
 rw [hres]
 have e1 : (cpS 1 x.down.l).v rowI = .slice (cpS 1 x.down.l).o 1 (x.down.l.map rowI) := rfl
 have e2 : (cpS 2 x.done.l).v rowDn = .slice (cpS 2 x.done.l).o 2 (x.done.l.map rowDn) := rfl
 have e3 : (cpS 2 x.up.l).v rowUp2 = .slice (cpS 2 x.up.l).o 2 (x.up.l.map rowUp2) := rfl
 rw [e1] at hc l1
 rw [e2] at h2
 rw [e3] at k2
 rw [e1, e2, e3]
 generalize (cpS 1 x.down.l).o = q1 at *
 generalize (cpS 2 x.done.l).o = q2 at *
 generalize (cpS 2 x.up.l).o = q3 at *
 simp only [Sl.v] at h1 k1 hc
 rw [callL_go (show AP 9 = some c_r_Copy from rfl) rfl]
 simp (maxSteps := 1000000) only [go_sem, b_r_Copy, StV.row, rowSt, hs, hc, h1, k1, l1, h2, k2, Nat.reduceEqDiff, Nat.reduceAdd, ↓reduceIte]
theorem r_CopyMoment {a b : Int} {d bb n c : Nat} {l : List Int} (hs : Ok s) (hl : l.length ≤ 1000000) (hb : s.box d bb = some (l.map I)) (hn : n = l.length) : callL AP (.fn 13) [.agg [I a, I b, .rsl d bb 0 1 n c]] s = some (.agg [I a, I b, (cpS 1 l).v rowI], s) := by
 have hc : ∀ r, callL AP (.fn 27) [.rsl d bb 0 1 n c] (s.push r) = some ((cpS 1 l).v rowI, s.push r) := fun r => b_CopyInts (hs.push r) hl fun r' => src_rsl (box_keep (box_keep hb r) r') hn
 have l1 : ∀ q : Sig, leaveCell q ((cpS 1 l).v rowI) = some ((cpS 1 l).v rowI) := fun q => Sl.leavec cpS_ok
 have e1 : (cpS 1 l).v rowI = .slice (cpS 1 l).o 1 (l.map rowI) := rfl
 rw [e1] at hc l1 ⊢
 generalize (cpS 1 l).o = q1 at *
 rw [callL_go (show AP 13 = some c_r_CopyMoment from rfl) rfl]
 simp (maxSteps := 1000000) only [go_sem, b_r_CopyMoment, hs, hc, l1, Nat.reduceEqDiff, Nat.reduceAdd, ↓reduceIte]
theorem eq_dn {x y : Int × Int} : eqOp (.agg [.int, .int]) (.agg (rowDn x)) (.agg (rowDn y)) = some (decide (x = y)) := by
 obtain ⟨a, b⟩ := x
 obtain ⟨c, d⟩ := y
 show eqCells [.int, .int] [I a, I b] [I c, I d] = _
 by_cases h1 : a = c
 ·subst h1
  by_cases h2 : b = d
  ·subst h2; simp [eqCells, eqPlain]
  ·have e : (b == d) = false := by simpa using h2
   simp [eqCells, eqPlain, h2, e]
 ·have e : (a == c) = false := by simpa using h1
  simp [eqCells, eqPlain, h1, e]
theorem r_SameDone {a b : List (Int × Int)} {o1 o2 : Own} {e1 e2 : Nat} (h1 : a = [] ∨ e1 = 2) (h2 : b = [] ∨ e2 = 2) (l1 : a.length ≤ 100000) :
  callL AP (.fn 14) [.slice o1 e1 (a.map rowDn), .slice o2 e2 (b.map rowDn)] s = some (B (decide (a = b)), s) := by
 by_cases hl : a.length = b.length
 ·have key : ∀ (k : Nat) ρ m, k ≤ a.length → (ρ 0 = .slice o1 e1 (a.map rowDn) ∧ ρ 1 = .slice o2 e2 (b.map rowDn) ∧ ρ 5 = I k ∧ m = s.push ⟨[], []⟩) → go AP f_r_SameDone (.c (.loop b_r_SameDone_l0) :: k_r_SameDone_0) ⟨ρ, m⟩ = some (B (decide (a.drop k = b.drop k)), s) := by
   refine loop_up a.length _ _ ?_ ?_
   ·rintro k ρ m hk ⟨g0, g1, g5, rfl⟩ ih
    obtain ⟨x, hx⟩ := get_some hk
    obtain ⟨y, hy⟩ := get_some (l := b) (k := k) (by omega)
    have he1 : e1 = 2 := by rcases h1 with h | h; (rw [h] at hx; simp at hx); exact h
    have he2 : e2 = 2 := by rcases h2 with h | h; (rw [h] at hy; simp at hy); exact h
    subst he1; subst he2
    have r1 := ix_map (o := o1) (es := 2) (f := rowDn) hx
    have r2 := ix_map (o := o2) (es := 2) (f := rowDn) hy
    have heq := eq_dn (x := x) (y := y)
    rw [drop_get hx, drop_get hy]
    simp only [rowDn] at r1 r2 heq
    by_cases hxy : x = y
    ·have hd : decide (x = y) = true := decide_eq_true hxy
     rw [hd] at heq
     simp (maxSteps := 1000000) only [go_sem, b_r_SameDone_l0, g0, g1, g5, lt_dec hk, r1, r2, heq, wrap_succ hk (show (a.length : Int) < _ by omega), Nat.reduceEqDiff, reduceCtorEq, ↓reduceIte]
     refine (ih _ _ ?_).trans ?_
     ·exact ⟨g0, g1, rfl, rfl⟩
     ·subst hxy; simp
    ·have hd : decide (x = y) = false := decide_eq_false hxy
     rw [hd] at heq
     simp (maxSteps := 1000000) only [go_sem, b_r_SameDone_l0, g0, g1, g5, lt_dec hk, r1, r2, heq, Nat.reduceEqDiff, reduceCtorEq, ↓reduceIte]
     simp [hxy]
   ·rintro ρ m ⟨g0, g1, g5, rfl⟩
    simp (maxSteps := 1000000) only [go_sem, b_r_SameDone_l0, b_r_SameDone_r0, g0, g5, ge_dec, Nat.reduceEqDiff, reduceCtorEq, ↓reduceIte]
    rw [List.drop_length, List.drop_eq_nil_of_le (by omega)]; rfl
  have hd : decide ((a.length : Int) ≠ (b.length : Int)) = false := by simp; omega
  rw [callL_go (show AP 14 = some c_r_SameDone from rfl) rfl]
  simp (maxSteps := 1000000) only [go_sem, b_r_SameDone, hd, Nat.reduceEqDiff, reduceCtorEq, ↓reduceIte, ne_eq]
  refine key 0 _ _ (Nat.zero_le _) ?_
  exact ⟨rfl, rfl, rfl, rfl⟩
 ·have hd : decide ((a.length : Int) ≠ (b.length : Int)) = true := by simp; omega
  have hab : decide (a = b) = false := by simp; intro e; exact hl (by rw [e])
  rw [hab]
  rw [callL_go (show AP 14 = some c_r_SameDone from rfl) rfl]
  simp (maxSteps := 1000000) only [go_sem, b_r_SameDone, hd, Nat.reduceEqDiff, reduceCtorEq, ↓reduceIte, ne_eq]
end
end Go.Ax.Sx.Cm

namespace Go.Ax.Sx.Cm
open Go.Ax
set_option linter.unusedSimpArgs false
set_option linter.unusedVariables false
set_option maxRecDepth 100000
def u0 : Upl where
 m := ⟨⟨.full, 1, [⟨#[115, 97, 102, 101]⟩, ⟨#[99, 114, 117, 105, 115, 101]⟩, ⟨#[98, 117, 114, 110]⟩]⟩, ⟨.full, 2, [⟨⟨#[119, 97, 107, 101]⟩, 1⟩, ⟨⟨#[102, 105, 114, 101]⟩, 2⟩, ⟨⟨#[115, 116, 111, 112]⟩, 1⟩, ⟨⟨#[112, 105, 110, 103]⟩, -1⟩]⟩, ⟨.full, 5, [⟨⟨#[99, 111, 108, 100]⟩, 1, 0, -1, 1⟩, ⟨⟨#[104, 101, 97, 116]⟩, 1, -1, 2, 50⟩]⟩⟩
 file := ⟨.full, 3, [⟨0, 0, 100⟩, ⟨1, 20, 200⟩, ⟨2, 30, 300⟩, ⟨1, 40, 400⟩]⟩
 win := 2
 fl := 2
theorem u0_Ok : u0.Ok := ⟨⟨⟨.inr rfl, .inr (.inl rfl)⟩, ⟨.inr rfl, .inr (.inl rfl)⟩, ⟨.inr rfl, .inr (.inl rfl)⟩, by decide, by decide, by decide, by decide, by decide, by decide⟩, ⟨.inr rfl, .inr (.inl rfl)⟩, by decide⟩
theorem u0_val : UVal u0 := ⟨by decide, by decide, by decide, by decide, by decide, by decide, by decide, by decide, by decide, by decide, by decide, by decide, by decide, by decide⟩
section
variable {s : Sig}
theorem l_Uplink (hs : Ok s) : callL AP (.fn 15) [] s = some (u0.v, s) := by
 rw [callL_go (show AP 15 = some c_l_Uplink from rfl) rfl]
 simp (maxSteps := 1000000) only [go_sem, b_l_Uplink, hs, Nat.reduceEqDiff, reduceCtorEq, Int.reduceNeg, ↓reduceIte]
 rfl
end
end Go.Ax.Sx.Cm

namespace Go.Ax.Sx.Cm
open Go.Ax
set_option linter.unusedSimpArgs false
set_option linter.unusedVariables false
set_option maxRecDepth 100000
def modesL (m : Mo) : Int → List Ac → List Int
 | _, [] => []
 | pm, a :: r => stepM m pm a :: modesL m (stepM m pm a) r
section
variable {s : Sig}
theorem command_ModesOf {m : Mo} {l : Sl Ac} (hs : Ok s) (hm : m.Ok) (hl : l.ok 3) (hll : l.l.length ≤ 12) (h0 : 0 < m.kinds.l.length) (hE : (fileE m l.l).2 = 0) (hk : ∀ a ∈ l.l, 0 ≤ a.kind ∧ a.kind < m.kinds.l.length) :
  ∃ x : Sl Int, callL AP (.fn 16) [m.v, l.v rowAc] s = some (.tuple [x.v rowI, I 0], s) ∧ x.l = modesL m 0 l.l ∧ (x.l = [] ∨ x.e = 1) := by
 have hkl := hm.kl
 have hcf : ∀ q, callL AP (.fn 36) [m.v, l.v rowAc] (s.push q) = some (.tuple [I (fileE m l.l).1, I 0], s.push q) := fun q => by
  have := command_CheckFile (s := s.push q) (l := l.l) (o := l.o) (e := l.e) (hs.push q) hm hl.1 (by omega)
  rw [hE] at this
  exact this
 have hnp := command_newProbe (bx := [rowMo m]) (tk := []) hs hm h0 hm.kl
 have key : ∀ k ρ q, k ≤ l.l.length → (ρ 8 = .ptr s.acts.length 3 0 ∧ ρ 23 = l.v rowAc ∧ ρ 24 = I l.l.length ∧ ρ 25 = I k ∧ ∃ bx pm last out og tk, q = s.push ⟨bx, tk⟩ ∧ bx[3]? = some (rowPr m pm 0 (.rsl s.acts.length 2 0 1 last.length 0)) ∧ bx[2]? = some (last.map I) ∧ LaOk m.kinds.l.length last ∧ Acc s.acts.length 1 (out.map rowI) (ρ 9) og tk ∧ out.length = k ∧ out ++ modesL m pm (l.l.drop k) = modesL m 0 l.l) →
   ∃ x : Sl Int, go AP f_command_ModesOf (.c (.loop b_command_ModesOf_l0) :: k_command_ModesOf_0) ⟨ρ, q⟩ = some (.tuple [x.v rowI, I 0], s) ∧ x.l = modesL m 0 l.l ∧ (x.l = [] ∨ x.e = 1) := by
  refine loop_ex l.l.length _ (fun o => ∃ x : Sl Int, o = some (.tuple [x.v rowI, I 0], s) ∧ x.l = modesL m 0 l.l ∧ (x.l = [] ∨ x.e = 1)) ?_ ?_
  ·rintro k ρ q hk' ⟨g8, g23, g24, g25, bx, pm, last, out, og, tk, rfl, hP, hK, hla, hA, hol, hout⟩ ih
   obtain ⟨a, ha⟩ := get_some hk'
   rw [drop_get ha] at hout
   simp only [modesL] at hout
   have hix := Sl.ix (f := rowAc) hl ha
   have hwk := wrap_succ hk' (show (l.l.length : Int) < _ by omega)
   obtain ⟨ak0, ak1⟩ := hk a (List.mem_of_getElem? ha)
   obtain ⟨ki, hki⟩ : ∃ ki : Nat, a.kind = ki := ⟨a.kind.toNat, by omega⟩
   obtain ⟨kd, hkd⟩ := get_some (l := m.kinds.l) (k := ki) (by omega)
   have hlP := (List.getElem?_eq_some_iff.1 hP).1
   have hlK := (List.getElem?_eq_some_iff.1 hK).1
   have g4 : stepM m pm a = if kd.to = -1 then pm else kd.to := by unfold stepM; rw [hki, Int.toNat_natCast, hkd]
   have g5 : stepL last a 0 = last.set ki 0 := by unfold stepL; rw [hki, Int.toNat_natCast]
   have hsl : (stepL last a 0).length = last.length := by rw [g5]; simp
   have hexe : ∀ r, callL AP (.fn 38) [.ptr s.acts.length 3 0, .agg (rowAc a)] (s.push ⟨bx ++ r, tk⟩) = some (.tuple [], s.push ⟨((bx ++ r).set 2 ((stepL last a 0).map I)).set 3 (rowPr m (stepM m pm a) 0 (.rsl s.acts.length 2 0 1 last.length 0)), tk⟩) := fun r => by
    have := command_probe_execute (X := fun r => s.push r) (d := s.acts.length) (bx := bx ++ r) (tk := tk) (m := m) (pm := pm) (pa := 0) (last := last) (P := 3) (K := 2) (a := a) (i := ki) (k := kd) (mid_here hs) (fun r => hs.push r) (box_app hP) (box_app hK) hm.kinds (by decide) hki hkd (by have := hla.l; omega)
    rw [← g4, ← g5] at this
    exact this
   obtain ⟨x', og', tk', ha1, ha2, _, _⟩ := hA.append hs .full (ys := [rowI (stepM m pm a)]) (by simp) (by simp; omega)
   have bP2 : ∀ r tk, (s.push ⟨((bx ++ r).set 2 ((stepL last a 0).map I)).set 3 (rowPr m (stepM m pm a) 0 (.rsl s.acts.length 2 0 1 last.length 0)), tk⟩).box s.acts.length 3 = some (rowPr m (stepM m pm a) 0 (.rsl s.acts.length 2 0 1 last.length 0)) := fun r tk => by
    rw [box_push, List.getElem?_set_self (by simp; omega)]
   have ih2 : ∀ ρ' r, ρ' 8 = .ptr s.acts.length 3 0 → ρ' 23 = l.v rowAc → ρ' 24 = I l.l.length → ρ' 25 = I (k + 1 : Nat) → ρ' 9 = x' → ∃ x : Sl Int, go AP f_command_ModesOf (.c (.loop b_command_ModesOf_l0) :: k_command_ModesOf_0) ⟨ρ', s.push ⟨((bx ++ r).set 2 ((stepL last a 0).map I)).set 3 (rowPr m (stepM m pm a) 0 (.rsl s.acts.length 2 0 1 last.length 0)), tk'⟩⟩ = some (.tuple [x.v rowI, I 0], s) ∧ x.l = modesL m 0 l.l ∧ (x.l = [] ∨ x.e = 1) := fun ρ' r a1 a2 a3 a4 a5 => by
    refine ih ρ' _ ⟨a1, a2, a3, a4, _, stepM m pm a, stepL last a 0, out ++ [stepM m pm a], og', tk', rfl, ?_, ?_, hla.step (by decide) (by decide), ?_, by simp [hol], by simpa using hout⟩
    ·rw [List.getElem?_set_self (by simp; omega), hsl]
    ·rw [List.getElem?_set_ne (by decide), List.getElem?_set_self (by simp; omega)]
    ·rw [a5, List.map_append]; exact ha2
   generalize stepM m pm a = SM at *
   generalize stepL last a 0 = SL at *
   simp only [rowAc, Sl.v, rowPr] at hix hexe bP2 ih2 g23
   simp (maxSteps := 1000000) only [go_sem, b_command_ModesOf_l0, g8, g23, g24, g25, hs, lt_dec hk', hix, hexe, bP2, ha1, hwk, Nat.reduceEqDiff, Nat.reduceAdd, ↓reduceIte]
   refine ih2 _ _ ?_ ?_ ?_ ?_ ?_
   all_goals first | exact g8 | exact g23 | exact g24 | rfl
  ·rintro ρ q ⟨g8, g23, g24, g25, bx, pm, last, out, og, tk, rfl, hP, hK, hla, hA, hol, hout⟩
   rw [List.drop_length] at hout
   simp only [modesL, List.append_nil] at hout
   have hlv := hA.leave (s.push ⟨bx, tk⟩)
   have hres : ∃ x : Sl Int, accV 1 (out.map rowI) = x.v rowI ∧ x.l = out ∧ (x.l = [] ∨ x.e = 1) := by
    cases out with
    | nil => exact ⟨⟨.nilS, 0, []⟩, rfl, rfl, .inl rfl⟩
    | cons a r => exact ⟨⟨.any, 1, a :: r⟩, rfl, rfl, .inr rfl⟩
   obtain ⟨x, e1, e2, e3⟩ := hres
   refine ⟨x, ?_, by rw [e2]; exact hout, e3⟩
   rw [e1] at hlv
   generalize x.v rowI = Z at *
   simp (maxSteps := 1000000) only [go_sem, b_command_ModesOf_l0, b_command_ModesOf_r0, g24, g25, ge_dec, hlv, Nat.reduceEqDiff, ↓reduceIte]
 have h2 : ∀ ρ', ρ' 8 = .ptr s.acts.length 3 0 → ρ' 23 = l.v rowAc → ρ' 24 = I l.l.length → ρ' 25 = I 0 → ρ' 9 = .slice .nilS 0 [] → ∃ x : Sl Int, go AP f_command_ModesOf (.c (.loop b_command_ModesOf_l0) :: k_command_ModesOf_0) ⟨ρ', s.push ⟨[rowMo m, rowMo m, (last0 m.kinds.l.length).map I, rowPr m 0 0 (.rsl s.acts.length 2 0 1 m.kinds.l.length 0)], []⟩⟩ = some (.tuple [x.v rowI, I 0], s) ∧ x.l = modesL m 0 l.l ∧ (x.l = [] ∨ x.e = 1) := fun ρ' a1 a2 a3 a4 a5 =>
  key 0 ρ' _ (Nat.zero_le _) ⟨a1, a2, a3, a4, _, 0, last0 m.kinds.l.length, [], none, [], rfl, by simp [last0], rfl, LaOk.zero, by rw [a5]; exact Acc.start, rfl, rfl⟩
 simp only [List.length_cons, List.length_nil, List.cons_append, List.nil_append, Nat.zero_add, Nat.reduceAdd] at hnp
 generalize (last0 m.kinds.l.length).map I = LL at *
 simp only [Mo.v, rowMo, rowPr, Sl.v] at hcf hnp h2
 rw [callL_go (show AP 16 = some c_command_ModesOf from rfl) rfl]
 simp (maxSteps := 1000000) only [go_sem, b_command_ModesOf, hcf, hnp, ne_eq, not_true, decide_false, Nat.reduceEqDiff, Nat.reduceAdd, ↓reduceIte, ne_eq, not_true]
 refine h2 _ ?_ ?_ ?_ ?_ ?_ <;> rfl
end
end Go.Ax.Sx.Cm

namespace Go.Ax.Sx.Cm
open Go.Ax
set_option linter.unusedSimpArgs false
set_option linter.unusedVariables false
set_option maxRecDepth 100000
def runOk (u : Upl) : Bool → LS → List (Nat × Int) → LS → Prop
 | _, w, [], w' => w' = w
 | fN, w, (k, n) :: r, w' => k < 9 ∧ (k ≤ 2 ∨ k = 6) ∧ evE k n = 0 ∧ PcOk u w ∧ (k = 1 ∨ k = 6 → fN = true) ∧ (eff u w k n).1 = 0 ∧ runOk u (decide (k = 1 ∨ k = 6)) (eff u w k n).2 r w'
abbrev rowEv (e : Nat × Int) : List AV := [I e.1, I e.2]
section
variable {X : Rec → Sig} {d lo : Nat} {bx : List (List AV)} {tk : List (Option Nat)} {u : Upl} {ix : Ix} {w : LS} {s : Sig}
theorem Lk.app (h : Lk d lo ix u w bx) (r : List (List AV)) : Lk d lo ix u w (bx ++ r) := by
 have hlt : ∀ {es : Nat} {rows : List (List AV)} {z x : AV} {b : Option Nat} {f : Bool}, Lst d es bx rows z b f x → ∀ j, b = some j → j < bx.length := fun {es rows z x b f} h j hj => by
  obtain ⟨_, _, _, h⟩ := h
  rw [hj] at h
  obtain ⟨_, _, hb, _⟩ := h
  exact (List.getElem?_eq_some_iff.1 hb).1
 exact ⟨box_app h.lk, box_app h.pr, box_app h.la, h.hD.same fun j hj => List.getElem?_append_left (hlt h.hD j hj), h.hN.same fun j hj => List.getElem?_append_left (hlt h.hN j hj), h.hU.same fun j hj => List.getElem?_append_left (hlt h.hU j hj),
  h.LP, h.LK, h.PK, h.nD, h.nN, h.nU, h.dDN, h.dDU, h.dNU, h.lL, h.lP, h.lK⟩
theorem Lst.leaveE {α : Type} {f : α → List AV} {es : Nat} {l' : List α} {b : Option Nat} {fr : Bool} {z X : AV} (h : Lst s.acts.length es bx (l'.map f) z b fr X) : ∃ y : Sl α, leaveCell (s.push ⟨bx, tk⟩) X = some (y.v f) ∧ y.l = l' ∧ y.ok es := by
 obtain ⟨h1, h2, h3, h⟩ := h
 cases b with
 | none =>
  obtain ⟨hl, rfl, hz⟩ := h
  have hl : l' = [] := by simpa using hl
  subst hl
  rcases hz with rfl | rfl
  ·exact ⟨⟨.nilS, 0, []⟩, rfl, rfl, .inl rfl, .inr (.inr ⟨rfl, rfl⟩)⟩
  ·exact ⟨⟨.full, es, []⟩, rfl, rfl, .inl rfl, .inr (.inl rfl)⟩
 | some b =>
  obtain ⟨cs, cap, hb1, rfl, hcs, htk, hclo, -⟩ := h
  have hle : 0 + (l'.map f).length * es ≤ cs.length := by
   rw [hcs, Nat.zero_add]; exact Nat.mul_le_mul_right _ (by omega)
  refine ⟨⟨.any, es, l'⟩, ?_, rfl, .inr rfl, .inl rfl⟩
  simp only [leaveCell, cur_push, if_true, box_push, hb1, Option.bind_some, if_pos hle, hclo, Option.or, Option.map_some, List.drop_zero, chunks_take h1 htk]
def zero8 : List AV := zeroSt.row
theorem command_Replay {l : Sl (Nat × Int)} {w' : LS} (hs : Ok s) (hu : u.Ok) (hv : UVal u) (hl : l.ok 2) (hll : l.l.length ≤ 200) (hrun : runOk u true ⟨cs0, 0, 0, last0 u.m.kinds.l.length⟩ l.l w') :
  ∃ (y : Sl (Int × Int)) (z : Sl Int) (t : Sl (Int × Bool)), callL AP (.fn 39) [u.v, l.v rowEv] s = some (.tuple [.agg (rowSt w'.q (y.v rowDn) (z.v rowI) (t.v rowUp2)), I 0, I 0], s) ∧ y.l = w'.q.done ∧ y.ok 2 := by
 have hcu : ∀ q, callL AP (.fn 21) [u.v] (s.push q) = some (I 0, s.push q) := fun q => by rw [command_CheckUplink (hs.push q) hu, hv.e]
 have hbg := command_begin (bx := [rowUp u, zero8]) (tk := []) hs hu hv.k0
 have h200 : decide ((l.l.length : Int) ≤ 200) = true := decide_eq_true (by omega)
 have key : ∀ k ρ q, k ≤ l.l.length → (ρ 8 = .ptr s.acts.length 6 0 ∧ ρ 4 = .ptr s.acts.length 1 0 ∧ ρ 26 = l.v rowEv ∧ ρ 27 = I l.l.length ∧ ρ 28 = I k ∧ ∃ bx tk ix w fN, q = s.push ⟨bx, tk⟩ ∧ Lk s.acts.length 2 ix u w bx ∧ ix.L = 6 ∧ ix.fD = true ∧ ix.fU = true ∧ (fN = true → ix.fN = true) ∧ bx[1]? = some zero8 ∧ runOk u fN w (l.l.drop k) w') →
   ∃ (y : Sl (Int × Int)) (z : Sl Int) (t : Sl (Int × Bool)), go AP f_command_Replay (.c (.loop b_command_Replay_l0) :: k_command_Replay_0) ⟨ρ, q⟩ = some (.tuple [.agg (rowSt w'.q (y.v rowDn) (z.v rowI) (t.v rowUp2)), I 0, I 0], s) ∧ y.l = w'.q.done ∧ y.ok 2 := by
  refine loop_ex l.l.length _ (fun o => ∃ (y : Sl (Int × Int)) (z : Sl Int) (t : Sl (Int × Bool)), o = some (.tuple [.agg (rowSt w'.q (y.v rowDn) (z.v rowI) (t.v rowUp2)), I 0, I 0], s) ∧ y.l = w'.q.done ∧ y.ok 2) ?_ ?_
  ·rintro k ρ q hk ⟨g8, g4, g26, g27, g28, bx, tk, ix, w, fN, rfl, hlk, iL, iD, iU, iN, h1, hr⟩ ih
   obtain ⟨e, he⟩ := get_some hk
   rw [drop_get he] at hr
   obtain ⟨ek, en⟩ := e
   obtain ⟨r1, r2, r3, r4, r5, r6, r7⟩ := hr
   have hix := Sl.ix (f := rowEv) hl he
   have hwk := wrap_succ hk (show (l.l.length : Int) < _ by omega)
   have hce : ∀ q, callL AP (.fn 25) [.agg [I ek, I en]] (s.push q) = some (I 0, s.push q) := fun q => by rw [command_CheckEvent (hs.push q), r3]
   obtain ⟨ix', by_, tk', p1, p2, p3, p4, p5, p6⟩ := command_link_process (X := fun r => s.push r) (tk := tk) (mid_here hs) (fun r => hs.push r) (hlk.app [[I ek, I en]]) r4 iD iU (fun h => iN (r5 h)) r1 r3
   rw [iL, r6] at p1
   have ih2 : ∀ ρ', ρ' 8 = .ptr s.acts.length 6 0 → ρ' 4 = .ptr s.acts.length 1 0 → ρ' 26 = l.v rowEv → ρ' 27 = I l.l.length → ρ' 28 = I (k + 1 : Nat) → ∃ (y : Sl (Int × Int)) (z : Sl Int) (t : Sl (Int × Bool)), go AP f_command_Replay (.c (.loop b_command_Replay_l0) :: k_command_Replay_0) ⟨ρ', s.push ⟨by_, tk'⟩⟩ = some (.tuple [.agg (rowSt w'.q (y.v rowDn) (z.v rowI) (t.v rowUp2)), I 0, I 0], s) ∧ y.l = w'.q.done ∧ y.ok 2 := fun ρ' a1 a2 a3 a4 a5 => by
    refine ih ρ' _ ⟨a1, a2, a3, a4, a5, by_, tk', ix', _, _, rfl, p2, by rw [p3.L, iL], (p6.2 r2).1, (p6.2 r2).2, fun h => p6.1 (of_decide_eq_true h), ?_, r7⟩
    rw [p4 1 (by decide)]
    exact box_app h1
   simp only [rowEv, Sl.v] at hix ih2 g26
   simp (maxSteps := 1000000) only [go_sem, b_command_Replay_l0, g8, g26, g27, g28, hs, lt_dec hk, hix, hce, p1, hwk, ne_eq, not_true, decide_false, Nat.reduceEqDiff, ↓reduceIte, ne_eq, not_true]
   refine ih2 _ ?_ ?_ ?_ ?_ ?_
   all_goals first | exact g8 | exact g4 | exact g26 | exact g27 | rfl
  ·rintro ρ q ⟨g8, g4, g26, g27, g28, bx, tk, ix, w, fN, rfl, hlk, iL, iD, iU, iN, h1, hr⟩
   rw [List.drop_length] at hr
   have hr : w' = w := hr
   subst hr
   have hl1 := (List.getElem?_eq_some_iff.1 h1).1
   have bL : (s.push ⟨bx, tk⟩).box s.acts.length 6 = some (rowLk u w'.q ix.xD ix.xN ix.xU (.ptr s.acts.length ix.P 0)) := by rw [box_push, ← iL]; exact hlk.lk
   have cells : ∀ {es : Nat} {rows : List (List AV)} {z X : AV} {b : Option Nat} {f : Bool}, Lst s.acts.length es bx rows z b f X → X.isCell = true := fun {es rows z X b f} h => by
    obtain ⟨_, _, _, h⟩ := h
    cases b with
    | none => obtain ⟨_, rfl, h | h⟩ := h <;> rw [h] <;> rfl
    | some b => obtain ⟨_, _, _, rfl, _⟩ := h; rfl
   have hst : (s.push ⟨bx, tk⟩).store 8 (.ptr s.acts.length 1 0) (.agg (rowSt w'.q ix.xD ix.xN ix.xU)) = some (s.push ⟨bx.set 1 (rowSt w'.q ix.xD ix.xN ix.xU), tk⟩) := by
    rw [store_ptr hs, h1]
    have hf : fitN 8 (AV.agg (rowSt w'.q ix.xD ix.xN ix.xU)).cells = true := by
     rw [fitN_iff]
     refine ⟨rfl, ?_⟩
     simp only [AV.cells, rowSt, List.all_cons, List.all_nil, cells hlk.hD, cells hlk.hN, cells hlk.hU]; rfl
    rw [hf]; rfl
   have bR : (s.push ⟨bx.set 1 (rowSt w'.q ix.xD ix.xN ix.xU), tk⟩).box s.acts.length 1 = some (rowSt w'.q ix.xD ix.xN ix.xU) := by rw [box_push, List.getElem?_set_self hl1]
   obtain ⟨y, y1, y2, y3⟩ := Lst.leaveE (s := s) (bx := bx.set 1 (rowSt w'.q ix.xD ix.xN ix.xU)) (tk := tk) (hlk.hD.same fun j hj => by rw [List.getElem?_set_ne (by have := (hlk.nD j hj).2.2.2; omega)])
   obtain ⟨z, z1, z2, z3⟩ := Lst.leaveE (s := s) (bx := bx.set 1 (rowSt w'.q ix.xD ix.xN ix.xU)) (tk := tk) (hlk.hN.same fun j hj => by rw [List.getElem?_set_ne (by have := (hlk.nN j hj).2.2.2; omega)])
   obtain ⟨t, t1, t2, t3⟩ := Lst.leaveE (s := s) (bx := bx.set 1 (rowSt w'.q ix.xD ix.xN ix.xU)) (tk := tk) (hlk.hU.same fun j hj => by rw [List.getElem?_set_ne (by have := (hlk.nU j hj).2.2.2; omega)])
   refine ⟨y, z, t, ?_, y2, y3⟩
   generalize bx.set 1 (rowSt w'.q ix.xD ix.xN ix.xU) = bz at *
   generalize y.v rowDn = O1 at *
   generalize z.v rowI = O2 at *
   generalize t.v rowUp2 = O3 at *
   generalize ix.xD = Y1 at *
   generalize ix.xN = Y2 at *
   generalize ix.xU = Y3 at *
   simp only [rowSt, rowLk] at bL hst bR
   simp (maxSteps := 1000000) only [go_sem, b_command_Replay_l0, b_command_Replay_r0, g8, g4, g27, g28, ge_dec, bL, hst, bR, y1, z1, t1, Nat.reduceEqDiff, Nat.reduceAdd, ↓reduceIte]
 obtain ⟨b0, hb0⟩ : ∃ b0, b0 = [rowUp u, zero8, rowUp u, rowMo u.m, (last0 u.m.kinds.l.length).map I, rowPr u.m 0 0 (.rsl s.acts.length 4 0 1 u.m.kinds.l.length 0), rowLk u cs0 nilV nilV nilV (.ptr s.acts.length 5 0)] := ⟨_, rfl⟩
 have hbg' : callL AP (.inl 41) [u.v] (s.push ⟨[rowUp u, zero8], []⟩) = some (.ptr s.acts.length 6 0, s.push ⟨b0, []⟩) := by rw [hb0]; exact hbg
 have hlk0 : Lk s.acts.length 2 ⟨6, 5, 4, nilV, nilV, nilV, nilV, nilV, nilV, none, none, none, true, true, true⟩ u ⟨cs0, 0, 0, last0 u.m.kinds.l.length⟩ b0 := by
  rw [hb0]
  have hnil : ∀ es, 0 < es → Lst s.acts.length es [rowUp u, zero8, rowUp u, rowMo u.m, (last0 u.m.kinds.l.length).map I, rowPr u.m 0 0 (.rsl s.acts.length 4 0 1 u.m.kinds.l.length 0), rowLk u cs0 nilV nilV nilV (.ptr s.acts.length 5 0)] [] nilV none true nilV := fun es he =>
   ⟨fun r hr => (by cases hr), fun r hr => (by cases hr), he, rfl, rfl, .inl rfl⟩
  refine ⟨rfl, ?_, rfl, hnil 2 (by decide), hnil 1 (by decide), hnil 2 (by decide), by decide, by decide, by decide, fun b hb => (by cases hb), fun b hb => (by cases hb), fun b hb => (by cases hb), fun b hb => (by cases hb), fun b hb => (by cases hb), fun b hb => (by cases hb), by decide, by decide, by decide⟩
  show some (rowPr u.m 0 0 (.rsl s.acts.length 4 0 1 u.m.kinds.l.length 0)) = some (rowPr u.m 0 0 (.rsl s.acts.length 4 0 1 (last0 u.m.kinds.l.length).length 0))
  simp [last0]
 have h2 : ∀ ρ', ρ' 8 = .ptr s.acts.length 6 0 → ρ' 4 = .ptr s.acts.length 1 0 → ρ' 26 = l.v rowEv → ρ' 27 = I l.l.length → ρ' 28 = I 0 → ∃ (y : Sl (Int × Int)) (z : Sl Int) (t : Sl (Int × Bool)), go AP f_command_Replay (.c (.loop b_command_Replay_l0) :: k_command_Replay_0) ⟨ρ', s.push ⟨b0, []⟩⟩ = some (.tuple [.agg (rowSt w'.q (y.v rowDn) (z.v rowI) (t.v rowUp2)), I 0, I 0], s) ∧ y.l = w'.q.done ∧ y.ok 2 := fun ρ' a1 a2 a3 a4 a5 =>
  key 0 ρ' _ (Nat.zero_le _) ⟨a1, a2, a3, a4, a5, b0, [], _, _, true, rfl, hlk0, rfl, rfl, rfl, fun _ => rfl, by rw [hb0]; rfl, hrun⟩
 clear hb0 hbg hlk0
 simp only [rowUp, zero8, zeroSt, StV.row, rowSt, Sl.v, List.map_nil] at hbg' hcu h2
 rw [callL_go (show AP 39 = some c_command_Replay from rfl) rfl]
 simp (maxSteps := 1000000) only [go_sem, b_command_Replay, rowUp, hcu, hbg', command_unless, first0_2, h200, ne_eq, not_true, decide_false, Nat.reduceEqDiff, Nat.reduceAdd, ↓reduceIte, ne_eq, not_true]
 refine h2 _ ?_ ?_ ?_ ?_ ?_ <;> rfl
theorem command_Executed {l : Sl (Nat × Int)} {w' : LS} (hs : Ok s) (hu : u.Ok) (hv : UVal u) (hl : l.ok 2) (hll : l.l.length ≤ 200) (hrun : runOk u true ⟨cs0, 0, 0, last0 u.m.kinds.l.length⟩ l.l w') :
  ∃ y : Sl (Int × Int), callL AP (.fn 17) [u.v, l.v rowEv] s = some (.tuple [y.v rowDn, I 0], s) ∧ y.l = w'.q.done ∧ y.ok 2 := by
 obtain ⟨y, z, t, h1, h2, h3⟩ := command_Replay (s := s.push ⟨[rowUp u], []⟩) (hs.push _) hu hv hl hll hrun
 refine ⟨y, ?_, h2, h3⟩
 have hlv : ∀ m : Sig, leaveVal m (y.v rowDn) = some (y.v rowDn) := fun m => Sl.leave h3
 simp only [Upl.v, rowUp, rowSt, Sl.v] at h1 hlv
 rw [callL_go (show AP 17 = some c_command_Executed from rfl) rfl]
 simp (maxSteps := 1000000) only [go_sem, b_command_Executed, rowUp, hs, h1, hlv, Nat.reduceEqDiff, Nat.reduceAdd, ↓reduceIte]
theorem t_commandShown (hs : Ok s) : callL AP (.fn 4) [] s = some (B true, s) := by
 have h1 : ∀ q, callL AP (.fn 15) [] (s.push q) = some (u0.v, s.push q) := fun q => l_Uplink (hs.push q)
 have h2 : ∀ q, ∃ x : Sl Int, callL AP (.fn 16) [u0.m.v, u0.file.v rowAc] (s.push q) = some (.tuple [x.v rowI, I 0], s.push q) ∧ x.l = [1, 2, 1, 2] ∧ (x.l = [] ∨ x.e = 1) := fun q => by
  have := command_ModesOf (s := s.push q) (m := u0.m) (l := u0.file) (hs.push q) u0_Ok.m u0_Ok.file (by decide) (by decide) (by decide) (by decide)
  exact this
 have hrun : runOk u0 true ⟨cs0, 0, 0, last0 u0.m.kinds.l.length⟩ [(1, 0), (6, 0), (2, 0), (2, 0)] ⟨⟨0, 1, [(0, 0)], false, 0, false, [], [(1, false), (1, false)]⟩, 1, 0, [0, -1, -1, -1]⟩ := by
  have hpc : ∀ w : LS, LaOk 4 w.last → w.pa = 0 → w.q.at_ = 0 → w.q.base = 0 → w.q.done.length ≤ 2 → w.q.up.length ≤ 2 → (w.q.down = [] ∨ w.q.down = [0] ∨ w.q.down = [0, 0]) → PcOk u0 w := fun w a b c d e f g => by
   refine ⟨⟨u0_val, u0_Ok, a, by omega, by omega, by omega, by rcases g with g | g | g <;> rw [g] <;> decide, by omega⟩, by omega, by omega, by omega, by omega, ?_⟩
   rcases g with g | g | g <;> rw [g] <;> decide
  have hla : ∀ l : List Int, l.length = 4 → (∀ v ∈ l, -1 ≤ v ∧ v ≤ 1000000000000) → LaOk 4 l := fun l a b => ⟨a, b⟩
  refine ⟨by decide, by decide, by decide, hpc _ (hla _ (by decide) (by decide)) rfl rfl rfl (by decide) (by decide) (by decide), fun _ => rfl, by decide, ?_⟩
  refine ⟨by decide, by decide, by decide, hpc _ (hla _ (by decide) (by decide)) rfl rfl rfl (by decide) (by decide) (by decide), fun _ => rfl, by decide, ?_⟩
  refine ⟨by decide, by decide, by decide, hpc _ (hla _ (by decide) (by decide)) rfl rfl rfl (by decide) (by decide) (by decide), fun _ => rfl, by decide, ?_⟩
  refine ⟨by decide, by decide, by decide, hpc _ (hla _ (by decide) (by decide)) (by decide) (by decide) (by decide) (by decide) (by decide) (by decide), fun h => by omega, by decide, ?_⟩
  rfl
 have h3 : ∀ q, ∃ y : Sl (Int × Int), callL AP (.fn 17) [u0.v, .slice .full 2 [[I 1, I 0], [I 6, I 0], [I 2, I 0], [I 2, I 0]]] (s.push q) = some (.tuple [y.v rowDn, I 0], s.push q) ∧ y.l = [(0, 0)] ∧ y.ok 2 := fun q =>
  command_Executed (s := s.push q) (u := u0) (l := ⟨.full, 2, [(1, 0), (6, 0), (2, 0), (2, 0)]⟩) (hs.push q) u0_Ok u0_val ⟨.inr rfl, .inr (.inl rfl)⟩ (by decide) hrun
 obtain ⟨x, x1, x2, x3⟩ := h2 ⟨[rowUp u0], []⟩
 obtain ⟨y, y1, y2, y3⟩ := h3 ⟨[rowUp u0], []⟩
 have hi : ∀ m : Sig, callL AP (.fn 18) [x.v rowI, .slice .full 1 [[I 1], [I 2], [I 1], [I 2]]] m = some (B true, m) := fun m => by
  have := b_Ints (s := m) (a := x.l) (b := [1, 2, 1, 2]) (o1 := x.o) (o2 := .full) (e1 := x.e) (e2 := 1) x3 (.inr rfl) (by rw [x2]; decide)
  rw [decide_eq_true x2] at this
  exact this
 have hd : ∀ m : Sig, callL AP (.fn 14) [y.v rowDn, .slice .full 2 [[I 0, I 0]]] m = some (B true, m) := fun m => by
  have := r_SameDone (s := m) (a := y.l) (b := [(0, 0)]) (o1 := y.o) (o2 := .full) (e1 := y.e) (e2 := 2) y3.1 (.inr rfl) (by rw [y2]; decide)
  rw [decide_eq_true y2] at this
  exact this
 simp only [Upl.v, Mo.v, rowMo, rowUp, Sl.v] at h1 x1 y1 hi hd
 rw [callL_go (show AP 4 = some c_t_commandShown from rfl) rfl]
 simp (maxSteps := 1000000) only [go_sem, b_t_commandShown, hs, h1, x1, y1, hi, hd, Nat.reduceEqDiff, Nat.reduceAdd, ↓reduceIte]
end
end Go.Ax.Sx.Cm

namespace Go.Ax.Sx.Cm
open Go.Ax
set_option linter.unusedSimpArgs false
set_option linter.unusedVariables false
set_option maxRecDepth 100000
theorem repW_q {u : Upl} {w : LS} : (repW u w).q.done = w.q.done ∧ (repW u w).q.halted = w.q.halted ∧ (repW u w).q.at_ = w.q.at_ ∧ (repW u w).q.mode = w.q.mode ∧ (repW u w).q.base = w.q.base ∧ (repW u w).q.told = w.q.told ∧ (repW u w).q.down = w.q.down ∧
  ((repW u w).q.up = w.q.up ∨ ((w.q.up.length : Int) < u.fl ∧ (repW u w).q.up = w.q.up ++ [((w.q.done.length : Int), w.q.halted)])) := by
 unfold repW
 split
 ·rename_i h; exact ⟨rfl, rfl, rfl, rfl, rfl, rfl, rfl, .inr ⟨h, rfl⟩⟩
 ·exact ⟨rfl, rfl, rfl, rfl, rfl, rfl, rfl, .inl rfl⟩
theorem momF_app {u : Upl} {d : Int × Int} : ∀ {l : List (Int × Int)} {i : Nat} {pm : Int} {last : List Int} {a : Ac}, (∀ j, j < l.length → ∃ b, u.file.l[i + j]? = some b) → u.file.l[i + l.length]? = some a →
  momF u i pm last (l ++ [d]) = (stepM u.m (momF u i pm last l).1 a, stepL (momF u i pm last l).2 a d.2)
 | [], i, pm, last, a, _, ha => by
  simp only [List.nil_append, momF]
  rw [show u.file.l[i]? = some a by simpa using ha]
 | e :: l, i, pm, last, a, h, ha => by
  obtain ⟨b, hb⟩ := h 0 (by simp)
  rw [Nat.add_zero] at hb
  simp only [List.cons_append, momF, hb]
  exact momF_app (fun j hj => by
   have := h (j + 1) (by simp; omega)
   rwa [show i + (j + 1) = i + 1 + j by omega] at this) (by rw [← ha]; congr 1; simp; omega)
theorem momF_len {u : Upl} : ∀ {l : List (Int × Int)} {i : Nat} {pm : Int} {last : List Int}, (momF u i pm last l).2.length = last.length
 | [], _, _, _ => rfl
 | d :: l, i, pm, last => by
  simp only [momF]
  cases u.file.l[i]? with
  | none => rfl
  | some a => simp only; rw [momF_len]; simp [stepL]
theorem doneOk_mono {u : Upl} {t t' : Int} (h : t ≤ t') : ∀ {l : List (Int × Int)} {i : Nat} {prev pm : Int} {last : List Int}, doneOk u t i prev pm last l → doneOk u t' i prev pm last l
 | [], _, _, _, _, _ => trivial
 | d :: l, i, prev, pm, last, hd => by
  obtain ⟨h1, h2, h3, a, h4, h5, h6⟩ := hd
  exact ⟨h1, by omega, h3, a, h4, h5, doneOk_mono h h6⟩
theorem doneOk_app {u : Upl} {t : Int} {a : Ac} : ∀ {l : List (Int × Int)} {i : Nat} {prev pm : Int} {last : List Int}, doneOk u t i prev pm last l → (i = 0 ∧ l = [] ∨ (l = [] → prev ≤ t)) → u.file.l[i + l.length]? = some a → accB u.m (momF u i pm last l).1 t (momF u i pm last l).2 a = true →
  doneOk u t i prev pm last (l ++ [(((i + l.length : Nat) : Int), t)])
 | [], i, prev, pm, last, _, hp, ha, hac => by
  refine ⟨by simp, Int.le_refl _, ?_, a, by simpa using ha, hac, trivial⟩
  rcases hp with ⟨h, _⟩ | h
  ·exact .inl h
  ·exact .inr (h rfl)
 | d :: l, i, prev, pm, last, hd, hp, ha, hac => by
  obtain ⟨h1, h2, h3, b, h4, h5, h6⟩ := hd
  refine ⟨h1, h2, h3, b, h4, h5, ?_⟩
  simp only [momF, h4] at hac
  have := doneOk_app (a := a) h6 (.inr fun _ => h2) (by rw [← ha]; congr 1; simp; omega) hac
  rwa [show ((i + 1 + l.length : Nat) : Int) = ((i + (d :: l).length : Nat) : Int) by simp; omega] at this
theorem doneOk_file {u : Upl} {t : Int} : ∀ {l : List (Int × Int)} {i : Nat} {prev pm : Int} {last : List Int}, doneOk u t i prev pm last l → ∀ j, j < l.length → ∃ b, u.file.l[i + j]? = some b
 | d :: l, i, prev, pm, last, hd, j, hj => by
  obtain ⟨h1, h2, h3, b, h4, h5, h6⟩ := hd
  cases j with
  | zero => exact ⟨b, h4⟩
  | succ j =>
   have := doneOk_file h6 j (by simpa using hj)
   rwa [show i + 1 + j = i + (j + 1) by omega] at this
theorem doneOk_last {u : Upl} {t : Int} (hv : UVal u) : ∀ {l : List (Int × Int)} {i : Nat} {prev pm : Int} {last : List Int}, doneOk u t i prev pm last l → (∀ v ∈ last, v = -1 ∨ (0 ≤ v ∧ v ≤ t)) → ∀ v ∈ (momF u i pm last l).2, v = -1 ∨ (0 ≤ v ∧ v ≤ t)
 | [], _, _, _, _, _, h => h
 | d :: l, i, prev, pm, last, hd, h => by
  obtain ⟨h1, h2, h3, b, h4, h5, h6⟩ := hd
  simp only [momF, h4]
  refine doneOk_last hv h6 fun v hm => ?_
  rcases List.mem_or_eq_of_mem_set hm with hm | hm
  ·exact h v hm
  ·have hw : wi d.2 b.lo b.hi = true := by unfold accB at h5; simp only [Bool.and_eq_true] at h5; exact h5.1
   have := wi_iff.1 hw
   have := (hv.acts b (List.mem_of_getElem? h4)).2
   omega
theorem momF_mode {u : Upl} (hv : UVal u) : ∀ {l : List (Int × Int)} {i : Nat} {pm : Int} {last : List Int}, 0 ≤ pm → pm < u.m.modes.l.length → 0 ≤ (momF u i pm last l).1 ∧ (momF u i pm last l).1 < u.m.modes.l.length
 | [], _, _, _, h0, h1 => ⟨h0, h1⟩
 | d :: l, i, pm, last, h0, h1 => by
  simp only [momF]
  cases u.file.l[i]? with
  | none => exact ⟨h0, h1⟩
  | some a =>
   simp only
   refine momF_mode hv ?_ ?_
   ·unfold stepM
    split
    ·rename_i k hk
     split
     ·exact h0
     ·have := hv.to_ k (List.mem_of_getElem? hk); omega
    ·exact h0
   ·unfold stepM
    split
    ·rename_i k hk
     split
     ·exact h1
     ·have := hv.to_ k (List.mem_of_getElem? hk); omega
    ·exact h1
inductive StepK (u : Upl) (q q' : CS) : Prop
 | same (h1 : q'.done = q.done) (h2 : q'.halted = q.halted)
 | exec (h0 : q.halted = false) (h1 : q'.halted = false) (h2 : q'.at_ = q.at_) (h3 : q'.done = q.done ++ [((q.done.length : Int), q.at_)]) (a : Ac) (h4 : u.file.l[q.done.length]? = some a) (h5 : accB u.m q.mode q.at_ (momQ u q.done).2 a = true)
 | halt (h0 : q.halted = false) (h1 : q'.halted = true) (h2 : q'.at_ = q.at_) (h3 : q'.done = q.done) (a : Ac) (h4 : u.file.l[q.done.length]? = some a) (h5 : accB u.m q.mode q.at_ (momQ u q.done).2 a = false)
theorem mem_erase {α : Type} {l : List α} {i : Nat} {x : α} (h : x ∈ l.eraseIdx i) : x ∈ l := List.mem_of_mem_eraseIdx h
theorem len_erase {α : Type} {l : List α} {i : Nat} : (l.eraseIdx i).length ≤ l.length := by
 rw [List.length_eraseIdx]; split <;> omega
theorem repW_ok {u : Upl} {w : LS} (h : StOk u w.q) : StOk u (repW u w).q := by
 obtain ⟨e1, e2, e3, e4, e5, e6, e7, e8⟩ := @repW_q u w
 refine ⟨by rw [e3]; exact h.a0, by rw [e3]; exact h.a1, by rw [e1]; exact h.dl, by rw [e7]; exact h.nl, ?_, by rw [e1, e3]; exact h.done, by rw [e4, e1]; exact h.mode, by rw [e1, e2]; exact h.halted, by rw [e5]; exact h.b0, by rw [e5, e1]; exact h.b1, by rw [e6, e2, e5, e1]; exact h.told, by rw [e7]; exact h.down, ?_⟩
 ·rcases e8 with e | ⟨e0, e⟩
  ·rw [e]; exact h.ul
  ·rw [e]; simp; omega
 ·rw [e1, e2]
  rcases e8 with e | ⟨e0, e⟩
  ·rw [e]; exact h.up
  ·rw [e]
   intro r hr
   rcases List.mem_append.1 hr with hr | hr
   ·exact h.up r hr
   ·rw [List.mem_singleton.1 hr]
    exact ⟨by simp, by simp, fun hh => ⟨hh, rfl⟩⟩
theorem firstErr_4 {a b c d : Int} (h : firstErr [a, b, c, d] = 0) : a = 0 ∧ b = 0 ∧ c = 0 ∧ d = 0 := by
 rw [firstErr_0] at h
 exact ⟨h a (by simp), h b (by simp), h c (by simp), h d (by simp)⟩
theorem firstErr_2 {a b : Int} (h : firstErr [a, b] = 0) : a = 0 ∧ b = 0 := by
 rw [firstErr_0] at h
 exact ⟨h a (by simp), h b (by simp)⟩
theorem arr_step {u : Upl} {q : CS} {i : Nat} {v : Int} (hv : UVal u) (hq : StOk u q) (hd : q.down[i]? = some v) : StOk u (arrW u (loseW (wOf u q) i) v).q ∧ StepK u q (arrW u (loseW (wOf u q) i) v).q := by
 obtain ⟨v0, v1⟩ := hq.down v (List.mem_of_getElem? hd)
 have hlose : StOk u (loseW (wOf u q) i).q := ⟨hq.a0, hq.a1, hq.dl, by have := @len_erase _ q.down i; have := hq.nl; show ((q.down.eraseIdx i).length : Int) ≤ _; omega, hq.ul, hq.done, hq.mode, hq.halted, hq.b0, hq.b1, hq.told, fun x hx => hq.down x (mem_erase hx), hq.up⟩
 unfold arrW
 by_cases hc : (loseW (wOf u q) i).q.halted = false ∧ v = ((loseW (wOf u q) i).q.done.length : Int)
 ·rw [if_pos hc]
  obtain ⟨hh, hvd⟩ := hc
  have hh : q.halted = false := hh
  have hvd : v = (q.done.length : Int) := hvd
  have hvn : v.toNat = q.done.length := by omega
  obtain ⟨a, ha⟩ := get_some (show q.done.length < u.file.l.length by omega)
  rw [hvn, ha]
  simp only
  cases hA : accB u.m (loseW (wOf u q) i).pm (loseW (wOf u q) i).pa (loseW (wOf u q) i).last a with
  | true =>
   have hA : accB u.m q.mode q.at_ (momQ u q.done).2 a = true := hA
   simp only [if_true]
   have hA2 : accB u.m (momQ u q.done).1 q.at_ (momQ u q.done).2 a = true := by rw [← hq.mode]; exact hA
   have happ := doneOk_app (a := a) hq.done (by
    by_cases he : q.done = []
    ·exact .inl ⟨rfl, he⟩
    ·exact .inr fun e => absurd e he) (by simpa using ha) hA2
   have hmom := momF_app (u := u) (d := (v, q.at_)) (i := 0) (pm := 0) (last := last0 u.m.kinds.l.length) (l := q.done) (a := a) (doneOk_file hq.done) (by simpa using ha)
   have hnt : ¬ q.told = true := fun ht => by have := (hq.told ht).1; rw [hh] at this; cases this
   refine ⟨⟨hq.a0, hq.a1, ?_, hlose.nl, hq.ul, ?_, ?_, fun h => ?_, hq.b0, ?_, fun h => absurd h hnt, hlose.down, fun r hr => ?_⟩, .exec hh hh rfl (by rw [← hvd]; rfl) a ha hA⟩
   ·show (q.done ++ [(v, q.at_)]).length ≤ _
    simp; omega
   ·show doneOk u q.at_ 0 0 0 _ (q.done ++ [(v, q.at_)])
    rw [hvd]
    simpa using happ
   ·show stepM u.m q.mode a = (momF u 0 0 _ (q.done ++ [(v, q.at_)])).1
    rw [hmom, hq.mode]; rfl
   ·exact absurd (show q.halted = true from h) (by rw [hh]; simp)
   ·show q.base ≤ ((q.done ++ [(v, q.at_)]).length : Int)
    have := hq.b1
    simp; omega
   ·obtain ⟨r0, r1, r2⟩ := hq.up r hr
    refine ⟨r0, ?_, fun h => ?_⟩
    ·show r.1 ≤ ((q.done ++ [(v, q.at_)]).length : Int)
     simp; omega
    ·have := (r2 h).1; rw [hh] at this; cases this
  | false =>
   have hA : accB u.m q.mode q.at_ (momQ u q.done).2 a = false := hA
   simp only [Bool.false_eq_true, if_false]
   have hnt : ¬ q.told = true := fun ht => by have := (hq.told ht).1; rw [hh] at this; cases this
   refine ⟨⟨hq.a0, hq.a1, hq.dl, hlose.nl, hq.ul, hq.done, hq.mode, fun _ => by show q.done.length < _; omega, hq.b0, hq.b1, fun h => absurd h hnt, hlose.down, fun r hr => ?_⟩, .halt hh rfl rfl rfl a ha hA⟩
   obtain ⟨r0, r1, r2⟩ := hq.up r hr
   exact ⟨r0, r1, fun h => by have := (r2 h).1; rw [hh] at this; cases this⟩
 ·rw [if_neg hc]
  exact ⟨hlose, .same rfl rfl⟩
theorem StepK.rep {u : Upl} {q : CS} {w : LS} (h : StepK u q w.q) : StepK u q (repW u w).q := by
 obtain ⟨e1, e2, e3, _⟩ := @repW_q u w
 cases h with
 | same h1 h2 => exact .same (by rw [e1, h1]) (by rw [e2, h2])
 | exec h0 h1 h2 h3 a h4 h5 => exact .exec h0 (by rw [e2, h1]) (by rw [e3, h2]) (by rw [e1, h3]) a h4 h5
 | halt h0 h1 h2 h3 a h4 h5 => exact .halt h0 (by rw [e2, h1]) (by rw [e3, h2]) (by rw [e1, h3]) a h4 h5
theorem step_ok {u : Upl} {q : CS} {k n : Int} (hv : UVal u) (hq : StOk u q) (h : apE u q k n = 0) : StOk u (apQ u q k n) ∧ StepK u q (apQ u q k n) := by
 unfold apE at h
 by_cases he : evE k n = 0
 ·rw [if_pos he] at h
  have hk : 0 ≤ k ∧ k < 9 := by
   unfold evE at he
   by_cases hw : wi k 0 8 = true
   ·have := wi_iff.1 hw; omega
   ·rw [if_neg hw] at he; cases he
  obtain ⟨i, rfl⟩ : ∃ i : Nat, k = i := ⟨k.toNat, by omega⟩
  rw [Int.toNat_natCast] at h
  unfold apQ
  rw [Int.toNat_natCast]
  have hn : ∀ k : Nat, k ≤ 6 → evE k n = 0 → evLo k ≤ n ∧ n ≤ evHi k := fun k hk he => by
   unfold evE at he
   rw [if_pos (wi_iff.2 ⟨by omega, by omega⟩), Int.toNat_natCast, if_neg (by unfold evHi; split <;> (try split) <;> (try split) <;> (first | decide | omega))] at he
   cases hw : wi n (evLo k) (evHi k) with
   | true => exact wi_iff.1 hw
   | false => rw [hw] at he; cases he
  match i, he, hk with
  | 0, he, _ =>
   have hn0 := hn 0 (by decide) he
   simp only [evLo, evHi, if_true] at hn0
   simp only [eff] at h ⊢
   split at h
   ·cases h
   ·rename_i hc
    rw [if_neg hc]
    have hc : ¬ 1000000000000 < q.at_ + n := hc
    refine ⟨⟨by show 0 ≤ q.at_ + n; have := hq.a0; omega, by show q.at_ + n ≤ _; omega, hq.dl, hq.nl, hq.ul, doneOk_mono (by show q.at_ ≤ q.at_ + n; omega) hq.done, hq.mode, hq.halted, hq.b0, hq.b1, hq.told, hq.down, hq.up⟩, .same rfl rfl⟩
  | 1, he, _ =>
   have hn0 := hn 1 (by decide) he
   simp only [evLo, evHi] at hn0
   simp only [eff] at h ⊢
   split at h
   ·rename_i hc
    rw [if_pos hc]
    obtain ⟨c1, c2, c3, c4⟩ := firstErr_4 hc
    rw [cond_0 (by decide)] at c1 c4
    have c1 := of_decide_eq_true c1
    have c4 : (q.down.length : Int) < u.fl := of_decide_eq_true c4
    refine ⟨⟨hq.a0, hq.a1, hq.dl, ?_, hq.ul, hq.done, hq.mode, hq.halted, hq.b0, hq.b1, hq.told, fun x hx => ?_, hq.up⟩, .same rfl rfl⟩
    ·show ((q.down ++ [n]).length : Int) ≤ _
     simp; omega
    ·rcases List.mem_append.1 hx with hx | hx
     ·exact hq.down x hx
     ·rw [List.mem_singleton.1 hx]
      exact ⟨by simp at hn0; omega, c1⟩
   ·rename_i hc
    exact absurd h hc
  | 2, he, _ =>
   simp only [eff] at h ⊢
   cases hd : q.down[n.toNat]? with
   | none =>
    have hd' : (wOf u q).q.down[n.toNat]? = none := hd
    rw [hd'] at h; cases h
   | some v =>
    have hd' : (wOf u q).q.down[n.toNat]? = some v := hd
    rw [hd']
    simp only
    obtain ⟨h1, h2⟩ := arr_step hv hq hd
    exact ⟨repW_ok h1, h2.rep⟩
  | 3, he, _ =>
   simp only [eff] at h ⊢
   cases hd : q.up[n.toNat]? with
   | none =>
    have hd' : (wOf u q).q.up[n.toNat]? = none := hd
    rw [hd'] at h; cases h
   | some v =>
    have hd' : (wOf u q).q.up[n.toNat]? = some v := hd
    rw [hd']
    simp only
    obtain ⟨r0, r1, r2⟩ := hq.up v (List.mem_of_getElem? hd)
    refine ⟨⟨hq.a0, hq.a1, hq.dl, hq.nl, ?_, hq.done, hq.mode, hq.halted, ?_, ?_, fun ht => ?_, hq.down, fun r hr => hq.up r (mem_erase hr)⟩, .same rfl rfl⟩
    ·have := @len_erase _ q.up n.toNat; have := hq.ul; show ((q.up.eraseIdx n.toNat).length : Int) ≤ _; omega
    ·show 0 ≤ max q.base v.1
     have := hq.b0; omega
    ·show max q.base v.1 ≤ (q.done.length : Int)
     have := hq.b1; omega
    ·have ht : (q.told || v.2) = true := ht
     have hb := hq.b1
     rcases Bool.or_eq_true _ _ ▸ ht with ht | ht
     ·obtain ⟨t1, t2⟩ := hq.told ht
      exact ⟨t1, by show max q.base v.1 = (q.done.length : Int); omega⟩
     ·obtain ⟨t1, t2⟩ := r2 ht
      exact ⟨t1, by show max q.base v.1 = (q.done.length : Int); omega⟩
  | 4, he, _ =>
   simp only [eff] at h ⊢
   split at h
   ·rename_i hc
    rw [if_pos hc]
    refine ⟨⟨hq.a0, hq.a1, hq.dl, ?_, hq.ul, hq.done, hq.mode, hq.halted, hq.b0, hq.b1, hq.told, fun x hx => hq.down x (mem_erase hx), hq.up⟩, .same rfl rfl⟩
    have := @len_erase _ q.down n.toNat; have := hq.nl; show ((q.down.eraseIdx n.toNat).length : Int) ≤ _; omega
   ·cases h
  | 5, he, _ =>
   simp only [eff] at h ⊢
   split at h
   ·rename_i hc
    rw [if_pos hc]
    refine ⟨⟨hq.a0, hq.a1, hq.dl, hq.nl, ?_, hq.done, hq.mode, hq.halted, hq.b0, hq.b1, hq.told, hq.down, fun r hr => hq.up r (mem_erase hr)⟩, .same rfl rfl⟩
    have := @len_erase _ q.up n.toNat; have := hq.ul; show ((q.up.eraseIdx n.toNat).length : Int) ≤ _; omega
   ·cases h
  | 6, he, _ =>
   simp only [eff] at h ⊢
   split at h
   ·rename_i hc
    rw [if_pos hc]
    obtain ⟨c1, c4⟩ := firstErr_2 hc
    rw [cond_0 (by decide)] at c1 c4
    have c1 : (n.toNat : Int) < (q.down.length : Int) := of_decide_eq_true c1
    have c4 : (q.down.length : Int) < u.fl := of_decide_eq_true c4
    obtain ⟨v, hd⟩ := get_some (l := q.down) (k := n.toNat) (by omega)
    have hg : ((wOf u q).q.down[n.toNat]?).getD 0 = v := by
     have hd' : (wOf u q).q.down[n.toNat]? = some v := hd
     rw [hd']; rfl
    rw [hg]
    refine ⟨⟨hq.a0, hq.a1, hq.dl, ?_, hq.ul, hq.done, hq.mode, hq.halted, hq.b0, hq.b1, hq.told, fun x hx => ?_, hq.up⟩, .same rfl rfl⟩
    ·show ((q.down ++ [v]).length : Int) ≤ _
     simp; omega
    ·rcases List.mem_append.1 hx with hx | hx
     ·exact hq.down x hx
     ·rw [List.mem_singleton.1 hx]
      exact hq.down v (List.mem_of_getElem? hd)
   ·rename_i hc
    exact absurd h hc
  | 7, he, _ =>
   refine ⟨⟨hq.a0, hq.a1, hq.dl, hq.nl, hq.ul, hq.done, hq.mode, hq.halted, Int.le_refl _, by show (0 : Int) ≤ q.done.length; omega, fun h => (by cases h), hq.down, hq.up⟩, .same rfl rfl⟩
  | 8, he, _ =>
   have h1 : StOk u (wOf u q).q := hq
   exact ⟨repW_ok h1, StepK.rep (w := wOf u q) (.same rfl rfl)⟩
  | i + 9, _, hk => exact absurd hk (by omega)
 ·rw [if_neg he] at h; exact absurd h he
theorem st0_ok {u : Upl} (hv : UVal u) : StOk u cs0 := ⟨by decide, by decide, Nat.zero_le _, by have := hv.f0; show (0 : Int) ≤ _; omega, by have := hv.f0; show (0 : Int) ≤ _; omega, trivial, rfl, fun h => (by cases h), by decide, by decide, fun h => (by cases h), fun x hx => (by cases hx), fun r hr => (by cases hr)⟩
end Go.Ax.Sx.Cm

namespace Go.Ax.Sx.Cm
open Go.Ax
set_option linter.unusedSimpArgs false
set_option linter.unusedVariables false
set_option maxRecDepth 100000
structure Sub (v u : Upl) : Prop where
 file : v.file.l = u.file.l
 win : v.win = u.win
 fl : v.fl = u.fl
 modes : v.m.modes.l = u.m.modes.l
 kinds : v.m.kinds.l = u.m.kinds.l
 rules : ∃ p : Ru → Bool, v.m.rules.l = u.m.rules.l.filter p
section
variable {u v : Upl}
theorem Sub.stepM (h : Sub v u) (pm : Int) (a : Ac) : stepM v.m pm a = Cm.stepM u.m pm a := by unfold Cm.stepM; rw [h.kinds]
theorem Sub.acc (h : Sub v u) {pm t : Int} {last : List Int} {a : Ac} (ha : accB u.m pm t last a = true) : accB v.m pm t last a = true := by
 unfold accB at ha ⊢
 simp only [Bool.and_eq_true] at ha ⊢
 refine ⟨ha.1, ?_⟩
 obtain ⟨p, hp⟩ := h.rules
 have h2 := ha.2
 unfold forbF at h2 ⊢
 rw [hp]
 simp only [Option.isNone_iff_eq_none, List.find?_eq_none] at h2 ⊢
 exact fun x hx => h2 x (List.mem_filter.1 hx).1
theorem Sub.momF (h : Sub v u) : ∀ {l : List (Int × Int)} {i : Nat} {pm : Int} {last : List Int}, momF v i pm last l = Cm.momF u i pm last l
 | [], _, _, _ => rfl
 | d :: l, i, pm, last => by
  simp only [Cm.momF, h.file]
  cases u.file.l[i]? with
  | none => rfl
  | some a => simp only [h.stepM]; exact h.momF
theorem Sub.momQ (h : Sub v u) (d : List (Int × Int)) : momQ v d = Cm.momQ u d := by unfold Cm.momQ; rw [h.momF, h.kinds]
theorem Sub.doneOk (h : Sub v u) {t : Int} : ∀ {l : List (Int × Int)} {i : Nat} {prev pm : Int} {last : List Int}, doneOk u t i prev pm last l → Cm.doneOk v t i prev pm last l
 | [], _, _, _, _, _ => trivial
 | d :: l, i, prev, pm, last, hd => by
  obtain ⟨h1, h2, h3, a, h4, h5, h6⟩ := hd
  exact ⟨h1, h2, h3, a, by rw [h.file]; exact h4, h.acc h5, by rw [h.stepM]; exact h.doneOk h6⟩
theorem Sub.st (h : Sub v u) {q : CS} (hq : StOk u q) : StOk v q :=
 ⟨hq.a0, hq.a1, by rw [h.file]; exact hq.dl, by rw [h.fl]; exact hq.nl, by rw [h.fl]; exact hq.ul, by rw [h.kinds]; exact h.doneOk hq.done, by rw [h.momQ]; exact hq.mode, by rw [h.file]; exact hq.halted, hq.b0, hq.b1, hq.told, by rw [h.file]; exact hq.down, hq.up⟩
theorem Sub.wOf (h : Sub v u) (q : CS) : wOf v q = Cm.wOf u q := by unfold Cm.wOf; rw [h.momQ]
theorem Sub.repW (h : Sub v u) (w : LS) : repW v w = Cm.repW u w := by unfold Cm.repW; rw [h.fl]
theorem Sub.step (h : Sub v u) {q : CS} {k n : Int} (he : apE u q k n = 0) (h0 : q.halted = false) (h1 : (apQ u q k n).halted = false) : apE v q k n = 0 ∧ apQ v q k n = apQ u q k n := by
 unfold apE at he ⊢
 by_cases hev : evE k n = 0
 ·rw [if_pos hev] at he ⊢
  have hk : 0 ≤ k ∧ k < 9 := by
   unfold evE at hev
   by_cases hw : wi k 0 8 = true
   ·have := wi_iff.1 hw; omega
   ·rw [if_neg hw] at hev; cases hev
  obtain ⟨i, rfl⟩ : ∃ i : Nat, k = i := ⟨k.toNat, by omega⟩
  unfold apQ at h1 ⊢
  rw [Int.toNat_natCast] at he h1 ⊢
  rw [h.wOf]
  suffices hs : eff v (Cm.wOf u q) i n = eff u (Cm.wOf u q) i n by rw [hs]; exact ⟨he, rfl⟩
  have hsE : sendE v (Cm.wOf u q) n = sendE u (Cm.wOf u q) n := by unfold sendE; rw [h.file, h.win, h.fl]
  have hrE : repE v (Cm.wOf u q) n.toNat = repE u (Cm.wOf u q) n.toNat := by unfold repE; rw [h.fl]
  match i, hk with
  | 0, _ => rfl
  | 1, _ => simp only [eff, hsE]
  | 2, _ =>
   simp only [eff] at h1 ⊢
   cases hd : (Cm.wOf u q).q.down[n.toNat]? with
   | none => rfl
   | some x =>
    rw [hd] at h1
    simp only at h1 ⊢
    rw [h.repW]
    rw [(@repW_q u _).2.1] at h1
    have : arrW v (loseW (Cm.wOf u q) n.toNat) x = arrW u (loseW (Cm.wOf u q) n.toNat) x := by
     unfold arrW at h1 ⊢
     by_cases hc : (loseW (Cm.wOf u q) n.toNat).q.halted = false ∧ x = ((loseW (Cm.wOf u q) n.toNat).q.done.length : Int)
     ·rw [if_pos hc] at h1 ⊢
      rw [if_pos hc, h.file]
      cases hf : u.file.l[x.toNat]? with
      | none => rfl
      | some a =>
       rw [hf] at h1
       simp only at h1 ⊢
       cases hA : accB u.m (loseW (Cm.wOf u q) n.toNat).pm (loseW (Cm.wOf u q) n.toNat).pa (loseW (Cm.wOf u q) n.toNat).last a with
       | true =>
        rw [h.acc hA]
        simp only [if_true]
        unfold execW
        rw [h.stepM]
       | false =>
        rw [hA] at h1
        simp only [Bool.false_eq_true, if_false] at h1
        cases h1
     ·rw [if_neg hc, if_neg hc]
    rw [this]
  | 3, _ => rfl
  | 4, _ => rfl
  | 5, _ => rfl
  | 6, _ => simp only [eff, hrE]
  | 7, _ => rfl
  | 8, _ => simp only [eff, h.repW]
  | i + 9, hk => exact absurd hk (by omega)
 ·rw [if_neg hev] at he; exact absurd he hev
end
def stepQ (v : Upl) (y : CS) (e : Int × Int) : CS := if apE v y e.1 e.2 = 0 then apQ v y e.1 e.2 else y
def runQ (v : Upl) (y : CS) (l : List (Int × Int)) : CS := l.foldl (stepQ v) y
theorem runQ_app {v : Upl} {y : CS} {l : List (Int × Int)} {e : Int × Int} : runQ v y (l ++ [e]) = stepQ v (runQ v y l) e := by unfold runQ; rw [List.foldl_append]; rfl
theorem stepQ_ok {v : Upl} {y : CS} {e : Int × Int} (hv : UVal v) (h : StOk v y) : StOk v (stepQ v y e) ∧ y.done <+: (stepQ v y e).done := by
 unfold stepQ
 split
 ·rename_i he
  obtain ⟨h1, h2⟩ := step_ok hv h he
  refine ⟨h1, ?_⟩
  cases h2 with
  | same a b => rw [a]; exact List.prefix_refl _
  | exec _ _ _ a _ _ _ => rw [a]; exact List.prefix_append _ _
  | halt _ _ _ a _ _ _ => rw [a]; exact List.prefix_refl _
 ·exact ⟨h, List.prefix_refl _⟩
theorem runQ_ok {v : Upl} (hv : UVal v) : ∀ {l : List (Int × Int)} {y : CS}, StOk v y → StOk v (runQ v y l)
 | [], _, h => h
 | e :: l, y, h => runQ_ok hv (l := l) (stepQ_ok hv h).1
structure RunI (u : Upl) (q : CS) (log : List (Int × Int)) : Prop where
 ok : StOk u q
 go : q.halted = false → ∀ v, UVal v → Sub v u → runQ v cs0 log = q
 pre : ∀ v, UVal v → Sub v u → q.done <+: (runQ v cs0 log).done
theorem RunI.start {u : Upl} (hv : UVal u) : RunI u cs0 [] := ⟨st0_ok hv, fun _ _ _ _ => rfl, fun _ _ _ => List.prefix_refl _⟩
theorem RunI.step {u : Upl} {q : CS} {log : List (Int × Int)} {k n : Int} (hv : UVal u) (h : RunI u q log) (he : apE u q k n = 0) : RunI u (apQ u q k n) (log ++ [(k, n)]) := by
 obtain ⟨s1, s2⟩ := step_ok hv h.ok he
 have hgr : ∀ v, UVal v → Sub v u → (apQ u q k n).done = q.done → (apQ u q k n).done <+: (runQ v cs0 (log ++ [(k, n)])).done := fun v hvv hs hd => by
  rw [hd, runQ_app]
  exact (h.pre v hvv hs).trans (stepQ_ok hvv (runQ_ok hvv (st0_ok hvv))).2
 have hgo : q.halted = false → (apQ u q k n).halted = false → ∀ v, UVal v → Sub v u → runQ v cs0 (log ++ [(k, n)]) = apQ u q k n := fun a b v hvv hs => by
  obtain ⟨c1, c2⟩ := hs.step he a b
  rw [runQ_app, h.go a v hvv hs]
  unfold stepQ
  rw [if_pos c1, c2]
 refine ⟨s1, fun hh v hvv hs => ?_, fun v hvv hs => ?_⟩
 ·cases s2 with
  | same a b => exact hgo (by rw [← b]; exact hh) hh v hvv hs
  | exec a b _ _ _ _ _ => exact hgo a b v hvv hs
  | halt a b _ _ _ _ _ => rw [hh] at b; cases b
 ·cases s2 with
  | same a b => exact hgr v hvv hs a
  | exec a b _ _ _ _ _ => rw [hgo a b v hvv hs]; exact List.prefix_refl _
  | halt _ _ _ a _ _ _ => exact hgr v hvv hs a
theorem cp_val {u : Upl} (h : UpVal u) : UpVal (cpUp u) := ⟨⟨h.m.m0, h.m.m1, h.m.k0, h.m.k1, h.m.r1, h.m.mi, h.m.ki, h.m.ri⟩, h.f0, h.f1, h.acts, h.w, h.fl⟩
theorem seen_pw {l : List Ru} : (∀ j, j < l.length → seenB (fun i => ((l[i]?).map (·.name)).getD ByteArray.empty) j = false) ↔ l.Pairwise fun a b => a.name ≠ b.name := by
 rw [List.pairwise_iff_getElem]
 have hget : ∀ (i : Nat) (hi : i < l.length), ((l[i]?).map (·.name)).getD ByteArray.empty = l[i].name := fun i hi => by rw [List.getElem?_eq_getElem hi]; rfl
 constructor
 ·intro h i j hi hj hij he
  have := h j hj
  unfold seenB at this
  rw [List.any_eq_false] at this
  refine this i (List.mem_range.2 hij) ?_
  simp only [hget i hi, hget j hj, he, decide_true]
 ·intro h j hj
  unfold seenB
  rw [List.any_eq_false]
  intro i hi
  have hij := List.mem_range.1 hi
  simp only [hget i (by omega), hget j hj, decide_eq_true_eq]
  exact h i j (by omega) hj hij
theorem free_val {u v : Upl} {p : Ru → Bool} (h : UpVal u) (hf : v.file.l = u.file.l) (hw : v.win = u.win) (hfl : v.fl = u.fl) (hm : v.m.modes.l = u.m.modes.l) (hk : v.m.kinds.l = u.m.kinds.l) (hr : v.m.rules.l = u.m.rules.l.filter p) : UpVal v := by
 have hnmM : nmM v.m = nmM u.m := by funext i; unfold nmM; rw [hm]
 have hnmK : nmK v.m = nmK u.m := by funext i; unfold nmK; rw [hk]
 have hotK : otK v.m = otK u.m := by funext i; unfold otK; rw [hk, hm]
 have hri : ∀ r ∈ u.m.rules.l, isName r.name = true ∧ ruleE u.m.kinds.l.length u.m.modes.l.length r = 0 := fun r hr => by
  obtain ⟨j, hj⟩ := List.getElem?_of_mem hr
  obtain ⟨q1, _, q3⟩ := itemE_iff (h.m.ri j (List.getElem?_eq_some_iff.1 hj).1)
  have e1 : nmR u.m j = r.name := by unfold nmR; rw [hj]; rfl
  have e2 : otR u.m j = ruleE u.m.kinds.l.length u.m.modes.l.length r := by unfold otR; rw [hj]; rfl
  exact ⟨by rw [← e1]; exact q1, by rw [← e2]; exact q3⟩
 have hpw : u.m.rules.l.Pairwise fun a b => a.name ≠ b.name := seen_pw.1 fun j hj => (itemE_iff (h.m.ri j hj)).2.1
 have hpw2 := seen_pw.2 (hpw.filter p)
 refine ⟨⟨by rw [hm]; exact h.m.m0, by rw [hm]; exact h.m.m1, by rw [hk]; exact h.m.k0, by rw [hk]; exact h.m.k1, ?_, by rw [hnmM, hm]; exact h.m.mi, by rw [hnmK, hotK, hk]; exact h.m.ki, fun j hj => ?_⟩, by rw [hf]; exact h.f0, by rw [hf]; exact h.f1, fun a ha => ?_, by rw [hw]; exact h.w, by rw [hfl]; exact h.fl⟩
 ·rw [hr]
  have := List.length_filter_le p u.m.rules.l
  have := h.m.r1
  omega
 ·obtain ⟨r, hrj⟩ := get_some hj
  have hmem : r ∈ u.m.rules.l := by
   have := List.mem_of_getElem? hrj
   rw [hr] at this
   exact (List.mem_filter.1 this).1
  have e1 : nmR v.m j = r.name := by unfold nmR; rw [hrj]; rfl
  have e2 : otR v.m j = ruleE v.m.kinds.l.length v.m.modes.l.length r := by unfold otR; rw [hrj]; rfl
  obtain ⟨q1, q2⟩ := hri r hmem
  refine itemE_0 (by rw [e1]; exact q1) ?_ (by rw [e2, hm, hk]; exact q2)
  have := hpw2 j (by rw [← hr]; exact hj)
  unfold nmR
  rw [hr]
  exact this
 ·rw [hf] at ha
  have := h.acts a ha
  unfold actE at this ⊢
  rw [hk]; exact this
theorem cp_sub {u : Upl} : Sub (cpUp u) u := ⟨rfl, rfl, rfl, rfl, rfl, fun _ => true, (List.filter_eq_self.2 fun _ _ => rfl).symm⟩
end Go.Ax.Sx.Cm

namespace Go.Ax.Sx.Cm
open Go.Ax
set_option linter.unusedSimpArgs false
set_option linter.unusedVariables false
set_option maxRecDepth 100000
abbrev z8 : List AV := [I 0, I 0, .slice .nilS 0 [], B false, I 0, B false, .slice .nilS 0 [], .slice .nilS 0 []]
theorem cpSt_q {x : StV} : (cpSt x).q = x.q := rfl
def StV.Cut (x : StV) : Prop := x.done.o.isNil = true ∨ x.done.e = 2
theorem outL_cut {α : Type} {x : Sl α} {l' : List α} : (outL 2 x l').o.isNil = true ∨ (outL 2 x l').e = 2 := by
 unfold outL
 split
 ·split
  ·exact .inl rfl
  ·exact .inr rfl
 ·exact .inr rfl
theorem outSt_Ok {u : Upl} {x : StV} {q : CS} (hv : UVal u) (h : StOk u q) : (outSt x q).Ok :=
 ⟨outL_ok, outL_ok, outL_ok, by show (outL 2 x.done q.done).l.length ≤ _; rw [outL_l]; have := h.dl; have := hv.fl; omega, by show (outL 1 x.down q.down).l.length ≤ _; rw [outL_l]; have := h.nl; have := hv.f1; omega, by show (outL 2 x.up q.up).l.length ≤ _; rw [outL_l]; have := h.ul; have := hv.f1; omega⟩
section
variable {s : Sig} {bx : List (List AV)} {tk : List (Option Nat)}
theorem ld_res {b n : Nat} {row : List AV} (hs : Ok s) (hb : bx[b]? = some row) (hn : row.length = n) : loadrOp (s.push ⟨bx ++ [[]], tk⟩) 1 true n (.ptr s.acts.length b 0) = some (.agg row) := by
 have hl := (List.getElem?_eq_some_iff.1 hb).1
 rw [loadr_ptr, if_neg (by simp; omega), load_any, box_push, show (bx ++ [[]])[b]? = some row from box_app hb, Option.bind_some, part_t, cutN_eq, if_pos (by omega)]
 simp [← hn]
theorem slot_res {zs : List AV} (hz : zs.isEmpty = false) : slotOp (s.push ⟨bx ++ [[]], tk⟩) 1 zs = some (.ptr s.acts.length bx.length 0, s.push ⟨bx ++ [zs], tk⟩) := by
 rw [slotOp_eq]
 have h1 : (bx ++ [([] : List AV)])[(bx ++ [([] : List AV)]).length - 1]? = some [] := by simp
 have h2 : (bx ++ [([] : List AV)]).length - 1 = bx.length := by simp
 have h3 : slotL (bx ++ [[]]) tk 1 zs = some (bx.length, bx ++ [zs]) := by
  unfold slotL
  rw [if_neg (by simp), h1]
  simp only [hz, Bool.false_eq_true, if_false, h2]
  simp
 rw [h3]; rfl
theorem fill_res {x : StV} (hs : Ok s) : fillOp (s.push ⟨bx ++ [z8], tk⟩) 1 8 (.ptr s.acts.length bx.length 0) x.v = some (s.push ⟨bx ++ [x.row], tk⟩) := by
 rw [fill_ptr, if_pos (by simp), store_ptr hs]
 have h1 : (bx ++ [z8])[bx.length]? = some z8 := by simp
 have h2 : (bx ++ [z8]).set bx.length x.row = bx ++ [x.row] := by simp
 simp only [h1]
 show some (s.push ⟨(bx ++ [z8]).set bx.length x.row, tk⟩) = _
 rw [h2]
theorem fc_res {f : FuncId} {args : List AV} {v : AV} {ro : Bool} (hs : Ok s) (h : ∀ m, Ok m → callL AP (.fn f) args m = some (v, m)) : fcallOp (callL AP) ro (s.push ⟨bx ++ [[]], tk⟩) [z8] (.fn f) args = some (v, s.push ⟨bx ++ [[]], tk⟩) := by
 refine fc_keep (hs.push _) h ?_
 rw [tail_push]
 simp [fills]
theorem ev_call {u : Upl} {x : StV} {k n : Int} (hs : Ok s) (hu : u.Src) (hok : (cpUp u).Ok) (hv : UVal (cpUp u)) (hx : x.Ok) (hq : StOk (cpUp u) x.q) :
  fcallOp (callL AP) true (s.push ⟨bx ++ [[]], tk⟩) [z8] (.fn 7) [.agg (rowUp u)] = some (.agg (rowUp (cpUp u)), s.push ⟨bx ++ [[]], tk⟩) ∧
  fcallOp (callL AP) true (s.push ⟨bx ++ [[]], tk⟩) [z8] (.fn 9) [.agg x.row] = some (.agg (cpSt x).row, s.push ⟨bx ++ [[]], tk⟩) ∧
  fcallOp (callL AP) false (s.push ⟨bx ++ [[]], tk⟩) [z8] (.fn 8) [.agg (rowUp (cpUp u)), .agg (cpSt x).row, .agg [I k, I n]] = some (.tuple [(apY (cpUp u) (cpSt x) k n).v, I (apE (cpUp u) x.q k n)], s.push ⟨bx ++ [[]], tk⟩) :=
 ⟨fc_res hs fun m hm => r_CopyUplink hm hu, fc_res hs fun m hm => r_Copy hm hx, fc_res hs fun m hm => command_Apply hm hok hv (cpSt_Ok hx) hq⟩
theorem law_l0 {uf : Upl} {x : StV} {log : List (Int × Int)} {oL : Own} {eL F Y : Nat} (hs : Ok s) (hu : uf.Src) (hok : (cpUp uf).Ok) (hv : UVal (cpUp uf)) (hx : x.Ok) (hcx : x.done.l.length ≤ 100000) (hll : log.length ≤ 50) (heL : log = [] ∨ eL = 2) (hpre : x.done.l <+: (runQ (cpUp uf) cs0 log).done) (hY1 : Y ≠ 1) (hYF : Y ≠ F) :
  ∀ k ρ m, k ≤ log.length → (ρ 9 = .slice oL eL (log.map rowDn) ∧ ρ 19 = .ptr s.acts.length F 0 ∧ ρ 21 = .ptr s.acts.length Y 0 ∧ ρ 22 = I 0 ∧ ρ 5 = .ptr s.acts.length 1 0 ∧ ρ 23 = I k ∧
   ∃ (bx : List (List AV)) (tk : List (Option Nat)) (y : StV), m = s.push ⟨bx, tk⟩ ∧ bx[F]? = some (rowUp uf) ∧ bx[1]? = some x.row ∧ bx[Y]? = some y.row ∧ y.Ok ∧ y.Cut ∧ StOk (cpUp uf) y.q ∧ y.q = runQ (cpUp uf) cs0 (log.take k)) →
   go AP f_t_TopCommandNeverForbidden (.c (.loop b_t_TopCommandNeverForbidden_l0) :: k_t_TopCommandNeverForbidden_0) ⟨ρ, m⟩ = some (B true, s) := by
 refine loop_up log.length _ (fun _ => some (B true, s)) ?_ ?_
 ·rintro k ρ m hk ⟨g9, g19, g21, g22, g5, g23, bx, tk, y, rfl, hF, h1, hY, hy, hyc, hyo, hyq⟩ ih
  obtain ⟨e, he⟩ := get_some hk
  have he2 : eL = 2 := by rcases heL with h | h; (rw [h] at he; simp at he); exact h
  subst he2
  have hix := ix_map (o := oL) (es := 2) (f := rowDn) he
  have hwk := wrap_succ hk (show (log.length : Int) < _ by omega)
  have l1 := ld_res (tk := tk) (n := 6) hs hF rfl
  have l2 := ld_res (tk := tk) (n := 8) hs hY rfl
  obtain ⟨c1, c2, c3⟩ := ev_call (bx := bx) (tk := tk) (k := e.1) (n := e.2) hs hu hok hv hy hyo
  have c4 := slot_res (s := s) (bx := bx) (tk := tk) (zs := z8) rfl
  have hrq : runQ (cpUp uf) cs0 (log.take (k + 1)) = stepQ (cpUp uf) y.q e := by rw [take_get he, runQ_app, hyq]
  by_cases hE : apE (cpUp uf) y.q e.1 e.2 = 0
  ·have hEd : decide (apE (cpUp uf) y.q e.1 e.2 = 0) = true := decide_eq_true hE
   obtain ⟨s1, s2⟩ := step_ok hv hyo hE
   obtain ⟨y', hy'⟩ : ∃ y', y' = apY (cpUp uf) (cpSt y) e.1 e.2 := ⟨_, rfl⟩
   have hy'2 : y' = outSt (cpSt y) (apQ (cpUp uf) y.q e.1 e.2) := by
    rw [hy']; unfold apY
    rw [cpSt_q, if_pos hE]
   have hq' : y'.q = apQ (cpUp uf) y.q e.1 e.2 := by rw [hy'2, outSt_q]
   rw [← hy'] at c3
   have c5 := fill_res (s := s) (bx := bx) (tk := tk) (x := y') hs
   have b1 : (s.push ⟨bx ++ [y'.row], tk⟩).box s.acts.length bx.length = some y'.row := by rw [box_push]; simp
   have hlY := (List.getElem?_eq_some_iff.1 hY).1
   have hst : (s.push ⟨bx ++ [y'.row], tk⟩).store 8 (.ptr s.acts.length Y 0) (.agg y'.row) = some (s.push ⟨bx.set Y y'.row ++ [y'.row], tk⟩) := by
    rw [store_ptr hs, show (bx ++ [y'.row])[Y]? = some y.row from box_app hY]
    show some (s.push ⟨(bx ++ [y'.row]).set Y y'.row, tk⟩) = _
    rw [List.set_append_left _ _ hlY]
   have hrun : stepQ (cpUp uf) y.q e = y'.q := by unfold stepQ; rw [if_pos hE, hq']
   have ih2 : ∀ ρ', ρ' 9 = .slice oL 2 (log.map rowDn) → ρ' 19 = .ptr s.acts.length F 0 → ρ' 21 = .ptr s.acts.length Y 0 → ρ' 22 = I 0 → ρ' 5 = .ptr s.acts.length 1 0 → ρ' 23 = I (k + 1 : Nat) → go AP f_t_TopCommandNeverForbidden (.c (.loop b_t_TopCommandNeverForbidden_l0) :: k_t_TopCommandNeverForbidden_0) ⟨ρ', s.push ⟨bx.set Y y'.row ++ [y'.row], tk⟩⟩ = some (B true, s) := fun ρ' a1 a2 a3 a4 a5 a6 => by
    refine ih ρ' _ ⟨a1, a2, a3, a4, a5, a6, _, tk, y', rfl, ?_, ?_, ?_, ?_, ?_, ?_, ?_⟩
    ·refine box_app ?_; rw [List.getElem?_set_ne hYF]; exact hF
    ·refine box_app ?_; rw [List.getElem?_set_ne hY1]; exact h1
    ·refine box_app ?_; rw [List.getElem?_set_self hlY]
    ·rw [hy'2]; exact outSt_Ok hv s1
    ·rw [hy'2]; exact outL_cut
    ·rw [hq']; exact s1
    ·rw [hrq, hrun]
   have hpt : cutN 0 8 y'.row = some y'.row := rfl
   generalize hyr : y'.row = YR at *
   have hyv : y'.v = .agg YR := by rw [← hyr]
   rw [hyv] at c3 c5
   generalize y.row = YR0 at *
   generalize (cpSt y).row = YR1 at *
   rw [hE] at c3
   simp only [z8, rowDn] at c1 c2 c3 c4 c5 hix
   generalize rowUp uf = UR at *
   generalize rowUp (cpUp uf) = UR1 at *
   simp (maxSteps := 1000000) only [go_sem, b_t_TopCommandNeverForbidden_l0, g9, g19, g21, g23, lt_dec hk, l1, l2, hix, rep1, c1, c2, c3, c4, c5, b1, hst, hwk, hpt, Nat.reduceEqDiff, ↓reduceIte]
   refine ih2 _ ?_ ?_ ?_ ?_ ?_ ?_
   all_goals first | exact g9 | exact g19 | exact g21 | exact g22 | exact g5 | rfl
  ·have hrun : stepQ (cpUp uf) y.q e = y.q := by unfold stepQ; rw [if_neg hE]
   obtain ⟨y', hy'⟩ : ∃ y', y' = apY (cpUp uf) (cpSt y) e.1 e.2 := ⟨_, rfl⟩
   rw [← hy'] at c3
   have c5 := fill_res (s := s) (bx := bx) (tk := tk) (x := y') hs
   have ih2 : ∀ ρ', ρ' 9 = .slice oL 2 (log.map rowDn) → ρ' 19 = .ptr s.acts.length F 0 → ρ' 21 = .ptr s.acts.length Y 0 → ρ' 22 = I 0 → ρ' 5 = .ptr s.acts.length 1 0 → ρ' 23 = I (k + 1 : Nat) → go AP f_t_TopCommandNeverForbidden (.c (.loop b_t_TopCommandNeverForbidden_l0) :: k_t_TopCommandNeverForbidden_0) ⟨ρ', s.push ⟨bx ++ [y'.row], tk⟩⟩ = some (B true, s) := fun ρ' a1 a2 a3 a4 a5 a6 =>
    ih ρ' _ ⟨a1, a2, a3, a4, a5, a6, _, tk, y, rfl, box_app hF, box_app h1, box_app hY, hy, hyc, hyo, by rw [hrq, hrun]⟩
   generalize hyr : y'.row = YR at *
   have hyv : y'.v = .agg YR := by rw [← hyr]
   rw [hyv] at c3 c5
   generalize y.row = YR0 at *
   generalize (cpSt y).row = YR1 at *
   simp only [z8, rowDn] at c1 c2 c3 c4 c5 hix
   generalize rowUp uf = UR at *
   generalize rowUp (cpUp uf) = UR1 at *
   generalize apE (cpUp uf) y.q e.1 e.2 = E at *
   simp (maxSteps := 1000000) only [go_sem, b_t_TopCommandNeverForbidden_l0, g9, g19, g21, g23, lt_dec hk, l1, l2, hix, rep1, c1, c2, c3, c4, c5, hE, hwk, Nat.reduceEqDiff, ↓reduceIte]
   refine ih2 _ ?_ ?_ ?_ ?_ ?_ ?_
   all_goals first | exact g9 | exact g19 | exact g21 | exact g22 | exact g5 | rfl
 ·rintro ρ m ⟨g9, g19, g21, g22, g5, g23, bx, tk, y, rfl, hF, h1, hY, hy, hyc, hyo, hyq⟩
  rw [List.take_length] at hyq
  have bY : (s.push ⟨bx, tk⟩).box s.acts.length Y = some y.row := by rw [box_push]; exact hY
  have b1 : (s.push ⟨bx, tk⟩).box s.acts.length 1 = some x.row := by rw [box_push]; exact h1
  rw [← hyq] at hpre
  have hpre : x.done.l <+: y.done.l := hpre
  have hle := hpre.length_le
  have htk : y.done.l.take x.done.l.length = x.done.l := (List.prefix_iff_eq_take.1 hpre).symm
  have hge : decide ((x.done.l.length : Int) ≤ (y.done.l.length : Int)) = true := decide_eq_true (by omega)
  obtain ⟨o', hsl⟩ : ∃ o', sliceOp (.sl 2) (y.done.v rowDn) none (some (I (x.done.l.length : Int))) none = some (.slice o' y.done.e ((y.done.l.take x.done.l.length).map rowDn)) := by
   refine ⟨slOwn y.done.o false (0 == 0 && x.done.l.length == (y.done.l.map rowDn).length) (x.done.l.length == (y.done.l.map rowDn).length && 0 < (y.done.l.map rowDn).length), ?_⟩
   have hc : y.done.o.isNil = true ∨ y.done.e = 2 := hyc
   simp only [sliceOp, if_pos hc, mxOf, Option.bind_some, Option.isSome_none, hiOf, asNat_n (show x.done.l.length ≤ (y.done.l.map rowDn).length by simpa using hle), loOf, Option.map_some, List.drop_zero, List.map_take]
  rw [htk] at hsl
  have hsd : ∀ q : Sig, callL AP (.fn 14) [.slice o' y.done.e (x.done.l.map rowDn), x.done.v rowDn] q = some (B true, q) := fun q => by
   have := r_SameDone (s := q) (a := x.done.l) (b := x.done.l) (o1 := o') (o2 := x.done.o) (e1 := y.done.e) (e2 := x.done.e) (by
    rcases hy.done.1 with h | h
    ·left; rw [h] at hle; simpa using hle
    ·exact .inr h) hx.done.1 (by omega)
   rw [decide_eq_true rfl] at this
   exact this
  simp only [StV.row, rowSt, Sl.v] at bY b1 hsl hsd
  simp (maxSteps := 1000000) only [go_sem, b_t_TopCommandNeverForbidden_l0, b_t_TopCommandNeverForbidden_r0, g9, g21, g22, g5, g23, ge_dec, bY, b1, hge, hsl, hsd, Nat.reduceEqDiff, Nat.reduceAdd, ↓reduceIte]
end
end Go.Ax.Sx.Cm

namespace Go.Ax.Sx.Cm
open Go.Ax
set_option linter.unusedSimpArgs false
set_option linter.unusedVariables false
set_option maxRecDepth 100000
section
variable {s : Sig}
theorem law_r1 {u : Upl} {x : StV} {log : List (Int × Int)} {nm : ByteArray} {oL : Own} {eL F : Nat} {bx : List (List AV)} {tk : List (Option Nat)} {xR : Sl Ru} (hs : Ok s) (hu : u.Ok) (hv : UpVal u) (hx : x.Ok) (hcx : x.done.l.length ≤ 100000) (hll : log.length ≤ 50) (heL : log = [] ∨ eL = 2)
  (hpre : ∀ v, UVal v → Sub v (cpUp u) → x.done.l <+: (runQ v cs0 log).done) (hF1 : F ≠ 1) (hR : xR.l = u.m.rules.l.filter fun r => decide (r.name ≠ nm)) (hRe : xR.l = [] ∨ xR.e = 5)
  (hF : bx[F]? = some [(cpS 1 u.m.modes.l).v rowS, (cpS 2 u.m.kinds.l).v rowKd, xR.v rowRu, (cpS 3 u.file.l).v rowAc, I u.win, I u.fl]) (h1 : bx[1]? = some x.row) :
  ∀ ρ, (ρ 9 = .slice oL eL (log.map rowDn) ∧ ρ 19 = .ptr s.acts.length F 0 ∧ ρ 5 = .ptr s.acts.length 1 0) → go AP f_t_TopCommandNeverForbidden [.c b_t_TopCommandNeverForbidden_r1] ⟨ρ, s.push ⟨bx, tk⟩⟩ = some (B true, s) := by
 rintro ρ ⟨g9, g19, g5⟩
 obtain ⟨uf, huf⟩ : ∃ uf : Upl, uf = ⟨⟨cpS 1 u.m.modes.l, cpS 2 u.m.kinds.l, xR⟩, cpS 3 u.file.l, u.win, u.fl⟩ := ⟨_, rfl⟩
 have hrow : [(cpS 1 u.m.modes.l).v rowS, (cpS 2 u.m.kinds.l).v rowKd, xR.v rowRu, (cpS 3 u.file.l).v rowAc, I u.win, I u.fl] = rowUp uf := by rw [huf]
 rw [hrow] at hF
 have hrl : xR.l.length ≤ 1000000 := by
  rw [hR]; have := List.length_filter_le (fun r : Ru => decide (r.name ≠ nm)) u.m.rules.l; have := hu.m.rl; omega
 have hsrc : uf.Src := by rw [huf]; exact ⟨⟨.inr rfl, .inr rfl, hRe, hu.m.ml, hu.m.kl, hrl⟩, .inr rfl, hu.fl⟩
 have hok : (cpUp uf).Ok := by
  rw [huf]
  exact ⟨⟨cpS_ok, cpS_ok, cpS_ok, hu.m.ml, hu.m.kl, hrl, hu.m.mz, hu.m.kz, fun r hr => by
   have hr : r ∈ xR.l := hr
   rw [hR] at hr
   exact hu.m.rz r (List.mem_filter.1 hr).1⟩, cpS_ok, hu.fl⟩
 have hval : UpVal (cpUp uf) := by
  rw [huf]
  exact free_val (p := fun r => decide (r.name ≠ nm)) hv rfl rfl rfl rfl rfl hR
 have hsub : Sub (cpUp uf) (cpUp u) := by
  rw [huf]
  exact ⟨rfl, rfl, rfl, rfl, rfl, _, hR⟩
 have huv := hval.uval
 have hcu : callL AP (.fn 7) [.agg (rowUp uf)] (s.push ⟨bx, tk⟩) = some (.agg (rowUp (cpUp uf)), s.push ⟨bx, tk⟩) := r_CopyUplink (hs.push _) hsrc
 have hbg : callL AP (.fn 6) [.agg (rowUp (cpUp uf))] (s.push ⟨bx, tk⟩) = some (.tuple [.agg z8, I 0], s.push ⟨bx, tk⟩) := by
  have := command_Begin (s := s.push ⟨bx, tk⟩) (hs.push _) hok
  rw [huv.e] at this
  exact this
 have bF : (s.push ⟨bx, tk⟩).box s.acts.length F = some (rowUp uf) := by rw [box_push]; exact hF
 have hl1 := (List.getElem?_eq_some_iff.1 h1).1
 have hlF := (List.getElem?_eq_some_iff.1 hF).1
 have h0 := law_l0 (uf := uf) (x := x) (log := log) (oL := oL) (eL := eL) (F := F) (Y := bx.length) hs hsrc hok huv hx hcx hll heL (hpre _ huv hsub) (by omega) (by omega)
 have h2 : ∀ ρ', ρ' 9 = .slice oL eL (log.map rowDn) → ρ' 19 = .ptr s.acts.length F 0 → ρ' 21 = .ptr s.acts.length bx.length 0 → ρ' 22 = I 0 → ρ' 5 = .ptr s.acts.length 1 0 → ρ' 23 = I 0 → go AP f_t_TopCommandNeverForbidden (.c (.loop b_t_TopCommandNeverForbidden_l0) :: k_t_TopCommandNeverForbidden_0) ⟨ρ', s.push ⟨bx ++ [z8], tk⟩⟩ = some (B true, s) := fun ρ' a1 a2 a3 a4 a5 a6 =>
  h0 0 ρ' _ (Nat.zero_le _) ⟨a1, a2, a3, a4, a5, a6, bx ++ [z8], tk, zeroSt, rfl, box_app hF, box_app h1, by rw [List.getElem?_append_right (Nat.le_refl _), Nat.sub_self]; rfl, ⟨⟨.inl rfl, .inr (.inr ⟨rfl, rfl⟩)⟩, ⟨.inl rfl, .inr (.inr ⟨rfl, rfl⟩)⟩, ⟨.inl rfl, .inr (.inr ⟨rfl, rfl⟩)⟩, by decide, by decide, by decide⟩, .inl rfl, st0_ok huv, rfl⟩
 have hpt : cutN 0 6 (rowUp uf) = some (rowUp uf) := rfl
 generalize rowUp uf = UR at *
 generalize rowUp (cpUp uf) = UR1 at *
 simp only [z8] at hbg h2
 simp (maxSteps := 1000000) only [go_sem, b_t_TopCommandNeverForbidden_r1, g19, hs, bF, hpt, hcu, hbg, Nat.reduceEqDiff, ↓reduceIte]
 refine h2 _ ?_ ?_ ?_ ?_ ?_ ?_
 all_goals first | exact g9 | exact g19 | exact g5 | rfl
theorem law_l1 {u : Upl} {x : StV} {log : List (Int × Int)} {nm : ByteArray} {oL : Own} {eL F : Nat} (hs : Ok s) (hu : u.Ok) (hv : UpVal u) (hx : x.Ok) (hcx : x.done.l.length ≤ 100000) (hll : log.length ≤ 50) (heL : log = [] ∨ eL = 2)
  (hpre : ∀ v, UVal v → Sub v (cpUp u) → x.done.l <+: (runQ v cs0 log).done) (hF1 : F ≠ 1) (hF0 : F ≠ 0) :
  ∀ k ρ m, k ≤ u.m.rules.l.length → (ρ 9 = .slice oL eL (log.map rowDn) ∧ ρ 19 = .ptr s.acts.length F 0 ∧ ρ 5 = .ptr s.acts.length 1 0 ∧ ρ 2 = .ptr s.acts.length 0 0 ∧ ρ 10 = S nm ∧ ρ 20 = I k ∧
   ∃ (bx : List (List AV)) (tk : List (Option Nat)) (xr : AV) (og : Option Nat), m = s.push ⟨bx, tk⟩ ∧ bx[0]? = some (rowUp u) ∧ bx[1]? = some x.row ∧ bx[F]? = some [(cpS 1 u.m.modes.l).v rowS, (cpS 2 u.m.kinds.l).v rowKd, xr, (cpS 3 u.file.l).v rowAc, I u.win, I u.fl] ∧
    Acc s.acts.length 5 (((u.m.rules.l.take k).filter fun r => decide (r.name ≠ nm)).map rowRu) xr og tk) →
   go AP f_t_TopCommandNeverForbidden (.c (.loop b_t_TopCommandNeverForbidden_l1) :: k_t_TopCommandNeverForbidden_1) ⟨ρ, m⟩ = some (B true, s) := by
 have hrl := hu.m.rl
 refine loop_up u.m.rules.l.length _ (fun _ => some (B true, s)) ?_ ?_
 ·rintro k ρ m hk ⟨g9, g19, g5, g2, g10, g20, bx, tk, xr, og, rfl, h0, h1, hF, hA⟩ ih
  obtain ⟨r, hr⟩ := get_some hk
  have hix := Sl.ix (f := rowRu) hu.m.rules hr
  have hwk := wrap_succ hk (show (u.m.rules.l.length : Int) < _ by omega)
  have b0 : ∀ tk, (s.push ⟨bx, tk⟩).box s.acts.length 0 = some (rowUp u) := fun tk => by rw [box_push]; exact h0
  have bF : ∀ tk, (s.push ⟨bx, tk⟩).box s.acts.length F = some [(cpS 1 u.m.modes.l).v rowS, (cpS 2 u.m.kinds.l).v rowKd, xr, (cpS 3 u.file.l).v rowAc, I u.win, I u.fl] := fun tk => by rw [box_push]; exact hF
  have hlF := (List.getElem?_eq_some_iff.1 hF).1
  by_cases hn : r.name = nm
  ·have hd : decide (r.name ≠ nm) = false := by simp [hn]
   have ih2 : ∀ ρ', ρ' 9 = .slice oL eL (log.map rowDn) → ρ' 19 = .ptr s.acts.length F 0 → ρ' 5 = .ptr s.acts.length 1 0 → ρ' 2 = .ptr s.acts.length 0 0 → ρ' 10 = S nm → ρ' 20 = I (k + 1 : Nat) → go AP f_t_TopCommandNeverForbidden (.c (.loop b_t_TopCommandNeverForbidden_l1) :: k_t_TopCommandNeverForbidden_1) ⟨ρ', s.push ⟨bx, tk⟩⟩ = some (B true, s) := fun ρ' a1 a2 a3 a4 a5 a6 => by
    refine ih ρ' _ ⟨a1, a2, a3, a4, a5, a6, bx, tk, xr, og, rfl, h0, h1, hF, ?_⟩
    rw [take_get hr, List.filter_append, List.filter_cons_of_neg (by simp [hn]), List.filter_nil, List.append_nil]
    exact hA
   simp only [rowRu, Sl.v, rowUp] at hix b0
   simp (maxSteps := 1000000) only [go_sem, b_t_TopCommandNeverForbidden_l1, g2, g10, g20, lt_dec hk, b0, hix, hd, hwk, Nat.reduceEqDiff, Nat.reduceAdd, ↓reduceIte, ne_eq]
   refine ih2 _ ?_ ?_ ?_ ?_ ?_ ?_
   all_goals first | exact g9 | exact g19 | exact g5 | exact g2 | exact g10 | rfl
  ·have hd : decide (r.name ≠ nm) = true := by simp [hn]
   obtain ⟨x', og', tk', ha1, ha2, ha3, _⟩ := hA.append hs .full (ys := [rowRu r]) (by simp) (by
    rw [List.length_map]
    have h3 := List.length_filter_le (fun r : Ru => decide (r.name ≠ nm)) (u.m.rules.l.take k)
    simp at h3 ⊢; omega)
   obtain ⟨o', e', hx', _⟩ := Acc.sl ha2
   have hst : (s.push ⟨bx, tk'⟩).store 1 (.ptr s.acts.length F 2) x' = some (s.push ⟨bx.set F [(cpS 1 u.m.modes.l).v rowS, (cpS 2 u.m.kinds.l).v rowKd, x', (cpS 3 u.file.l).v rowAc, I u.win, I u.fl], tk'⟩) := by
    rw [store_ptr hs, hF, hx']; rfl
   have ih2 : ∀ ρ', ρ' 9 = .slice oL eL (log.map rowDn) → ρ' 19 = .ptr s.acts.length F 0 → ρ' 5 = .ptr s.acts.length 1 0 → ρ' 2 = .ptr s.acts.length 0 0 → ρ' 10 = S nm → ρ' 20 = I (k + 1 : Nat) → go AP f_t_TopCommandNeverForbidden (.c (.loop b_t_TopCommandNeverForbidden_l1) :: k_t_TopCommandNeverForbidden_1) ⟨ρ', s.push ⟨bx.set F [(cpS 1 u.m.modes.l).v rowS, (cpS 2 u.m.kinds.l).v rowKd, x', (cpS 3 u.file.l).v rowAc, I u.win, I u.fl], tk'⟩⟩ = some (B true, s) := fun ρ' a1 a2 a3 a4 a5 a6 => by
    refine ih ρ' _ ⟨a1, a2, a3, a4, a5, a6, _, tk', x', og', rfl, ?_, ?_, ?_, ?_⟩
    ·rw [List.getElem?_set_ne hF0]; exact h0
    ·rw [List.getElem?_set_ne hF1]; exact h1
    ·rw [List.getElem?_set_self hlF]
    ·rw [take_get hr, List.filter_append, List.filter_cons_of_pos (by simp [hn]), List.filter_nil, List.map_append]
     exact ha2
   simp only [rowRu, Sl.v, rowUp] at hix b0 ha1
   generalize (cpS 1 u.m.modes.l).v rowS = q1 at *
   generalize (cpS 2 u.m.kinds.l).v rowKd = q2 at *
   generalize (cpS 3 u.file.l).v rowAc = q3 at *
   simp (maxSteps := 1000000) only [go_sem, b_t_TopCommandNeverForbidden_l1, g19, g2, g10, g20, lt_dec hk, b0, bF, hix, hd, ha1, hst, hwk, Nat.reduceEqDiff, Nat.reduceAdd, ↓reduceIte, ne_eq]
   refine ih2 _ ?_ ?_ ?_ ?_ ?_ ?_
   all_goals first | exact g9 | exact g19 | exact g5 | exact g2 | exact g10 | rfl
 ·rintro ρ m ⟨g9, g19, g5, g2, g10, g20, bx, tk, xr, og, rfl, h0, h1, hF, hA⟩
  have b0 : ∀ tk, (s.push ⟨bx, tk⟩).box s.acts.length 0 = some (rowUp u) := fun tk => by rw [box_push]; exact h0
  rw [List.take_length] at hA
  obtain ⟨o', e', rfl, hRe⟩ := Acc.sl hA
  have hr1 := law_r1 (tk := tk) (nm := nm) (F := F) (oL := oL) (eL := eL) (xR := ⟨o', e', u.m.rules.l.filter fun r => decide (r.name ≠ nm)⟩) hs hu hv hx hcx hll heL hpre hF1 rfl (by
   rcases hRe with h | h
   ·left; simpa using h
   ·exact .inr h) hF h1
  simp only [rowUp, Sl.v] at b0
  have h3 : go AP f_t_TopCommandNeverForbidden (.c b_t_TopCommandNeverForbidden_l1 :: .lp b_t_TopCommandNeverForbidden_l1 :: k_t_TopCommandNeverForbidden_1) ⟨ρ, s.push ⟨bx, tk⟩⟩ = some (B true, s) := by
   simp (maxSteps := 1000000) only [go_sem, b_t_TopCommandNeverForbidden_l1, g2, g20, ge_dec, b0, Nat.reduceEqDiff, Nat.reduceAdd, ↓reduceIte]
   refine hr1 _ ⟨?_, ?_, ?_⟩
   ·exact g9
   ·exact g19
   ·exact g5
  exact h3
theorem law_r2 {u : Upl} {x : StV} {log : List (Int × Int)} {nm : ByteArray} {oL : Own} {eL : Nat} {bx : List (List AV)} {tk : List (Option Nat)} (hs : Ok s) (hu : u.Ok) (hv : UpVal u) (hx : x.Ok) (hcx : x.done.l.length ≤ 100000) (hll : log.length ≤ 50) (heL : log = [] ∨ eL = 2)
  (hpre : ∀ v, UVal v → Sub v (cpUp u) → x.done.l <+: (runQ v cs0 log).done) (h0 : bx[0]? = some (rowUp u)) (h1 : bx[1]? = some x.row) :
  ∀ ρ, (ρ 9 = .slice oL eL (log.map rowDn) ∧ ρ 5 = .ptr s.acts.length 1 0 ∧ ρ 2 = .ptr s.acts.length 0 0 ∧ ρ 10 = S nm) → go AP f_t_TopCommandNeverForbidden [.c b_t_TopCommandNeverForbidden_r2] ⟨ρ, s.push ⟨bx, tk⟩⟩ = some (B true, s) := by
 rintro ρ ⟨g9, g5, g2, g10⟩
 have hl1 := (List.getElem?_eq_some_iff.1 h1).1
 by_cases hn : nm = ⟨#[]⟩
 ·have hd : decide (nm = ⟨#[]⟩) = true := decide_eq_true hn
  simp (maxSteps := 1000000) only [go_sem, b_t_TopCommandNeverForbidden_r2, g10, hd, ↓reduceIte]
 ·have hd : decide (nm = ⟨#[]⟩) = false := decide_eq_false hn
  have b0 : (s.push ⟨bx, tk⟩).box s.acts.length 0 = some (rowUp u) := by rw [box_push]; exact h0
  have hcu : callL AP (.fn 7) [.agg (rowUp u)] (s.push ⟨bx, tk⟩) = some (.agg (rowUp (cpUp u)), s.push ⟨bx, tk⟩) := r_CopyUplink (hs.push _) hu.src
  have h3 := law_l1 (nm := nm) (oL := oL) (F := bx.length) hs hu hv hx hcx hll heL hpre (by omega) (by omega)
  have h4 : ∀ ρ', ρ' 9 = .slice oL eL (log.map rowDn) → ρ' 19 = .ptr s.acts.length bx.length 0 → ρ' 5 = .ptr s.acts.length 1 0 → ρ' 2 = .ptr s.acts.length 0 0 → ρ' 10 = S nm → ρ' 20 = I 0 → go AP f_t_TopCommandNeverForbidden (.c (.loop b_t_TopCommandNeverForbidden_l1) :: k_t_TopCommandNeverForbidden_1) ⟨ρ', s.push ⟨bx ++ [[(cpS 1 u.m.modes.l).v rowS, (cpS 2 u.m.kinds.l).v rowKd, .slice .nilS 0 [], (cpS 3 u.file.l).v rowAc, I u.win, I u.fl]], tk⟩⟩ = some (B true, s) := fun ρ' a1 a2 a3 a4 a5 a6 =>
   h3 0 ρ' _ (Nat.zero_le _) ⟨a1, a2, a3, a4, a5, a6, _, tk, .slice .nilS 0 [], none, rfl, box_app h0, box_app h1, by simp, Acc.start⟩
  have hpt : cutN 0 6 (rowUp u) = some (rowUp u) := rfl
  have hr2 : rowUp (cpUp u) = [(cpS 1 u.m.modes.l).v rowS, (cpS 2 u.m.kinds.l).v rowKd, (cpS 5 u.m.rules.l).v rowRu, (cpS 3 u.file.l).v rowAc, I u.win, I u.fl] := rfl
  rw [hr2] at hcu
  generalize rowUp u = UR at *
  simp only [Sl.v] at hcu h4
  simp (maxSteps := 1000000) only [go_sem, b_t_TopCommandNeverForbidden_r2, g2, g10, hs, hd, b0, hpt, hcu, Nat.reduceEqDiff, Nat.reduceAdd, ↓reduceIte]
  refine h4 _ ?_ ?_ ?_ ?_ ?_ ?_
  all_goals first | exact g9 | exact g5 | exact g2 | exact g10 | rfl
end
end Go.Ax.Sx.Cm
