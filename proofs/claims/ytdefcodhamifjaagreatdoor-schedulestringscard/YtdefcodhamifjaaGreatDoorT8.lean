/-
  Functions that yield: what a round gets, and what stands behind all rounds.
-/
import Derived.Test.YtdefcodhamifjaaGreatDoorT7
import Derived.Test.YtdefcodhamifjaaGreatDoorT6
import Derived.ProofKit
import Derived.Lib.ItoaNum
import Derived.Lib.AtoiAll
namespace Go.Ax.Sx
def up (S : Sig) (B : List Rec) (ls : List ALoop) : Sig := { S with acts := S.acts ++ B, loops := S.loops ++ ls }
section
variable {S : Sig} {B : List Rec} {ls : List ALoop} {r : Rec} {lp : ALoop} {d b : Nat}
theorem up_push : (up S B ls).push r = up S (B ++ [r]) ls := by simp [up, Sig.push]
theorem push_up : S.push r = up S [r] [] := by simp [up, Sig.push]
theorem up_up {B' : List Rec} {ls' : List ALoop} : up (up S B ls) B' ls' = up S (B ++ B') (ls ++ ls') := by simp [up]
theorem up_enter : enterLoop (up S B ls) lp = up S B (ls ++ [lp]) := by simp [up, enterLoop]
theorem up_acts : (up S B ls).acts.length = S.acts.length + B.length := by simp [up]
theorem up_loops : (up S B ls).loops.length = S.loops.length + ls.length := by simp [up]
theorem Ok.up (h : Ok S) : Ok (up S B ls) := ⟨by have := h.ro; simp [Sx.up]; omega, by have := h.lro; simp [Sx.up]; omega⟩
theorem up_top : (up S (r :: B) ls).box S.acts.length b = r.boxes[b]? := by
 simp [Sig.box, up]
theorem up_ready {l : Nat} (h : Ready l lp S) : Ready l lp (up S B ls) :=
 ⟨by have := (List.getElem?_eq_some_iff.1 h.get).1; simp only [up]; rw [List.getElem?_append_left this]; exact h.get, h.ready, h.pend, h.lro⟩
theorem modify_app {α : Type} {l l' : List α} {k : Nat} {f : α → α} (h : k < l.length) : (l ++ l').modify k f = l.modify k f ++ l' := by
 apply List.ext_getElem?
 intro i
 rw [List.getElem?_modify]
 by_cases hi : i < l.length
 ·rw [List.getElem?_append_left hi, List.getElem?_append_left (by simpa using hi), List.getElem?_modify]
 ·rw [List.getElem?_append_right (by omega), List.getElem?_append_right (by simp; omega), List.length_modify]
  have : ¬ k = i := by omega
  simp [this]
theorem up_busy {l : Nat} (h : l < S.loops.length) : busy l (up S B ls) = up (busy l S) B ls := by
 simp only [busy, setLoop, up, modify_app h]
theorem up_over {l : Nat} {e : AExit} (h : l < S.loops.length) : over l e (up S B ls) = up (over l e S) B ls := by
 simp only [over, setLoop, up, modify_app h]
end
section
variable {α ι : Type} (I : List α → ι → Prop) (stop : List α → α → Bool) (O : List α → α → ι → Prop)
def Ends : List α → List α → Bool → ι → Prop
 | done, [], b, i => b = true ∧ I done i
 | done, x :: r, b, i => if stop done x = true then b = false ∧ O done x i else Ends (done ++ [x]) r b i
variable {I stop O}
theorem Ends.all {done xs : List α} {i : ι} (h : Ends I stop O done xs true i) : I (done ++ xs) i := by
 induction xs generalizing done with
 | nil => simpa using h.2
 | cons x r ih =>
  simp only [Ends] at h
  split at h
  ·exact absurd h.1 (by simp)
  ·have := ih h; simpa using this
theorem Ends.app_t {done xs ys : List α} {i i' : ι} {b : Bool} (h : Ends I stop O done xs true i) (h' : Ends I stop O (done ++ xs) ys b i') : Ends I stop O done (xs ++ ys) b i' := by
 induction xs generalizing done with
 | nil => simpa using h'
 | cons x r ih =>
  simp only [Ends, List.cons_append] at h ⊢
  split at h
  ·exact absurd h.1 (by simp)
  ·rename_i hs
   rw [if_neg hs]
   exact ih h (by simpa using h')
theorem Ends.app_f {done xs : List α} (ys : List α) {i : ι} (h : Ends I stop O done xs false i) : Ends I stop O done (xs ++ ys) false i := by
 induction xs generalizing done with
 | nil => exact absurd h.1 (by simp)
 | cons x r ih =>
  simp only [Ends, List.cons_append] at h ⊢
  split at h
  ·rename_i hs; rw [if_pos hs]; exact h
  ·rename_i hs; rw [if_neg hs]; exact ih h
theorem Ends.never {done xs : List α} {i : ι} {b : Bool} (hs : ∀ d x, stop d x = false) (h : Ends I stop O done xs b i) : b = true ∧ I (done ++ xs) i := by
 have : b = true := by
  induction xs generalizing done with
  | nil => exact h.1
  | cons x r ih =>
   simp only [Ends, hs] at h
   exact ih (by simpa using h)
 subst this
 exact ⟨rfl, h.all⟩
theorem Ends.first {done xs : List α} {i : ι} (h : Ends I stop O done xs false i) : ∃ pre x post, xs = pre ++ x :: post ∧ O (done ++ pre) x i ∧ stop (done ++ pre) x = true ∧ ∀ p y q, pre = p ++ y :: q → stop (done ++ p) y = false := by
 induction xs generalizing done with
 | nil => exact absurd h.1 (by simp)
 | cons x r ih =>
  simp only [Ends] at h
  split at h
  ·rename_i hs
   exact ⟨[], x, r, rfl, by simpa using h.2, by simpa using hs, fun p y q e => by simp at e⟩
  ·rename_i hs
   obtain ⟨pre, y, post, e1, e2, e3, e4⟩ := ih h
   refine ⟨x :: pre, y, post, by simp [e1], by simpa using e2, by simpa using e3, fun p z q e => ?_⟩
   cases p with
   | nil =>
    simp only [List.nil_append, List.cons.injEq] at e
    rw [← e.1]; simpa using hs
   | cons a p =>
    simp only [List.cons_append, List.cons.injEq] at e
    have := e4 p z q e.2
    rw [e.1] at this; simpa using this
end
theorem Ends.map {α β ι κ : Type} {I : List α → ι → Prop} {stop : List α → α → Bool} {O : List α → α → ι → Prop} {mk : β → α} {f : κ → ι} {d0 : List α} {I2 : List β → κ → Prop} {stop2 : List β → β → Bool} {O2 : List β → β → κ → Prop}
  (hI : ∀ dn j, I2 dn j → I (d0 ++ dn.map mk) (f j)) (hs : ∀ dn g, stop2 dn g = stop (d0 ++ dn.map mk) (mk g)) (hO : ∀ dn g j, O2 dn g j → O (d0 ++ dn.map mk) (mk g) (f j)) {xs : List β} {b : Bool} {j : κ} :
  ∀ {dn : List β}, Ends I2 stop2 O2 dn xs b j → Ends I stop O (d0 ++ dn.map mk) (xs.map mk) b (f j) := by
 induction xs with
 | nil => intro dn h; exact ⟨h.1, hI _ _ h.2⟩
 | cons x r ih =>
  intro dn h
  simp only [Ends, List.map_cons] at h ⊢
  rw [hs] at h
  by_cases hc : stop (d0 ++ dn.map mk) (mk x) = true
  ·rw [if_pos hc] at h ⊢; exact ⟨h.1, hO _ _ _ h.2⟩
  ·rw [if_neg hc] at h ⊢
   have := ih h
   simpa using this
section
variable {S : Sig} {B : List Rec} {ls : List ALoop} {lp : ALoop} {l : Nat}
theorem busy_up0 (h : S.loops.length = l) : busy l (up S B (lp :: ls)) = up S B ({ lp with ready := false } :: ls) := by
 subst h
 have : ∀ (L : List ALoop) (f : ALoop → ALoop), (L ++ lp :: ls).modify L.length f = L ++ f lp :: ls := by
  intro L f
  induction L with
  | nil => rfl
  | cons a L ih => simpa using ih
 simp only [busy, setLoop, up, this]
theorem over_up0 {e : AExit} (h : S.loops.length = l) : over l e (up S B (lp :: ls)) = up S B ({ lp with ready := false, pend := some e } :: ls) := by
 subst h
 have : ∀ (L : List ALoop) (f : ALoop → ALoop), (L ++ lp :: ls).modify L.length f = L ++ f lp :: ls := by
  intro L f
  induction L with
  | nil => rfl
  | cons a L ih => simpa using ih
 simp only [over, setLoop, up, this]
theorem ready_up0 (hs : Ok S) (h : S.loops.length = l) (hr : lp.ready = true) (hp : lp.pend = none) : Ready l lp (up S B (lp :: ls)) := by
 subst h
 exact ⟨by simp [up], hr, hp, hs.lro⟩
end
structure Hand {α ι : Type} (AP : FuncId → Option AFn) (L : Nat) (V : α → AV) (base : ι → Sig) (I : List α → ι → Prop) (stop : List α → α → Bool) (O : List α → α → ι → Prop) (X : α → Prop) (N NL M : Nat) : Prop where
 ok : ∀ i, Ok (base i)
 len : ∀ i, (base i).acts.length = N
 llen : ∀ i, (base i).loops.length = NL
 go : ∀ done x i B ls, done.length < M → I done i → X x → stop done x = false → ∃ i', callL AP (.yield L) [V x] (up (base i) B ls) = some (.v (.bool true), up (base i') B ls) ∧ I (done ++ [x]) i'
 st : ∀ done x i B ls, done.length < M → I done i → X x → stop done x = true → ∃ i', callL AP (.yield L) [V x] (up (base i) B ls) = some (.v (.bool false), up (base i') B ls) ∧ O done x i'
section
variable {α ι : Type} {AP : FuncId → Option AFn} {L : Nat} {V : α → AV} {base : ι → Sig} {I : List α → ι → Prop} {stop : List α → α → Bool} {O : List α → α → ι → Prop} {X : α → Prop} {N NL M : Nat}
theorem Hand.one (h : Hand AP L V base I stop O X N NL M) {done : List α} {x : α} {i : ι} {B : List Rec} {ls : List ALoop} (hm : done.length < M) (hi : I done i) (hx : X x) (r : Rec) :
  ∃ b i', callL AP (.yield L) [V x] ((up (base i) B ls).push r) = some (.v (.bool b), (up (base i') B ls).push r) ∧ Ends I stop O done [x] b i' := by
 rw [up_push]
 cases hs : stop done x with
 | false =>
  obtain ⟨i', h1, h2⟩ := h.go done x i (B ++ [r]) ls hm hi hx hs
  exact ⟨true, i', by rw [h1, up_push], by simp [Ends, hs, h2]⟩
 | true =>
  obtain ⟨i', h1, h2⟩ := h.st done x i (B ++ [r]) ls hm hi hx hs
  exact ⟨false, i', by rw [h1, up_push], by simp [Ends, hs, h2]⟩
end
structure Mid (X : Rec → Sig) (d : Nat) : Prop where
 get : ∀ r, (X r).acts[d]? = some r
 on : ∀ r f, (X r).onRec d f = X (f r)
 ro : ∀ r, (X r).ro ≤ d
theorem mid_loop {s : Sig} {l : Nat} {lp : ALoop} {B : List Rec} {ls : List ALoop} (hs : Ok s) : Mid (fun r => up (busy l (enterLoop (s.push r) lp)) B ls) s.acts.length := by
 refine ⟨fun r => ?_, fun r f => ?_, fun r => hs.ro⟩
 ·simp [up, busy, setLoop, enterLoop, Sig.push]
 ·have : ((s.acts ++ [r]) ++ B).modify s.acts.length f = (s.acts ++ [f r]) ++ B := by
   rw [modify_app (by simp)]
   congr 1
   exact (congrArg Sig.acts (onRec_push s r f) : _)
  simp only [Sig.onRec, up, busy, setLoop, enterLoop, Sig.push, this]
section
variable {X : Rec → Sig} {d : Nat} {r r0 : Rec}
theorem Mid.lt (h : Mid X d) (r : Rec) : d < (X r).acts.length := (List.getElem?_eq_some_iff.1 (h.get r)).1
theorem Mid.onPush (h : Mid X d) (f : Rec → Rec) : ((X r).push r0).onRec d f = (X (f r)).push r0 := by
 rw [← h.on r f]
 simp only [Sig.onRec, Sig.push, modify_app (h.lt r)]
theorem Mid.box (h : Mid X d) {b : Nat} : ((X r).push r0).box d b = r.boxes[b]? := by
 have := h.lt r
 simp only [Sig.box, Sig.push]
 rw [List.getElem?_append_left this, h.get r]; rfl
theorem Mid.tok (h : Mid X d) {g : Nat} : ((X r).push r0).tok d g = (r.toks[g]?).join := by
 have := h.lt r
 simp only [Sig.tok, Sig.push]
 rw [List.getElem?_append_left this, h.get r]; rfl
theorem Mid.ntok (h : Mid X d) : ((X r).push r0).ntok d = r.toks.length := by
 have := h.lt r
 simp only [Sig.ntok, Sig.push]
 rw [List.getElem?_append_left this, h.get r]
theorem Mid.setBox (h : Mid X d) {b : Nat} {cs : List AV} : ((X r).push r0).setBox d b cs = (X ⟨r.boxes.set b cs, r.toks⟩).push r0 := h.onPush _
theorem Mid.setTok (h : Mid X d) {g : Nat} {n : Option Nat} : ((X r).push r0).setTok d g n = (X ⟨r.boxes, r.toks.set g n⟩).push r0 := h.onPush _
theorem Mid.addTok (h : Mid X d) {n : Nat} : ((X r).push r0).addTok d n = (X ⟨r.boxes, r.toks ++ [some n]⟩).push r0 := h.onPush _
theorem fitAll_closed {m : Sig} {d : Nat} : ∀ {cs : List AV}, (cs.all AV.isClosed = true) → m.fitAll d cs = some (cs, m)
 | [], _ => rfl
 | x :: r, h => by
  simp only [List.all_cons, Bool.and_eq_true] at h
  have hx : m.fit d x = some (x, m) := by
   cases x with
   | slice o es xs =>
    cases o with
    | tok => simp [AV.isClosed, AV.isClosed1] at h
    | _ => simp [Sig.fit, AV.close, AV.isClosed, AV.isClosed1]
   | ptr => simp [AV.isClosed, AV.isClosed1] at h
   | rsl => simp [AV.isClosed, AV.isClosed1] at h
   | _ => simp only [Sig.fit, AV.close, h.1, if_true, Option.map_some]
  simp only [Sig.fitAll, hx, fitAll_closed h.2]
theorem Mid.store (h : Mid X d) {b off n : Nat} {y : AV} (hc : y.cells.all AV.isClosed = true) (hn : fitN n y.cells = true) {row row' : List AV} (hb : r.boxes[b]? = some row) (ho : overN row off y.cells = some row') :
  ((X r).push r0).store n (.ptr d b off) y = some ((X ⟨r.boxes.set b row', r.toks⟩).push r0) := by
 have hlt := h.lt r
 have hcur : ((X r).push r0).cur = (X r).acts.length := cur_push _ _
 have hro : ((X r).push r0).ro ≤ d := h.ro r
 obtain ⟨h1, h2⟩ := fitN_iff.1 hn
 have hne : ¬ d = (X r).acts.length := by omega
 rw [overN_eq] at ho
 by_cases hl : off + y.cells.length ≤ row.length
 ·rw [if_pos hl] at ho
  injection ho with ho
  subst ho
  have hle : off + n ≤ row.length := by omega
  simp only [Sig.store, hro, h1, h2, and_self, if_true, hcur, hne, if_false, fitAll_closed hc, h.box, hb, hle, h.setBox]
 ·rw [if_neg hl] at ho; cases ho
theorem Mid.append (h : Mid X d) {es b : Nat} {xs : List (List AV)} {x : AV} {og : Option Nat} (ha : Acc d es xs x og r.toks) (o : Own) {ys : List (List AV)} (hy : ys ≠ []) (hl : xs.length + ys.length ≤ 4294967296) (hb : b < r.boxes.length) (hrow : ∃ c, r.boxes[b]? = some [c]) :
  ∃ x1 m1 r0' x' og' tk', appendOp ((X r).push r0) es x (.slice o es ys) = some (x1, m1) ∧ m1.store 1 (.ptr d b 0) x1 = some ((X ⟨r.boxes.set b [x'], tk'⟩).push r0') ∧ r0'.boxes = r0.boxes ∧ Acc d es (xs ++ ys) x' og' tk' ∧ og' ≠ none ∧
   (∀ es2 xs2 x2 og2, Acc d es2 xs2 x2 og2 r.toks → (og2 ≠ og ∨ og2 = none) → Acc d es2 xs2 x2 og2 tk' ∧ og2 ≠ og') := by
 have hlt := h.lt r
 have hcur : ∀ q, ((X r).push q).cur = (X r).acts.length := fun q => cur_push _ _
 have hro : ∀ q, ((X r).push q).ro ≤ d := fun q => h.ro r
 have hne : ¬ d = (X r).acts.length := by omega
 have hne2 : ¬ (X r).acts.length ≤ d := by omega
 obtain ⟨c, hrow⟩ := hrow
 have hy' : ys.isEmpty = false := by cases ys <;> simp_all
 cases og with
 | none =>
  obtain ⟨rfl, rfl⟩ := ha
  have hl' : ys.length ≤ 4294967296 := by simpa using hl
  refine ⟨.slice (.tok (X r).acts.length r0.toks.length) es ys, (X r).push ⟨r0.boxes, r0.toks ++ [some ys.length]⟩, ⟨r0.boxes, (r0.toks ++ [some ys.length]).set r0.toks.length none⟩, .slice (.tok d r.toks.length) es ys, some r.toks.length, r.toks ++ [some ys.length], ?_, ?_, rfl, ⟨by simpa using hy, rfl, by simp⟩, by simp, ?_⟩
  ·simp [appendOp, hy', Own.isNil, most, hl', hcur, ntok_push, addTok_push]
  ·have hcell : (AV.slice (.tok (X r).acts.length r0.toks.length) es ys).cells = [.slice (.tok (X r).acts.length r0.toks.length) es ys] := rfl
   have htok : ((X r).push ⟨r0.boxes, r0.toks ++ [some ys.length]⟩).tok (X r).acts.length r0.toks.length = some ys.length := by rw [tok_push]; simp
   have hfit : ((X r).push ⟨r0.boxes, r0.toks ++ [some ys.length]⟩).fitAll d [.slice (.tok (X r).acts.length r0.toks.length) es ys] = some ([.slice (.tok d r.toks.length) es ys], (X ⟨r.boxes, r.toks ++ [some ys.length]⟩).push ⟨r0.boxes, (r0.toks ++ [some ys.length]).set r0.toks.length none⟩) := by
    simp only [Sig.fitAll, Sig.fit, hne2, if_false, hcur, htok, and_self, if_true, h.ntok, setTok_push, h.addTok]
   simp only [Sig.store, hro, hcell, List.length_cons, List.length_nil, List.all_cons, List.all_nil, AV.isCell, Bool.and_self, and_self, if_true, hcur, hne, if_false, hfit, h.box, hrow, h.setBox, Nat.zero_add, Nat.le_refl, setCells, List.set_cons_zero]
  ·intro es2 xs2 x2 og2 h2 _
   cases og2 with
   | none => exact ⟨h2, by simp⟩
   | some g =>
    obtain ⟨a, b, c⟩ := h2
    have := (List.getElem?_eq_some_iff.1 c).1
    exact ⟨⟨a, b, by rw [List.getElem?_append_left this]; exact c⟩, by simp; omega⟩
 | some g =>
  obtain ⟨hx, rfl, hg⟩ := ha
  refine ⟨.slice (.tok d g) es (xs ++ ys), (X ⟨r.boxes, r.toks.set g (some (xs.length + ys.length))⟩).push r0, r0, .slice (.tok d g) es (xs ++ ys), some g, r.toks.set g (some (xs.length + ys.length)), ?_, ?_, rfl, ⟨by simp [hx], rfl, ?_⟩, by simp, ?_⟩
  ·simp [appendOp, hy', most, hl, h.tok, hg, hro, h.setTok]
  ·have hcell : (AV.slice (.tok d g) es (xs ++ ys)).cells = [.slice (.tok d g) es (xs ++ ys)] := rfl
   have hcur' : ∀ q tk, ((X ⟨r.boxes, tk⟩).push q).cur = (X ⟨r.boxes, tk⟩).acts.length := fun q tk => cur_push _ _
   have hro' : ∀ q tk, ((X ⟨r.boxes, tk⟩).push q).ro ≤ d := fun q tk => h.ro _
   have hne' : ∀ tk, ¬ d = (X ⟨r.boxes, tk⟩).acts.length := fun tk => by have := h.lt ⟨r.boxes, tk⟩; omega
   have hfit : ∀ m : Sig, m.fitAll d [.slice (.tok d g) es (xs ++ ys)] = some ([.slice (.tok d g) es (xs ++ ys)], m) := fun m => by
    simp only [Sig.fitAll, Sig.fit, Nat.le_refl, if_true]
   simp only [Sig.store, hro', hcell, List.length_cons, List.length_nil, List.all_cons, List.all_nil, AV.isCell, Bool.and_self, and_self, if_true, hcur', hne', if_false, hfit, h.box, hrow, h.setBox, Nat.zero_add, Nat.le_refl, setCells, List.set_cons_zero]
  ·rw [List.getElem?_set_self (List.getElem?_eq_some_iff.1 hg).1]; simp
  ·intro es2 xs2 x2 og2 h2 hne
   cases og2 with
   | none => exact ⟨h2, by simp⟩
   | some g2 =>
    obtain ⟨a, b, c⟩ := h2
    have hne : g2 ≠ g := by rcases hne with h | h <;> simp_all
    exact ⟨⟨a, b, by rw [List.getElem?_set_ne (fun e => hne e.symm)]; exact c⟩, by simpa using hne⟩
end
end Go.Ax.Sx

/-
  From the executor's answer to a law's row: the arguments opened and shut.
-/
namespace Go.Ax
open Go.ChangeShapes Go.WideShapes Go.ChangeAt Go.RowKit Sx
def ArgShp (P : Program) (d : Nat) (t : TypeId) (x : AV) : Prop :=
 match P.underlying t with
 | some (.struct _) | some (.array _ _) => ∃ avs, x = .agg avs ∧ Shp P d t avs
 | _ => Shp P d t [x]
inductive ArgsShp (P : Program) (d : Nat) : List TypeId → List AV → Prop
 | nil : ArgsShp P d [] []
 | cons {t : TypeId} {ts : List TypeId} {x : AV} {xs : List AV} (h : ArgShp P d t x) (r : ArgsShp P d ts xs) : ArgsShp P d (t :: ts) (x :: xs)
section
variable {H : Type} {enc : TypeId × Value → H} {P : Program} {w : World}
theorem cells_other {v : Value} {cs : Array Value} (h : v.cells = cs) (hn : ∀ c, v ≠ .agg c) : cs.toList = [v] := by
 subst h
 cases v <;> first | rfl | exact absurd rfl (hn _)
theorem reads_agg {avs : List AV} {cs : Array Value} (h : RL w avs cs.toList) : Reads w (.agg avs) (.agg cs) :=
 .agg (by simpa using h.len.symm) (fun c hc => by
  obtain ⟨i, hi⟩ := List.getElem?_of_mem hc
  have hil := (List.getElem?_eq_some_iff.1 hi).1
  have hl := h.len
  have hcl : i < cs.toList.length := by omega
  exact (h.get i c (cs.toList[i]) hi (List.getElem?_eq_getElem hcl)).2) (fun i hi => by
  have hl := h.len
  have hcl : i < cs.toList.length := by omega
  have := (h.get i avs[i] (cs.toList[i]) (List.getElem?_eq_getElem hi) (List.getElem?_eq_getElem hcl)).1
  have e : cs.getD i Go.undef = cs.toList[i] := by
   have : i < cs.size := by simpa using hcl
   simp [Array.getD, this]
  rw [e]; exact this)
theorem open_arg {d : Nat} {r : Reach} {b0 : Nat} {t : TypeId} {v : Value} {x : DataW H} {ps : List MemPlace} (hok : okT P d t = true) (hval : Value.okWide P w r b0 t v) (h : DataW.Trod enc P w 0 (fun _ => true) true t v x ps) (hwt : ∀ n ∈ x.weights P t, n ≤ reachBytes) :
  ∃ a, Reads w a v ∧ ArgShp P d t a := by
 obtain ⟨fuel, hf⟩ := h
 obtain ⟨avs, h1, h2, h3⟩ := open_type d t fuel _ _ hok hf hwt
 cases d with
 | zero => simp [okT] at hok
 | succ d =>
  unfold okT at hok
  cases hu : P.underlying t with
  | none => rw [hu] at hok; cases hok
  | some u =>
   rw [hu] at hok
   have key : (∀ c, v ≠ .agg c) → (P.cellsOf t = 1) → ∃ a, Reads w a v ∧ Shp P (d + 1) t [a] := by
    intro hn h1c
    have hc := cells_other (v := v) rfl hn
    rw [hc] at h1
    have hl := h1.len
    match avs, hl, h1, h3 with
    | [a], _, h1, h3 => exact ⟨a, (h1.get 0 a v rfl rfl).1, h3⟩
   cases u with
   | bool =>
    obtain ⟨a, k1, k2⟩ := key (fun c e => by subst e; simp only [Value.okWide, hu] at hval; simp [Cell.okWide, Cell.ok, hu] at hval) (by simpa using hok)
    exact ⟨a, k1, by simp only [ArgShp, hu]; exact k2⟩
   | int k =>
    obtain ⟨a, k1, k2⟩ := key (fun c e => by subst e; simp only [Value.okWide, hu] at hval; simp [Cell.okWide, Cell.ok, hu] at hval) (by simpa using hok)
    exact ⟨a, k1, by simp only [ArgShp, hu]; exact k2⟩
   | string =>
    obtain ⟨a, k1, k2⟩ := key (fun c e => by subst e; simp only [Value.okWide, hu] at hval; simp [Cell.okWide, Cell.ok, hu] at hval) (by simpa using hok)
    exact ⟨a, k1, by simp only [ArgShp, hu]; exact k2⟩
   | slice e =>
    obtain ⟨a, k1, k2⟩ := key (fun c e => by subst e; simp only [Value.okWide, hu] at hval; simp [Cell.okWide, Cell.ok, hu] at hval) (by simp only [Bool.and_eq_true, decide_eq_true_eq] at hok; exact hok.1.1)
    exact ⟨a, k1, by simp only [ArgShp, hu]; exact k2⟩
   | struct fs =>
    simp only [Value.okWide, hu] at hval
    obtain ⟨cs, rfl, _, _⟩ := hval
    exact ⟨.agg avs, reads_agg h1, by simp only [ArgShp, hu]; exact ⟨avs, rfl, h3⟩⟩
   | array n e =>
    simp only [Value.okWide, hu] at hval
    obtain ⟨cs, rfl, _, _⟩ := hval
    exact ⟨.agg avs, reads_agg h1, by simp only [ArgShp, hu]; exact ⟨avs, rfl, h3⟩⟩
   | _ => cases hok
theorem open_args {d : Nat} {r : Reach} {b0 : Nat} : ∀ {ts : List TypeId} {vs : List Value} {ds : List (DataW H)} {ps : List MemPlace}, (∀ t ∈ ts, okT P d t = true) → (∀ (j : Nat) t v, ts[j]? = some t → vs[j]? = some v → Value.okWide P w r b0 t v) →
  DataW.TrodAll enc P w 0 (fun _ => true) true ts vs ds ps → (∀ n ∈ DataW.weightsEach P ts ds, n ≤ reachBytes) → ∃ as : List AV, ArgsShp P d ts as ∧ as.length = vs.length ∧ ∀ (i : Nat) a v, as[i]? = some a → vs[i]? = some v → Reads w a v
 | [], [], [], _, _, _, _, _ => ⟨[], .nil, rfl, fun i a v h => by simp at h⟩
 | t :: ts, v :: vs, x :: ds, _, hok, hval, ⟨p, q, h1, h2, _⟩, hwt => by
  obtain ⟨a, k1, k2⟩ := open_arg (hok t (List.mem_cons_self ..)) (hval 0 t v rfl rfl) h1 (fun n hn => hwt n (by simp only [DataW.weightsEach, List.mem_append]; exact .inl hn))
  obtain ⟨as, m1, m2, m3⟩ := open_args (fun t ht => hok t (List.mem_cons_of_mem _ ht)) (fun j t v h1 h2 => hval (j + 1) t v (by simpa using h1) (by simpa using h2)) h2 (fun n hn => hwt n (by simp only [DataW.weightsEach, List.mem_append]; exact .inr hn))
  exact ⟨a :: as, .cons k2 m1, by simp [m2], fun i b u hb hu => by
   cases i with
   | zero => simp at hb hu; subst hb hu; exact k1
   | succ i => simp at hb hu; exact m3 i b u hb hu⟩
theorem trodAll_len {sp : Nat → Bool} {held : Bool} {base : Nat} : ∀ {ts : List TypeId} {vs : List Value} {ds : List (DataW H)} {ps : List MemPlace}, DataW.TrodAll enc P w base sp held ts vs ds ps → ds.length = ts.length
 | [], [], [], _, _ => rfl
 | t :: ts, v :: vs, x :: ds, _, ⟨p, q, h1, h2, _⟩ => by simp [trodAll_len h2]
theorem stay_args (hl : laidOutB P = true) {W' : World} (hb : Below w.heap.size w W') {sp : Nat → Bool} : ∀ {ts : List TypeId} {vs : List Value} {ds : List (DataW H)} {ps : List MemPlace}, (∀ t ∈ ts, P.readableRec t = true ∧ t < P.types.size) →
  DataW.TrodAll enc P w 0 (fun _ => true) true ts vs ds ps → (∀ p ∈ ps, p.block < w.heap.size) → (∀ p ∈ ps, sp p.block = true) → DataW.TrodAll enc P W' 0 sp true ts vs ds ps
 | [], [], [], _, _, h, _, _ => h
 | t :: ts, v :: vs, x :: ds, _, hT, ⟨p, q, h1, h2, e⟩, hlt, hsp => by
  subst e
  have ht := hT t (List.mem_cons_self ..)
  exact ⟨p, q, WideElems.Trod_stays hl ht.1 ht.2 h1 (fun y hy => hb.same (hlt y (List.mem_append_left _ hy))) (fun y hy => hsp y (List.mem_append_left _ hy)),
   stay_args hl hb (fun t ht => hT t (List.mem_cons_of_mem _ ht)) h2 (fun y hy => hlt y (List.mem_append_right _ hy)) (fun y hy => hsp y (List.mem_append_right _ hy)), rfl⟩
theorem post_of_below {f : Func} {s : ChangeSpec} {apart fresh handsOn again : Bool} {W W' : World} {args : Array Value} {v : Value} {ds gs : List (DataW H)} {before pa pv : List MemPlace}
  (hW : DataW.Whole enc P f.params.toList s.vars apart W args.toList ds gs before)
  (hres : ∀ (b : Nat) (sp : Nat → Bool) (hd : Bool), DataW.TrodAll enc P W' b sp hd f.resultTypes.toList (v.resultList f.resultTypes.size) (s.fn H (ds ++ gs)).results [])
  (hargs : ∀ sp : Nat → Bool, (∀ p ∈ before, sp p.block = true) → DataW.TrodAll enc P W' 0 sp true f.params.toList args.toList (s.fn H (ds ++ gs)).args pa)
  (hvars : ∀ sp : Nat → Bool, (∀ p ∈ before, sp p.block = true) → DataW.TrodVars enc P W' sp s.vars (s.fn H (ds ++ gs)).vars pv)
  (hps : before = pa ++ pv) (hb : Below W.heap.size W W')
  (hok : ∀ (j : Nat) (t : TypeId) (r : Value), f.resultTypes[j]? = some t → (v.resultList f.resultTypes.size)[j]? = some r → Value.okWide P W' .any 0 t r) :
  s.post enc P f apart fresh handsOn again W args v W' := by
 have hlt : ∀ p ∈ before, p.block < W.heap.size := fun p hp => hW.lt p hp
 have hold : ∀ p ∈ before, (fun b => decide (b < W.heap.size)) p.block = true := fun p hp => by simpa using hlt p hp
 refine ⟨ds, gs, before, [], pa, pv, hW, hres _ _ _, hargs _ hold, hvars _ hold, World.keptBut_mono (fun p hp => ⟨hp, ?_⟩) (hb.frame (· ∈ before)), fun _ => ?_⟩
 ·rw [hps, List.mem_append] at hp
  exact Or.inr hp
 ·obtain ⟨_, _, _, _, _, hz, hn⟩ := hW
  refine ⟨hok, _, _, ([] ++ pa) ++ pv, ⟨[] ++ pa, pv, trodAll_append (hargs _ (fun _ _ => rfl)) (hres _ _ _), hvars _ (fun _ _ => rfl), rfl, ?_, ?_⟩, ?_⟩
  ·intro b off hp
   have hin : MemPlace.cell b off ∈ before := by rw [hps]; simpa using hp
   rw [hb.frozen (hlt _ hin)]
   exact hz b off hin
  ·intro ha
   have := hn ha
   rw [hps] at this
   simpa using this
  ·intro p hp _
   rw [hps]
   simpa using hp
def LawOk (P : Program) (AP : FuncId → Option AFn) (f : FuncId) (d : Nat) (ts : List TypeId) : Prop :=
 ∀ (as : List AV) (s : Sig), Ok s → ArgsShp P d ts as → callL AP (.fn f) as s = some (.v (.bool true), s)
theorem law_calls {AP : FuncId → Option AFn} {K : World → Prop} (hp : ProgOk P AP K) (hK : ∀ w', Below w.heap.size w w' → K w') {f : FuncId} {d : Nat} {ts : List TypeId} (hlaw : LawOk P AP f d ts) {args : Array Value} {ds : List (DataW H)} {ps : List MemPlace} {r : Reach} {b0 : Nat} (hok : ∀ t ∈ ts, okT P d t = true)
  (hval : ∀ (j : Nat) t v, ts[j]? = some t → args.toList[j]? = some v → Value.okWide P w r b0 t v) (hA : DataW.TrodAll enc P w 0 (fun _ => true) true ts args.toList ds ps) (hwt : (DataW.weightsEach P ts ds).all (· ≤ reachBytes) = true) :
  Calls P f args w fun e w' => e = .returned (.bool true) ∧ Below w.heap.size w w' := by
 obtain ⟨as, h1, h2, h3⟩ := open_args hok hval hA (fun n hn => by simpa using List.all_eq_true.1 hwt n hn)
 obtain ⟨n, hn⟩ := callL_iff.1 (hlaw as startS ⟨Nat.le_refl _, Nat.le_refl _⟩ h1)
 refine run_sound hp hK (by simpa using h2.symm) (fun i hi => ?_) hn
 have hi' : i < args.toList.length := by omega
 have e : args.getD i Go.undef = args.toList[i] := by
  have : i < args.size := by simpa using hi'
  simp [Array.getD, this]
 rw [e]
 exact h3 i as[i] args.toList[i] (List.getElem?_eq_getElem hi) (List.getElem?_eq_getElem hi')
end
end Go.Ax

/-
  What a shape says, type by type.
-/
namespace Go.Ax.Sx
section
variable {P : Program} {d : Nat} {t : TypeId} {avs : List AV}
theorem shp_int (hu : P.underlying t = some (.int .i64)) (h : Shp P (d + 1) t avs) : ∃ x, avs = [I x] ∧ inI x := by
 simp only [Shp, hu] at h
 obtain ⟨x, rfl, hw⟩ := h
 refine ⟨x, rfl, ?_⟩
 simp only [Lit.wf, Bool.and_eq_true, decide_eq_true_eq] at hw
 have h1 : IntKind.i64.min = -9223372036854775808 := by decide
 have h2 : IntKind.i64.max = 9223372036854775807 := by decide
 unfold inI; omega
theorem shp_str (hu : P.underlying t = some .string) (h : Shp P (d + 1) t avs) : ∃ x : ByteArray, avs = [.v (.string x)] ∧ x.size ≤ maxLen := by
 simp only [Shp, hu] at h; exact h
theorem shp_struct {fs : Array Field} (hu : P.underlying t = some (.struct fs)) (h : Shp P (d + 1) t avs) : ∃ ps : List (List AV), avs = ps.flatten ∧ ps.length = fs.size ∧ ∀ (i : Nat) (f : Field) (p : List AV), fs[i]? = some f → ps[i]? = some p → Shp P d f.type p := by
 simp only [Shp, hu] at h
 obtain ⟨ps, h1, h2, h3⟩ := h
 exact ⟨ps, h1, h2, fun i f p a b => (h3 i f p a b).2⟩
theorem shp_slice {e : TypeId} (hu : P.underlying t = some (.slice e)) (h : Shp P (d + 1) t avs) : ∃ o rows, avs = [.slice o (P.cellsOf e) rows] ∧ (o = .any ∨ (o = .nilS ∧ rows = [])) ∧ rows.length ≤ maxLen ∧ ∀ r ∈ rows, Shp P d e r := by
 simp only [Shp, hu] at h
 obtain ⟨o, rows, h1, h2, h3, h4, _⟩ := h
 exact ⟨o, rows, h1, h2, h3, fun r a => (h4 r a).2⟩
theorem rows_map {α : Type} {q : List AV → α → Prop} : ∀ {rows : List (List AV)}, (∀ r ∈ rows, ∃ a, q r a) → ∃ l : List α, rows.length = l.length ∧ ∀ (i : Nat) r a, rows[i]? = some r → l[i]? = some a → q r a
 | [], _ => ⟨[], rfl, fun i r a h => by simp at h⟩
 | r :: rows, h => by
  obtain ⟨a, ha⟩ := h r (List.mem_cons_self ..)
  obtain ⟨l, h1, h2⟩ := rows_map (rows := rows) (fun r hr => h r (List.mem_cons_of_mem _ hr))
  exact ⟨a :: l, by simp [h1], fun i r' a' h3 h4 => by
   cases i with
   | zero => simp at h3 h4; subst h3 h4; exact ha
   | succ i => simp at h3 h4; exact h2 i r' a' h3 h4⟩
theorem rows_eq {α : Type} {f : α → List AV} {g : α → Prop} {rows : List (List AV)} (h : ∀ r ∈ rows, ∃ a, r = f a ∧ g a) : ∃ l : List α, rows = l.map f ∧ ∀ a ∈ l, g a := by
 obtain ⟨l, h1, h2⟩ := rows_map (q := fun r a => r = f a ∧ g a) h
 refine ⟨l, ?_, fun a ha => ?_⟩
 ·apply List.ext_getElem?
  intro i
  by_cases hi : i < rows.length
  ·obtain ⟨a, ha⟩ := get_some (l := l) (k := i) (by omega)
   rw [List.getElem?_map, ha, List.getElem?_eq_getElem hi]
   exact congrArg some (h2 i _ a (List.getElem?_eq_getElem hi) ha).1
  ·rw [List.getElem?_eq_none (by omega), List.getElem?_eq_none (by simp; omega)]
 ·obtain ⟨i, hi⟩ := List.getElem?_of_mem ha
  have hil := (List.getElem?_eq_some_iff.1 hi).1
  obtain ⟨r, hr⟩ := get_some (l := rows) (k := i) (by omega)
  exact (h2 i r a hr hi).2
end
end Go.Ax.Sx

/-
  What is taken from the library's shelf.
-/
namespace Go.Ax.Sx.Sc
def zeros (n : Nat) : List AV := List.replicate n (.v (.bool false))
def dig2 (n : Nat) : List UInt8 := if n < 10 then [UInt8.ofNat (48 + n)] else [UInt8.ofNat (48 + n / 10), UInt8.ofNat (48 + n % 10)]
def itoaF : List AV → Option AV
 | [.v (.int .i64 n)] => if 0 ≤ n ∧ n < 100 then some (.v (.string ⟨(dig2 n.toNat).toArray⟩)) else none
 | _ => none
def stringsOf : List (List AV) → Option (List (List UInt8))
 | [] => some []
 | [.v (.string s)] :: r => (stringsOf r).map (s.data.toList :: ·)
 | _ => none
def joinF : List AV → Option AV
 | [.slice _ _ rows, .v (.string sep)] => (stringsOf rows).bind fun l =>
  if l.length ≤ 1000000 ∧ (sep.data.toList.intercalate l).length ≤ 1000000 then some (.v (.string ⟨(sep.data.toList.intercalate l).toArray⟩)) else none
 | _ => none
def pJoin : AFn := .prim joinF
end Go.Ax.Sx.Sc

/-
  What is taken from the library's shelf for the strings of plans: numerals, cuts at a byte, numbers read.
-/
namespace Go.Ax.Sx.Sc
def spl (c : UInt8) : List UInt8 → List (List UInt8)
 | [] => [[]]
 | x :: r => if x = c then [] :: spl c r else match spl c r with
  | h :: t => (x :: h) :: t
  | [] => [[x]]
def cut1 (c : UInt8) : List UInt8 → List UInt8 × List UInt8 × Bool
 | [] => ([], [], false)
 | x :: r => if x = c then ([], r, true) else ((x :: (cut1 c r).1), (cut1 c r).2.1, (cut1 c r).2.2)
def idx1 (c : UInt8) : List UInt8 → Int
 | [] => -1
 | x :: r => if x = c then 0 else if idx1 c r < 0 then -1 else idx1 c r + 1
theorem idx1_ge {c : UInt8} : ∀ {l : List UInt8}, -1 ≤ idx1 c l
 | [] => by simp [idx1]
 | b :: l => by
  have ih := idx1_ge (c := c) (l := l)
  rw [idx1]
  split
  ·omega
  ·split <;> omega
theorem spl_miss {c : UInt8} : ∀ {l : List UInt8}, idx1 c l = -1 → spl c l = [l]
 | [], _ => rfl
 | b :: l, h => by
  unfold idx1 at h
  have hg := idx1_ge (c := c) (l := l)
  split at h
  ·cases h
  ·rename_i hb
   split at h
   ·rw [spl, if_neg hb, spl_miss (by omega)]
   ·omega
theorem spl_hit {c : UInt8} : ∀ {l : List UInt8} {i : Nat}, idx1 c l = i → spl c l = l.take i :: spl c (l.drop (i + 1))
 | [], i, h => by unfold idx1 at h; omega
 | b :: l, i, h => by
  unfold idx1 at h
  split at h
  ·rename_i hb
   have : i = 0 := by omega
   subst this
   rw [spl, if_pos hb]; simp
  ·rename_i hb
   split at h
   ·omega
   ·obtain ⟨j, rfl⟩ : ∃ j, i = j + 1 := ⟨i - 1, by omega⟩
    rw [spl, if_neg hb, spl_hit (i := j) (by omega)]
    simp
def itoaAF : List AV → Option AV
 | [.v (.int .i64 n)] => if 0 ≤ n ∧ n < 100 then some (.v (.string ⟨(dig2 n.toNat).toArray⟩)) else
  if -9223372036854775808 ≤ n ∧ n ≤ 9223372036854775807 then some (.v (.string ⟨(Lib.itoa n).toArray⟩)) else none
 | _ => none
def atoiF : List AV → Option AV
 | [.v (.string s)] => if s.size ≤ 1000000 then (match Lib.atoiAll s.data.toList with
  | .ok v => some (.tuple [.v (.int .i64 v), .v .nilIface])
  | .range => some (.tuple [.v (.int .i64 (Lib.atoiSat s.data.toList)), .opq])
  | _ => some (.tuple [.v (.int .i64 0), .opq])) else none
 | _ => none
def cutF : List AV → Option AV
 | [.v (.string s), .v (.string sep)] => match sep.data.toList with
  | [c] => if s.size ≤ 1000000 then some (.tuple [.v (.string ⟨(cut1 c s.data.toList).1.toArray⟩), .v (.string ⟨(cut1 c s.data.toList).2.1.toArray⟩), .v (.bool (cut1 c s.data.toList).2.2)]) else none
  | _ => none
 | _ => none
def splitF : List AV → Option AV
 | [.v (.string s), .v (.string sep)] => match sep.data.toList with
  | [c] => if s.size ≤ 1000000 then some (.slice .any 1 ((spl c s.data.toList).map fun b => [.v (.string ⟨b.toArray⟩)])) else none
  | _ => none
 | _ => none
def indexF : List AV → Option AV
 | [.v (.string s), .v (.string sep)] => match sep.data.toList with
  | [c] => if s.size ≤ 1000000 then some (.v (.int .i64 (idx1 c s.data.toList))) else none
  | _ => none
 | _ => none
def pItoaA : AFn := .prim itoaAF
def pAtoi : AFn := .prim atoiF
def pCut : AFn := .prim cutF
def pSplit : AFn := .prim splitF
def pIndex : AFn := .prim indexF
end Go.Ax.Sx.Sc
