/-
  Loops over functions: the rounds.
-/
import Derived.Test.YtfmojojicndbcaaSxC
namespace Go.Ax.Sx

section
variable {AP : FuncId → Option AFn} {Fin : AExit → St → Option (AV × Sig)} {ks : List K} {ρ : Nat → AV} {m S : Sig} {l : Nat} {lp : ALoop}

/-- Behind a loop over a function. -/
noncomputable def goL (AP : FuncId → Option AFn) (Fin : AExit → St → Option (AV × Sig)) (l : Nat) (ks : List K) (ρ : Nat → AV) (s : Sig) : Option (AV × Sig) :=
  (leaveLoop s l).bind fun p => goE AP Fin ks (p.1.getD .normal) ⟨ρ, p.2⟩

theorem go_range {x : AOpd} {ps : List Nat} {a b : ACode} {g : FuncId} {first caps : List AV} (h : evalT ρ x = .fn g first caps) :
    go AP Fin (.c (.rangeFunc x ps a b) :: ks) ⟨ρ, m⟩ = (callL AP (.fn g) (first ++ .yield m.loops.length :: caps) (enterLoop m ⟨true, none, ρ, ps, a, b⟩)).bind fun p => goL AP Fin m.loops.length ks ρ p.2 := by
  simp only [go, goE, runL_rangeFunc, h, goL]
  cases callL AP (.fn g) (first ++ .yield m.loops.length :: caps) (enterLoop m ⟨true, none, ρ, ps, a, b⟩) with
  | none => rfl
  | some p =>
    obtain ⟨x, s⟩ := p
    simp only [Option.bind_some]
    cases leaveLoop s m.loops.length with
    | none => rfl
    | some q => rfl

theorem leave_enter (h : m.loops.length = l) (hr : lp.ready = true ∨ lp.pend.isSome = true) : leaveLoop (enterLoop m lp) l = some (lp.pend, m) := by
  subst h
  have : (lp.ready = true ∨ lp.pend.isSome = true) := hr
  simp [leaveLoop, enterLoop, this]

theorem goL_normal (h : m.loops.length = l) (hr : lp.ready = true) (hp : lp.pend = none) : goL AP Fin l ks ρ (enterLoop m lp) = go AP Fin ks ⟨ρ, m⟩ := by
  rw [goL, leave_enter h (.inl hr), hp]; rfl
theorem goL_ret (h : m.loops.length = l) (hp : lp.pend = some .ret) : goL AP Fin l ks ρ (enterLoop m lp) = Fin .ret ⟨ρ, m⟩ := by
  rw [goL, leave_enter h (.inr (by simp [hp])), hp]
  exact goR_any (ks := ks)
theorem goL_exit {j : Nat} (h : m.loops.length = l) (hp : lp.pend = some (.exit j)) : goL AP Fin l ks ρ (enterLoop m lp) = goX AP Fin j ks ⟨ρ, m⟩ := by
  rw [goL, leave_enter h (.inr (by simp [hp])), hp]; rfl

/-- A loop that may be called. -/
structure Ready (l : Nat) (lp : ALoop) (S : Sig) : Prop where
  get : S.loops[l]? = some lp
  ready : lp.ready = true
  pend : lp.pend = none
  lro : S.lro ≤ l

/-- the loop is in a round -/
def busy (l : Nat) (S : Sig) : Sig := setLoop S l fun p => { p with ready := false }
/-- the loop was left by a round -/
def over (l : Nat) (e : AExit) (S : Sig) : Sig := setLoop S l fun p => { p with ready := false, pend := some e }

theorem busy_box {d b : Nat} : (busy l S).box d b = S.box d b := rfl
theorem busy_acts : (busy l S).acts = S.acts := rfl
theorem Ok.busy (h : Ok S) : Ok (busy l S) := ⟨h.ro, by have := h.lro; simp [Sx.busy, setLoop]; exact this⟩
theorem Ok.over {e : AExit} (h : Ok S) : Ok (over l e S) := ⟨h.ro, by have := h.lro; simp [Sx.over, setLoop]; exact this⟩
theorem Ok.enter (h : Ok S) : Ok (enterLoop S lp) := ⟨h.ro, by have := h.lro; simp [enterLoop]; omega⟩
theorem enter_acts : (enterLoop S lp).acts = S.acts := rfl
theorem enter_box {d b : Nat} : (enterLoop S lp).box d b = S.box d b := rfl
theorem setLoop_push {r : Rec} {f : ALoop → ALoop} : setLoop (S.push r) l f = (setLoop S l f).push r := rfl
theorem enter_ready {ρ : Nat → AV} {ps : List Nat} {a b : ACode} (h : Ok m) : Ready m.loops.length ⟨true, none, ρ, ps, a, b⟩ (enterLoop m ⟨true, none, ρ, ps, a, b⟩) := ⟨by simp [enterLoop], rfl, rfl, h.lro⟩
theorem Ready.push (h : Ready l lp S) (r : Rec) : Ready l lp (S.push r) := ⟨h.get, h.ready, h.pend, h.lro⟩

theorem busy_back (h : Ready l lp S) : setLoop (busy l S) l (fun p => { p with ready := true, pend := none }) = S := by
  have e : (S.loops.modify l fun p => { p with ready := false }).modify l (fun p => { p with ready := true, pend := none }) = S.loops := by
    apply List.ext_getElem?
    intro i
    simp only [List.getElem?_modify]
    by_cases hi : l = i
    · subst hi
      have := h.get
      rw [this]
      obtain ⟨a, b, c, d, f, g⟩ := lp
      have h1 := h.ready
      have h2 := h.pend
      simp at h1 h2
      simp [h1, h2]
    · simp [hi]
  simp only [busy, setLoop, e]

/-- a round's parameters have been stored -/
noncomputable def finA (AP : FuncId → Option AFn) (l : Nat) (body : ACode) (e : AExit) (st : St) : Option (AV × Sig) :=
  match e with
  | .normal => if loopReady st.sig l = true then go AP (finR l) [.c body] ⟨st.tmps, busy l st.sig⟩ else none
  | _ => none

theorem go_finR {body : ACode} {st : St} : go AP (finR l) [.c body] st = endRound l (runL AP body st) := by
  simp only [go, goE, finR]
  cases runL AP body st with
  | none => rfl
  | some p => rfl

theorem callL_round {as : List AV} (h : Ready l lp S) (hl : as.length = lp.params.length) :
    callL AP (.yield l) as S = go AP (finA AP l lp.body) [.c lp.assign] ⟨setParams lp.tmps lp.params as, S.push ⟨[], []⟩⟩ := by
  rw [callL_yield, h.get]
  simp only
  rw [if_pos ⟨h.ready, h.lro, hl⟩]
  simp only [go, goE, finA]
  cases runL AP lp.assign ⟨setParams lp.tmps lp.params as, S.push ⟨[], []⟩⟩ with
  | none => rfl
  | some p =>
    obtain ⟨e, st⟩ := p
    cases e with
    | normal =>
      simp only [Option.bind_some]
      have := go_finR (AP := AP) (l := l) (body := lp.body) (st := ⟨st.tmps, busy l st.sig⟩)
      simp only [go, goE] at this
      rw [this]; rfl
    | exit j => rfl
    | ret => rfl

theorem finA_n {body : ACode} {r : Rec} (h : Ready l lp S) : finA AP l body .normal ⟨ρ, S.push r⟩ = go AP (finR l) [.c body] ⟨ρ, (busy l S).push r⟩ := by
  have : loopReady (S.push r) l = true := by
    simp only [loopReady, Sig.push, h.get, h.ready]
  simp only [finA, this, if_true]; rfl
theorem finR_n {r : Rec} (h : Ready l lp S) : finR l .normal ⟨ρ, (busy l S).push r⟩ = some (.v (.bool true), S) := by
  simp only [finR, endRound, setLoop_push, busy_back h, pop_push]
theorem over_busy {e : AExit} : setLoop (busy l S) l (fun p => { p with ready := false, pend := some e }) = over l e S := by
  have : (S.loops.modify l fun p => { p with ready := false }).modify l (fun p => { p with ready := false, pend := some e }) = S.loops.modify l fun p => { p with ready := false, pend := some e } := by
    apply List.ext_getElem?
    intro i
    simp only [List.getElem?_modify]
    by_cases hi : l = i
    · cases S.loops[i]? <;> simp [hi]
    · simp [hi]
  simp only [busy, over, setLoop, this]
theorem finR_r {r : Rec} : finR l .ret ⟨ρ, (busy l S).push r⟩ = some (.v (.bool false), over l .ret S) := by
  simp only [finR, endRound, setLoop_push, over_busy, pop_push]
theorem finR_x {r : Rec} {j : Nat} : finR l (.exit j) ⟨ρ, (busy l S).push r⟩ = some (.v (.bool false), over l (.exit j) S) := by
  simp only [finR, endRound, setLoop_push, over_busy, pop_push]
theorem over_enter {e : AExit} : over m.loops.length e (enterLoop m lp) = enterLoop m { lp with ready := false, pend := some e } := by
  have : ∀ (f : ALoop → ALoop) (L : List ALoop), (L ++ [lp]).modify L.length f = L ++ [f lp] := by
    intro f L
    induction L with
    | nil => rfl
    | cons a L ih => simpa using ih
  simp only [over, setLoop, enterLoop, this]

theorem setParams_1 {p : Nat} {x : AV} : setParams ρ [p] [x] = put p x ρ := rfl
theorem setParams_0 : setParams ρ [] [] = ρ := rfl
end

section
variable {S s : Sig} {r : Rec} {d b l : Nat} {lp : ALoop}
theorem low_self : s.acts.length < (s.push r).acts.length := by simp [Sig.push]
theorem low_push (h : d < S.acts.length) : d < (S.push r).acts.length := by simp [Sig.push]; omega
theorem low_busy (h : d < S.acts.length) : d < (busy l S).acts.length := h
theorem low_enter (h : d < S.acts.length) : d < (enterLoop S lp).acts.length := h
theorem box_low (h : d < S.acts.length) : (S.push r).box d b = S.box d b := by
  simp only [Sig.box, Sig.push]
  rw [List.getElem?_append_left h]
theorem box_busy_top : ((busy l S).push r).box S.acts.length b = r.boxes[b]? := box_push (busy l S) r b
theorem at_app {α : Type} {l r : List α} {k : Nat} : (l ++ r)[l.length + k]? = r[k]? := by
  rw [List.getElem?_append_right (by omega)]; congr 1; omega
theorem set_app {α : Type} {l r : List α} {k : Nat} {y : α} : (l ++ r).set (l.length + k) y = l ++ r.set k y := by
  rw [List.set_append_right _ _ (by omega)]; congr 2; omega
end
attribute [go_sem] set_app
attribute [go_sem] low_self low_push low_busy low_enter box_low box_busy_top at_app List.length_append
attribute [go_sem] busy_box Ok.busy Ok.over Ok.enter enter_box finR_r finR_x setParams_1 setParams_0

end Go.Ax.Sx
