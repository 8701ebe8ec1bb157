/-
  Computing with the executor: the steps, one by one.
-/
import Derived.Test.YtfmojojicndbcaaAxZ
namespace Go.Ax.Sx

structure Ok (s : Sig) : Prop where
  ro : s.ro ≤ s.acts.length
  lro : s.lro ≤ s.loops.length

/-! ### The present activation -/

theorem Ok.push {s : Sig} (h : Ok s) (r : Rec) : Ok (s.push r) := ⟨by have := h.ro; simp [Sig.push]; omega, h.lro⟩
@[simp] theorem pop_push (s : Sig) (r : Rec) : (s.push r).pop = s := by simp [Sig.push, Sig.pop]
@[simp] theorem cur_push (s : Sig) (r : Rec) : (s.push r).cur = s.acts.length := by simp [Sig.push, Sig.cur]
theorem acts_push (s : Sig) (r : Rec) : (s.push r).acts.length = s.acts.length + 1 := by simp [Sig.push]
theorem box_push (s : Sig) (r : Rec) (b : Nat) : (s.push r).box s.acts.length b = r.boxes[b]? := by simp [Sig.push, Sig.box]
theorem nbox_push (s : Sig) (r : Rec) : (s.push r).nbox s.acts.length = r.boxes.length := by simp [Sig.push, Sig.nbox]
theorem tok_push (s : Sig) (r : Rec) (g : Nat) : (s.push r).tok s.acts.length g = (r.toks[g]?).join := by simp [Sig.push, Sig.tok]
theorem ntok_push (s : Sig) (r : Rec) : (s.push r).ntok s.acts.length = r.toks.length := by simp [Sig.push, Sig.ntok]
theorem onRec_push (s : Sig) (r : Rec) (f : Rec → Rec) : (s.push r).onRec s.acts.length f = s.push (f r) := by
  simp only [Sig.push, Sig.onRec, Sig.mk.injEq, and_true]
  apply List.ext_getElem?
  intro i
  rw [List.getElem?_modify]
  by_cases h : i < s.acts.length
  · rw [List.getElem?_append_left h, List.getElem?_append_left h]
    have : ¬ s.acts.length = i := by omega
    simp [this]
  · rw [List.getElem?_append_right (by omega), List.getElem?_append_right (by omega)]
    by_cases h' : s.acts.length = i
    · subst h'; simp
    · have e : i - s.acts.length = (i - s.acts.length - 1) + 1 := by omega
      rw [e]; simp
theorem addBox_push (s : Sig) (r : Rec) (cs : List AV) : (s.push r).addBox s.acts.length cs = s.push ⟨r.boxes ++ [cs], r.toks⟩ := by rw [Sig.addBox, onRec_push]
theorem setBox_push (s : Sig) (r : Rec) (b : Nat) (cs : List AV) : (s.push r).setBox s.acts.length b cs = s.push ⟨r.boxes.set b cs, r.toks⟩ := by rw [Sig.setBox, onRec_push]
theorem addTok_push (s : Sig) (r : Rec) (n : Nat) : (s.push r).addTok s.acts.length n = s.push ⟨r.boxes, r.toks ++ [some n]⟩ := by rw [Sig.addTok, onRec_push]
theorem setTok_push (s : Sig) (r : Rec) (g : Nat) (n : Option Nat) : (s.push r).setTok s.acts.length g n = s.push ⟨r.boxes, r.toks.set g n⟩ := by rw [Sig.setTok, onRec_push]
theorem ro_push (s : Sig) (r : Rec) : (s.push r).ro = s.ro := rfl
theorem loops_push (s : Sig) (r : Rec) : (s.push r).loops = s.loops := rfl

/-! ### Operations, one at a time -/
section
variable {call : CallF} {ρ : Nat → AV} {m : Sig} {t : Nat} {rest : List AOper}

/-- what goes on behind a value -/
def andThen (call : CallF) (d : Option Nat) (rest : List AOper) (ρ : Nat → AV) (r : Option (AV × Sig)) : Option St :=
  r.bind fun p => ops call rest ⟨putT ρ d p.1, p.2⟩

theorem andThen_some {d : Option Nat} {x : AV} {m' : Sig} : andThen call d rest ρ (some (x, m')) = ops call rest ⟨putT ρ d x, m'⟩ := rfl

theorem ops_nil {st : St} : ops call [] st = some st := rfl

theorem ops_step {d : Option Nat} {op : AOp} : ops call (⟨d, none, op⟩ :: rest) ⟨ρ, m⟩ = andThen call d rest ρ (opv call (evalT ρ) m op) := by
  simp only [ops, wantedT, andThen, if_true]
  cases opv call (evalT ρ) m op <;> rfl

/-- which way a bool leads -/
def onBool {β : Type} (x : AV) (f : Bool → β) (d : β) : β :=
  match x with
  | .v (.bool b) => f b
  | _ => d

theorem onBool_mk {β : Type} {b : Bool} {f : Bool → β} {d : β} : onBool (.v (.bool b)) f d = f b := rfl

theorem onBool_congr {β : Type} {x x' : AV} {f : Bool → β} {d : β} (h : x = x') : onBool x f d = onBool x' f d := by rw [h]

theorem put_self : put t (ρ t) ρ = ρ := by
  funext u; unfold put; split
  · rename_i h; rw [h]
  · rfl

/-- A guarded operation: from here on the guard is known. -/
theorem ops_guard {d : Option Nat} {op : AOp} {b : Bool} : ops call (⟨d, some (t, b), op⟩ :: rest) ⟨ρ, m⟩ =
    onBool (ρ t) (fun c => cond c
      (cond b (andThen call d rest (put t (.v (.bool true)) ρ) (opv call (evalT (put t (.v (.bool true)) ρ)) m op)) (ops call rest ⟨putT (put t (.v (.bool true)) ρ) d AV.undef, m⟩))
      (cond b (ops call rest ⟨putT (put t (.v (.bool false)) ρ) d AV.undef, m⟩) (andThen call d rest (put t (.v (.bool false)) ρ) (opv call (evalT (put t (.v (.bool false)) ρ)) m op))))
      (ops call rest ⟨putT ρ d AV.undef, m⟩) := by
  have hw : ∀ b', wantedV b (.v (.bool b')) = (b' == b) := fun _ => rfl
  by_cases h : ∃ c, ρ t = .v (.bool c)
  · obtain ⟨c, h⟩ := h
    have e : put t (.v (.bool c)) ρ = ρ := by rw [← h]; exact put_self
    simp only [ops, wantedT, andThen, h, hw, onBool]
    cases c <;> cases b <;> simp [e] <;> (cases opv call (evalT ρ) m op <;> rfl)
  · have h1 : wantedV b (ρ t) = false := by
      cases hx : ρ t with
      | v x => cases x with
        | bool c => exact absurd ⟨c, hx⟩ h
        | _ => rfl
      | _ => rfl
    have h2 : ∀ {β : Type} (f : Bool → β) (d : β), onBool (ρ t) f d = d := by
      intro β f d
      cases hx : ρ t with
      | v x => cases x with
        | bool c => exact absurd ⟨c, hx⟩ h
        | _ => rfl
      | _ => rfl
    simp [ops, wantedT, h1, h2]

theorem put_eq {x : AV} : put t x ρ t = x := by simp [put]
theorem put_ne {x : AV} {u : Nat} (h : (u == t) = false) : put t x ρ u = ρ u := by
  have : u ≠ t := by simpa using h
  simp [put, this]

end

/-! ### The machine: a code with what comes behind it -/

inductive K where
  | c (a : ACode)
  | blk (id : Nat)
  | lp (a : ACode)

section
variable (AP : FuncId → Option AFn) (Fin : AExit → St → Option (AV × Sig))

noncomputable def goE : List K → AExit → St → Option (AV × Sig)
  | [], e, st => Fin e st
  | .c a :: ks, e, st => match e with
    | .normal => (runL AP a st).bind fun p => goE ks p.1 p.2
    | e => goE ks e st
  | .blk id :: ks, e, st => match e with
    | .exit j => if j = id then goE ks .normal st else goE ks (.exit j) st
    | e => goE ks e st
  | .lp a :: ks, e, st => match e with
    | .normal => (runL AP (.loop a) st).bind fun p => goE ks p.1 p.2
    | e => goE ks e st

/-- Go on with these codes. -/
noncomputable def go (ks : List K) (st : St) : Option (AV × Sig) := goE AP Fin ks .normal st
/-- Go on with these operations. -/
noncomputable def goO (l : List AOper) (ks : List K) (st : St) : Option (AV × Sig) := (ops (callL AP) l st).bind fun st' => go AP Fin ks st'
/-- Leave a block. -/
noncomputable def goX (id : Nat) (ks : List K) (st : St) : Option (AV × Sig) := goE AP Fin ks (.exit id) st
/-- Leave the function. -/
noncomputable def goR (ks : List K) (st : St) : Option (AV × Sig) := goE AP Fin ks .ret st
/-- An operation's value, and on. -/
noncomputable def goV (d : Option Nat) (l : List AOper) (ks : List K) (ρ : Nat → AV) (r : Option (AV × Sig)) : Option (AV × Sig) := r.bind fun p => goO AP Fin l ks ⟨putT ρ d p.1, p.2⟩

/-- A function's end. -/
def finF (rs : List ARes) (own : Bool) : AExit → St → Option (AV × Sig)
  | .exit _, _ => none
  | _, st => finish rs own st

/-- A round's end. -/
def finR (l : Nat) (e : AExit) (st : St) : Option (AV × Sig) := endRound l (some (e, st))

variable {AP Fin} {ks : List K} {st : St} {a b : ACode} {ρ : Nat → AV} {m : Sig} {rest : List AOper}

theorem go_nil : go AP Fin [] st = Fin .normal st := rfl
theorem goX_nil {id : Nat} : goX AP Fin id [] st = Fin (.exit id) st := rfl
theorem goR_any : ∀ {ks : List K}, goR AP Fin ks st = Fin .ret st
  | [] => rfl
  | .c _ :: ks => (goR_any (ks := ks) : _)
  | .blk _ :: ks => (goR_any (ks := ks) : _)
  | .lp _ :: ks => (goR_any (ks := ks) : _)

theorem goX_c {id : Nat} : goX AP Fin id (.c a :: ks) st = goX AP Fin id ks st := rfl
theorem goX_lp {id : Nat} : goX AP Fin id (.lp a :: ks) st = goX AP Fin id ks st := rfl
theorem goX_blk {id j : Nat} : goX AP Fin id (.blk j :: ks) st = if id = j then go AP Fin ks st else goX AP Fin id ks st := rfl

theorem go_skip : go AP Fin (.c .skip :: ks) st = go AP Fin ks st := by simp [go, goE, runL_skip]
theorem go_exit {id : Nat} : go AP Fin (.c (.exit id) :: ks) st = goX AP Fin id ks st := by simp [go, goE, runL_exit, goX]
theorem go_ret : go AP Fin (.c .ret :: ks) st = Fin .ret st := by
  rw [← goR_any (AP := AP) (Fin := Fin) (ks := ks) (st := st)]; simp [go, goE, runL_ret, goR]
theorem go_blk {id : Nat} : go AP Fin (.blk id :: ks) st = go AP Fin ks st := rfl
theorem go_lp : go AP Fin (.lp a :: ks) st = go AP Fin (.c (.loop a) :: ks) st := rfl

theorem go_region {d : Bool} {l : List AOper} : go AP Fin (.c (.region d l) :: ks) st = goO AP Fin l ks st := by
  simp only [go, goE, runL_region, goO, Option.bind_map]; rfl

theorem go_seq : go AP Fin (.c (.seq a b) :: ks) st = go AP Fin (.c a :: .c b :: ks) st := by
  simp only [go, goE, runL_seq]
  cases h : runL AP a st with
  | none => rfl
  | some p => obtain ⟨e, st'⟩ := p; cases e <;> rfl

theorem go_block {id : Nat} : go AP Fin (.c (.block id a) :: ks) st = go AP Fin (.c a :: .blk id :: ks) st := by
  simp only [go, goE, runL_block]
  cases h : runL AP a st with
  | none => rfl
  | some p =>
    obtain ⟨e, st'⟩ := p
    cases e with
    | exit j => by_cases hj : j = id <;> simp [hj]
    | _ => rfl

theorem go_loop : go AP Fin (.c (.loop a) :: ks) st = go AP Fin (.c a :: .lp a :: ks) st := by
  simp only [go, goE]
  rw [runL_loop]
  cases h : runL AP a st with
  | none => rfl
  | some p => obtain ⟨e, st'⟩ := p; cases e <;> rfl

theorem go_cond {x : AOpd} : go AP Fin (.c (.cond x a b) :: ks) ⟨ρ, m⟩ = onBool (evalT ρ x) (fun t => cond t (go AP Fin (.c a :: ks) ⟨ρ, m⟩) (go AP Fin (.c b :: ks) ⟨ρ, m⟩)) none := by
  simp only [go, goE, runL_cond, onBool]
  cases evalT ρ x with
  | v y => cases y with
    | bool t => cases t <;> rfl
    | _ => rfl
  | _ => rfl

theorem goO_nil : goO AP Fin [] ks st = go AP Fin ks st := rfl

theorem goO_step {d : Option Nat} {op : AOp} : goO AP Fin (⟨d, none, op⟩ :: rest) ks ⟨ρ, m⟩ = goV AP Fin d rest ks ρ (opv (callL AP) (evalT ρ) m op) := by
  simp only [goO, ops_step, andThen, goV]
  cases opv (callL AP) (evalT ρ) m op <;> rfl

theorem goO_guard {d : Option Nat} {op : AOp} {t : Nat} {b : Bool} : goO AP Fin (⟨d, some (t, b), op⟩ :: rest) ks ⟨ρ, m⟩ =
    onBool (ρ t) (fun c => cond c
      (cond b (goO AP Fin (⟨d, none, op⟩ :: rest) ks ⟨put t (.v (.bool true)) ρ, m⟩) (goO AP Fin rest ks ⟨putT (put t (.v (.bool true)) ρ) d AV.undef, m⟩))
      (cond b (goO AP Fin rest ks ⟨putT (put t (.v (.bool false)) ρ) d AV.undef, m⟩) (goO AP Fin (⟨d, none, op⟩ :: rest) ks ⟨put t (.v (.bool false)) ρ, m⟩)))
      (goO AP Fin rest ks ⟨putT ρ d AV.undef, m⟩) := by
  simp only [goO, ops_guard, ops_step]
  have : ∀ (x : AV) (f : Bool → Option St) (d : Option St) (g : St → Option (AV × Sig)), (onBool x f d).bind g = onBool x (fun c => (f c).bind g) (d.bind g) := by
    intro x f d g
    cases x with
    | v y => cases y <;> rfl
    | _ => rfl
  rw [this]
  congr 1
  funext c
  cases c <;> cases b <;> rfl

theorem goO_guardT' {d : Nat} {op : AOp} {t : Nat} : goO AP Fin (⟨some d, some (t, true), op⟩ :: rest) ks ⟨ρ, m⟩ =
    onBool (ρ t) (fun c => cond c (goO AP Fin (⟨some d, none, op⟩ :: rest) ks ⟨put t (.v (.bool true)) ρ, m⟩) (goO AP Fin rest ks ⟨put d AV.undef (put t (.v (.bool false)) ρ), m⟩)) (goO AP Fin rest ks ⟨put d AV.undef ρ, m⟩) := by
  rw [goO_guard]; rfl
theorem goO_guardF' {d : Nat} {op : AOp} {t : Nat} : goO AP Fin (⟨some d, some (t, false), op⟩ :: rest) ks ⟨ρ, m⟩ =
    onBool (ρ t) (fun c => cond c (goO AP Fin rest ks ⟨put d AV.undef (put t (.v (.bool true)) ρ), m⟩) (goO AP Fin (⟨some d, none, op⟩ :: rest) ks ⟨put t (.v (.bool false)) ρ, m⟩)) (goO AP Fin rest ks ⟨put d AV.undef ρ, m⟩) := by
  rw [goO_guard]; rfl
theorem goO_guardTn {op : AOp} {t : Nat} : goO AP Fin (⟨none, some (t, true), op⟩ :: rest) ks ⟨ρ, m⟩ =
    onBool (ρ t) (fun c => cond c (goO AP Fin (⟨none, none, op⟩ :: rest) ks ⟨put t (.v (.bool true)) ρ, m⟩) (goO AP Fin rest ks ⟨put t (.v (.bool false)) ρ, m⟩)) (goO AP Fin rest ks ⟨ρ, m⟩) := by
  rw [goO_guard]; rfl
theorem goO_guardFn {op : AOp} {t : Nat} : goO AP Fin (⟨none, some (t, false), op⟩ :: rest) ks ⟨ρ, m⟩ =
    onBool (ρ t) (fun c => cond c (goO AP Fin rest ks ⟨put t (.v (.bool true)) ρ, m⟩) (goO AP Fin (⟨none, none, op⟩ :: rest) ks ⟨put t (.v (.bool false)) ρ, m⟩)) (goO AP Fin rest ks ⟨ρ, m⟩) := by
  rw [goO_guard]; rfl
/-! Groups: operations behind one guard that leave the memory as it is become values that hang on the guard. -/

def puts : List (Nat × AV) → (Nat → AV) → Nat → AV
  | [], ρ => ρ
  | (d, x) :: ws, ρ => put d x (puts ws ρ)
def undefs : List (Nat × AV) → List (Nat × AV)
  | [] => []
  | (d, _) :: ws => (d, AV.undef) :: undefs ws

noncomputable def goG (AP : FuncId → Option AFn) (Fin : AExit → St → Option (AV × Sig)) (c : Bool) (t : Nat) (b : Bool) (ws : List (Nat × AV)) (l : List AOper) (ks : List K) (ρ : Nat → AV) (m : Sig) : Option (AV × Sig) :=
  cond (c == b) (goO AP Fin l ks ⟨put t (.v (.bool b)) (puts ws ρ), m⟩) (goO AP Fin l ks ⟨put t (.v (.bool !b)) (puts (undefs ws) ρ), m⟩)
noncomputable def goH (AP : FuncId → Option AFn) (Fin : AExit → St → Option (AV × Sig)) (c : Bool) (t : Nat) (b : Bool) (ws : List (Nat × AV)) (d : Nat) (l : List AOper) (ks : List K) (ρ : Nat → AV) (m : Sig) (r : Option (AV × Sig)) : Option (AV × Sig) :=
  cond (c == b) (goV AP Fin (some d) l ks (put t (.v (.bool b)) (puts ws ρ)) r) (goO AP Fin l ks ⟨put d AV.undef (put t (.v (.bool !b)) (puts (undefs ws) ρ)), m⟩)
/-- The guard is read. -/
noncomputable def ent (AP : FuncId → Option AFn) (Fin : AExit → St → Option (AV × Sig)) (c : Bool) (t : Nat) (b : Bool) (d : Nat) (op : AOp) (l : List AOper) (ks : List K) (ρ : Nat → AV) (m : Sig) : Option (AV × Sig) :=
  cond (c == b) (goO AP Fin (⟨some d, none, op⟩ :: l) ks ⟨put t (.v (.bool b)) ρ, m⟩) (goO AP Fin l ks ⟨put d AV.undef (put t (.v (.bool !b)) ρ), m⟩)

theorem goO_ent {d : Nat} {op : AOp} {t : Nat} {b : Bool} : goO AP Fin (⟨some d, some (t, b), op⟩ :: rest) ks ⟨ρ, m⟩ =
    onBool (ρ t) (fun c => ent AP Fin c t b d op rest ks ρ m) (goO AP Fin rest ks ⟨put d AV.undef ρ, m⟩) := by
  rw [goO_guard]
  congr 1
  funext c
  cases c <;> cases b <;> rfl

theorem ent_yT {d t : Nat} {op : AOp} : ent AP Fin true t true d op rest ks ρ m = goO AP Fin (⟨some d, none, op⟩ :: rest) ks ⟨put t (.v (.bool true)) ρ, m⟩ := rfl
theorem ent_yF {d t : Nat} {op : AOp} : ent AP Fin false t false d op rest ks ρ m = goO AP Fin (⟨some d, none, op⟩ :: rest) ks ⟨put t (.v (.bool false)) ρ, m⟩ := rfl
theorem ent_nT {d t : Nat} {op : AOp} : ent AP Fin false t true d op rest ks ρ m = goO AP Fin rest ks ⟨put d AV.undef (put t (.v (.bool false)) ρ), m⟩ := rfl
theorem ent_nF {d t : Nat} {op : AOp} : ent AP Fin true t false d op rest ks ρ m = goO AP Fin rest ks ⟨put d AV.undef (put t (.v (.bool true)) ρ), m⟩ := rfl
theorem ent_any {c : Bool} {d t : Nat} {b : Bool} {op : AOp} : ent AP Fin c t b d op rest ks ρ m = goH AP Fin c t b [] d rest ks ρ m (opv (callL AP) (evalT (put t (.v (.bool b)) ρ)) m op) := by
  unfold ent goH
  rw [goO_step]; rfl

theorem goV_ts {t : Nat} {x : AV} {m' : Sig} : goV AP Fin (some t) rest ks ρ (some (x, m')) = goO AP Fin rest ks ⟨put t x ρ, m'⟩ := rfl
theorem put_put {t : Nat} {x y : AV} : put t x (put t y ρ) = put t x ρ := by
  funext u; unfold put; by_cases h : u = t <;> simp [h]
theorem put_swap {d t : Nat} {x y : AV} (h : (d == t) = false) : put d x (put t y ρ) = put t y (put d x ρ) := by
  have h : d ≠ t := by simpa using h
  funext u
  unfold put
  by_cases h1 : u = d
  · subst h1; simp [h]
  · by_cases h2 : u = t
    · subst h2; simp [h1]
    · simp [h1, h2]

theorem goH_same {c : Bool} {t d : Nat} {b : Bool} {ws : List (Nat × AV)} {x : AV} : goH AP Fin c t b ws d rest ks ρ m (some (x, m)) = if d = t then (cond (c == b) (goO AP Fin rest ks ⟨put d x (put t (.v (.bool b)) (puts ws ρ)), m⟩) (goO AP Fin rest ks ⟨put d AV.undef (put t (.v (.bool !b)) (puts (undefs ws) ρ)), m⟩)) else (goG AP Fin c t b ((d, x) :: ws) rest ks ρ m) := by
  by_cases h : d = t
  · rw [if_pos h]; rfl
  · rw [if_neg h]
    have h : (d == t) = false := by simpa using h
    unfold goH goG
    rw [goV_ts, put_swap h, put_swap h]; rfl
theorem goH_other {c : Bool} {t d : Nat} {b : Bool} {ws : List (Nat × AV)} {x : AV} {m' : Sig} : goH AP Fin c t b ws d rest ks ρ m (some (x, m')) = cond (c == b) (goO AP Fin rest ks ⟨put d x (put t (.v (.bool b)) (puts ws ρ)), m'⟩) (goO AP Fin rest ks ⟨put d AV.undef (put t (.v (.bool !b)) (puts (undefs ws) ρ)), m⟩) := rfl
theorem goH_congr {c : Bool} {t d : Nat} {b : Bool} {ws : List (Nat × AV)} {r r' : Option (AV × Sig)} (h : r = r') : goH AP Fin c t b ws d rest ks ρ m r = goH AP Fin c t b ws d rest ks ρ m r' := by rw [h]

/-- another one behind the same guard -/
theorem goG_guard {c : Bool} {t d t' : Nat} {b b' : Bool} {ws : List (Nat × AV)} {op : AOp} : goG AP Fin c t b ws (⟨some d, some (t', b'), op⟩ :: rest) ks ρ m =
    if t' = t ∧ b' = b then (goH AP Fin c t b ws d rest ks ρ m (opv (callL AP) (evalT (put t (.v (.bool b)) (puts ws ρ))) m op))
      else (cond (c == b) (goO AP Fin (⟨some d, some (t', b'), op⟩ :: rest) ks ⟨put t (.v (.bool b)) (puts ws ρ), m⟩) (goO AP Fin (⟨some d, some (t', b'), op⟩ :: rest) ks ⟨put t (.v (.bool !b)) (puts (undefs ws) ρ), m⟩)) := by
  by_cases h : t' = t ∧ b' = b
  · rw [if_pos h]
    obtain ⟨rfl, rfl⟩ := h
    unfold goG goH
    congr 1
    · rw [goO_ent, put_eq, onBool_mk]
      cases b' <;> simp only [ent_yT, ent_yF, goO_step] <;> rw [put_put]
    · rw [goO_ent, put_eq, onBool_mk]
      cases b' <;> simp only [Bool.not_true, Bool.not_false, ent_nT, ent_nF] <;> rw [put_put]
  · rw [if_neg h]; rfl
theorem goG_guardn {c : Bool} {t t' : Nat} {b b' : Bool} {ws : List (Nat × AV)} {op : AOp} : goG AP Fin c t b ws (⟨none, some (t', b'), op⟩ :: rest) ks ρ m =
      (cond (c == b) (goO AP Fin (⟨none, some (t', b'), op⟩ :: rest) ks ⟨put t (.v (.bool b)) (puts ws ρ), m⟩) (goO AP Fin (⟨none, some (t', b'), op⟩ :: rest) ks ⟨put t (.v (.bool !b)) (puts (undefs ws) ρ), m⟩)) := rfl

/-- what a guard leaves of a value -/
def muxs (c b : Bool) : List (Nat × AV) → List (Nat × AV)
  | [] => []
  | (d, x) :: ws => (d, cond b (cond c x AV.undef) (cond c AV.undef x)) :: muxs c b ws
theorem muxs_eq (c b : Bool) : ∀ ws : List (Nat × AV), muxs c b ws = cond (c == b) ws (undefs ws)
  | [] => by cases c <;> cases b <;> rfl
  | (d, x) :: ws => by rw [muxs, muxs_eq c b ws]; cases c <;> cases b <;> rfl
theorem goG_end {c : Bool} {t : Nat} {b : Bool} {ws : List (Nat × AV)} {d : Option Nat} {op : AOp} : goG AP Fin c t b ws (⟨d, none, op⟩ :: rest) ks ρ m = goO AP Fin (⟨d, none, op⟩ :: rest) ks ⟨put t (.v (.bool c)) (puts (muxs c b ws) ρ), m⟩ := by
  rw [muxs_eq]; unfold goG; cases c <;> cases b <;> rfl
theorem goG_nil {c : Bool} {t : Nat} {b : Bool} {ws : List (Nat × AV)} : goG AP Fin c t b ws [] ks ρ m = go AP Fin ks ⟨put t (.v (.bool c)) (puts (muxs c b ws) ρ), m⟩ := by
  rw [muxs_eq]; unfold goG; cases c <;> cases b <;> rfl

theorem goV_t {t : Nat} {x : AV} {m' : Sig} : goV AP Fin (some t) rest ks ρ (some (x, m')) = goO AP Fin rest ks ⟨put t x ρ, m'⟩ := rfl
theorem goV_n {x : AV} {m' : Sig} : goV AP Fin none rest ks ρ (some (x, m')) = goO AP Fin rest ks ⟨ρ, m'⟩ := rfl
theorem goV_none {d : Option Nat} : goV AP Fin d rest ks ρ none = none := rfl
theorem goV_cond {d : Option Nat} {c : Bool} {x y : Option (AV × Sig)} : goV AP Fin d rest ks ρ (cond c x y) = cond c (goV AP Fin d rest ks ρ x) (goV AP Fin d rest ks ρ y) := by cases c <;> rfl

theorem goV_congr {d : Option Nat} {r r' : Option (AV × Sig)} (h : r = r') : goV AP Fin d rest ks ρ r = goV AP Fin d rest ks ρ r' := by rw [h]
theorem goO_congr : goO AP Fin rest ks st = goO AP Fin rest ks st := rfl
theorem go_congr : go AP Fin ks st = go AP Fin ks st := rfl

theorem callL_go {f : FuncId} {np nt : Nat} {b : ACode} {rs : List ARes} {own : Bool} (hf : AP f = some (.code np nt b rs own)) {as : List AV} {s : Sig} (hl : as.length = np) :
    callL AP (.fn f) as s = go AP (finF rs own) [.c b] ⟨argsT as, s.push ⟨[], []⟩⟩ := by
  rw [callL_fn hf, if_pos hl]
  simp only [go, goE]
  cases h : runL AP b ⟨argsT as, s.push ⟨[], []⟩⟩ with
  | none => rfl
  | some p => obtain ⟨e, st'⟩ := p; cases e <;> rfl

end

/-! ### What operations give -/
section
variable {ρ : Nat → AV} {m : Sig} {s : Sig} {call : CallF}

theorem evalT_tmp {t : Nat} : evalT ρ (.tmp t) = ρ t := .trans rfl rfl
theorem evalT_const {x : AV} : evalT ρ (.const x) = x := .trans rfl rfl
theorem put_lit {t u : Nat} {x : AV} : put t x ρ u = if u = t then x else ρ u := .trans rfl rfl
theorem argsT_0 {x : AV} {r : List AV} : argsT (x :: r) 0 = x := .trans rfl rfl
theorem argsT_s {x : AV} {r : List AV} {n : Nat} : argsT (x :: r) (n + 1) = argsT r n := .trans rfl rfl

theorem opv_move {x : AOpd} : opv call (evalT ρ) m (.move x) = some (evalT ρ x, m) := .trans rfl rfl
theorem opv_pick {c a b : AOpd} : opv call (evalT ρ) m (.pick c a b) = (pickOp (evalT ρ c) (evalT ρ a) (evalT ρ b)).map (·, m) := .trans rfl rfl
theorem opv_alloc {zs : List AV} : opv call (evalT ρ) m (.alloc zs) = some (m.newBox zs) := .trans rfl rfl
theorem opv_box {n : Nat} {x : AOpd} : opv call (evalT ρ) m (.box n x) = boxOp m n (evalT ρ x) := .trans rfl rfl
theorem opv_build {zs : List AV} {ps : List (Nat × Nat × AOpd)} : opv call (evalT ρ) m (.build zs ps) = (buildCells zs (evalT ρ) ps).map fun cs => (.agg cs, m) := .trans rfl rfl
theorem opv_buildSlice {es : Nat} {rows : List (List AV)} {ps : List (Nat × AOpd)} : opv call (evalT ρ) m (.buildSlice es rows ps) = (buildRows rows (evalT ρ) ps).map fun rs => (.slice .full es rs, m) := .trans rfl rfl
theorem opv_load {g : Bool} {n : Nat} {x : AOpd} : opv call (evalT ρ) m (.load g n x) = (m.load g n (evalT ρ x)).map (·, m) := .trans rfl rfl
theorem opv_store {n : Nat} {x y : AOpd} : opv call (evalT ρ) m (.store n x y) = (m.store n (evalT ρ x) (evalT ρ y)).map (AV.undef, ·) := .trans rfl rfl
theorem opv_nilCheck {x : AOpd} : opv call (evalT ρ) m (.nilCheck x) = (nilCheckOp (evalT ρ x)).map (·, m) := .trans rfl rfl
theorem opv_arith {op : BinOp} {x y : AOpd} : opv call (evalT ρ) m (.arith op x y) = (arithOp op (evalT ρ x) (evalT ρ y)).map (·, m) := .trans rfl rfl
theorem opv_eqv {neg : Bool} {k : EqKind} {x y : AOpd} : opv call (evalT ρ) m (.eqv neg k x y) = (eqOp k (evalT ρ x) (evalT ρ y)).map fun t => (.v (.bool (if neg then !t else t)), m) := .trans rfl rfl
theorem opv_un {op : UnOp} {x : AOpd} : opv call (evalT ρ) m (.un op x) = (unOp op (evalT ρ x)).map (·, m) := .trans rfl rfl
theorem opv_conv {k : ConvKind} {x : AOpd} : opv call (evalT ρ) m (.conv k x) = (convOp k (evalT ρ x)).map (·, m) := .trans rfl rfl
theorem opv_mkIface {t : TypeId} {x : AOpd} : opv call (evalT ρ) m (.mkIface t x) = (ifaceOp t (evalT ρ x)).map (·, m) := .trans rfl rfl
theorem opv_mkFn {f : FuncId} {first caps : List AOpd} : opv call (evalT ρ) m (.mkFn f first caps) = if (first.map (evalT ρ)).all AV.isClosedV then some (.fn f (first.map (evalT ρ)) (caps.map (evalT ρ)), m) else none := .trans rfl rfl
theorem opv_mkSlice {es : Nat} {zs : List AV} {len cap : AOpd} : opv call (evalT ρ) m (.mkSlice es zs len cap) = mkSliceOp m es zs (evalT ρ len) (evalT ρ cap) := .trans rfl rfl
theorem opv_slice {k : SlKind} {x : AOpd} {lo hi mx : Option AOpd} : opv call (evalT ρ) m (.slice k x lo hi mx) = (sliceOp k (evalT ρ x) (evalOpt (evalT ρ) lo) (evalOpt (evalT ρ) hi) (evalOpt (evalT ρ) mx)).map (·, m) := .trans rfl rfl
theorem opv_fieldAddr {off : Nat} {x : AOpd} : opv call (evalT ρ) m (.fieldAddr off x) = (ptrAdd off (evalT ρ x)).map (·, m) := .trans rfl rfl
theorem opv_indexAddr {arr : Option Nat} {es : Nat} {x i : AOpd} : opv call (evalT ρ) m (.indexAddr arr es x i) = (indexAddrOp arr es (evalT ρ x) (evalT ρ i)).map (·, m) := .trans rfl rfl
theorem opv_indexStr {x i : AOpd} : opv call (evalT ρ) m (.indexStr x i) = (indexStrOp (evalT ρ x) (evalT ρ i)).map (·, m) := .trans rfl rfl
theorem opv_index {n es : Nat} {g : Bool} {x i : AOpd} : opv call (evalT ρ) m (.index n es g x i) = (indexOp n es g (evalT ρ x) (evalT ρ i)).map (·, m) := .trans rfl rfl
theorem opv_field {g : Bool} {n off : Nat} {x : AOpd} : opv call (evalT ρ) m (.field g n off x) = (fieldOp g n off (evalT ρ x)).map (·, m) := .trans rfl rfl
theorem opv_extract {i : Nat} {x : AOpd} : opv call (evalT ρ) m (.extract i x) = (extractOp i (evalT ρ x)).map (·, m) := .trans rfl rfl
theorem opv_call {ro : Bool} {f : FuncId} {as : List AOpd} : opv call (evalT ρ) m (.call ro f as) = doCall call ro m (.fn f) (as.map (evalT ρ)) := .trans rfl rfl
theorem opv_callv {ro : Bool} {x : AOpd} {as : List AOpd} : opv call (evalT ρ) m (.callv ro x as) = callvOp call ro m (evalT ρ x) (as.map (evalT ρ)) := .trans rfl rfl
theorem opv_append {es : Nat} {x y : AOpd} : opv call (evalT ρ) m (.append es x y) = appendOp m es (evalT ρ x) (evalT ρ y) := .trans rfl rfl
theorem opv_len {b : Bool} {x : AOpd} : opv call (evalT ρ) m (.len b x) = (lenOp b (evalT ρ x)).map (·, m) := .trans rfl rfl
theorem opv_lenArr {n : Nat} : opv call (evalT ρ) m (.lenArr n) = some (.v (.int .i64 n), m) := .trans rfl rfl
theorem opv_minmax {mx : Bool} {xs : List AOpd} : opv call (evalT ρ) m (.minmax mx xs) = (minmaxOp mx (xs.map (evalT ρ))).map (·, m) := .trans rfl rfl

theorem doCall_f {t : Target} {as : List AV} : doCall call false m t as = call t as m := .trans rfl rfl
/-- the memory as a call that only reads sees it -/
def roS (m : Sig) : Sig := { m with ro := m.acts.length, lro := m.loops.length }
theorem ok_roS : Ok (roS m) := ⟨Nat.le_refl _, Nat.le_refl _⟩
theorem doCall_t {t : Target} {as : List AV} : doCall call true m t as = (call t as (roS m)).map fun p => (p.1, m) := .trans rfl rfl
theorem callv_fn {f : FuncId} {a b as : List AV} {ro : Bool} : callvOp call ro m (.fn f a b) as = doCall call ro m (.fn f) (a ++ as ++ b) := .trans rfl rfl
theorem callv_yield {l : Nat} {as : List AV} {ro : Bool} : callvOp call ro m (.yield l) as = doCall call ro m (.yield l) as := .trans rfl rfl

theorem pick_b {c : Bool} {a b : AV} : pickOp (.v (.bool c)) a b = some (cond c a b) := by cases c <;> rfl

theorem newBox_push {r : Rec} {cs : List AV} : (s.push r).newBox cs = (.ptr s.acts.length r.boxes.length 0, s.push ⟨r.boxes ++ [cs], r.toks⟩) := by
  rw [Sig.newBox, cur_push, nbox_push, addBox_push]

/-- so many cells -/
def fitN : Nat → List AV → Bool
  | 0, [] => true
  | n + 1, x :: r => x.isCell && fitN n r
  | _, _ => false
theorem fitN_iff : ∀ {n : Nat} {l : List AV}, fitN n l = true ↔ l.length = n ∧ l.all AV.isCell = true
  | 0, [] => by simp [fitN]
  | 0, _ :: _ => by simp [fitN]
  | n + 1, [] => by simp [fitN]
  | n + 1, x :: r => by simp only [fitN, Bool.and_eq_true, fitN_iff (n := n) (l := r), List.length_cons, List.all_cons]; constructor <;> (rintro ⟨h1, h2, h3⟩; exact ⟨by omega, by simp_all⟩)

theorem boxOp_eq {n : Nat} {y : AV} : boxOp m n y = cond (fitN n y.cells) (some (m.newBox y.cells)) none := by
  unfold boxOp
  cases h : fitN n y.cells with
  | true => rw [if_pos (fitN_iff.1 h)]; rfl
  | false => rw [if_neg (fun e => by rw [fitN_iff.2 e] at h; cases h)]; rfl

theorem load_ptr {r : Rec} {g : Bool} {n b off : Nat} : (s.push r).load g n (.ptr s.acts.length b off) = (r.boxes[b]?).bind fun cs => part g n cs off := by
  simp only [Sig.load, Sig.row, box_push]
  cases r.boxes[b]? <;> rfl
theorem load_any {g : Bool} {n d b off : Nat} : m.load g n (.ptr d b off) = (m.box d b).bind fun cs => part g n cs off := by
  simp only [Sig.load, Sig.row]
  cases m.box d b <;> rfl
theorem box_keep {d b : Nat} {cs : List AV} (h : m.box d b = some cs) (r : Rec) : (m.push r).box d b = some cs := by
  simp only [Sig.box, Sig.push] at h ⊢
  rw [List.getElem?_append_left]
  · exact h
  · apply Classical.byContradiction
    intro hn
    rw [List.getElem?_eq_none (by omega)] at h
    cases h
theorem load_eptr {g : Bool} {n off : Nat} {cs : List AV} : m.load g n (.eptr cs off) = part g n cs off := rfl

theorem part_f {n off : Nat} {cs : List AV} : part false n cs off = cs[off]? := rfl
/-- n cells from an offset on -/
def cutN : Nat → Nat → List AV → Option (List AV)
  | 0, 0, _ => some []
  | 0, n + 1, x :: r => (cutN 0 n r).map (x :: ·)
  | off + 1, n, _ :: r => cutN off n r
  | _, _, [] => none
theorem cutN_eq : ∀ (off n : Nat) (cs : List AV), cutN off n cs = if off + n ≤ cs.length then some ((cs.drop off).take n) else none
  | 0, 0, _ => by simp [cutN]
  | 0, n + 1, [] => by simp [cutN]
  | 0, n + 1, x :: r => by
    have := cutN_eq 0 n r
    simp only [cutN, this, List.drop_zero, List.length_cons, List.take_succ_cons, Nat.zero_add]
    by_cases h : n ≤ r.length
    · rw [if_pos h, if_pos (by omega)]; rfl
    · rw [if_neg h, if_neg (by omega)]; rfl
  | off + 1, n, [] => by simp [cutN]
  | off + 1, n, x :: r => by
    have := cutN_eq off n r
    simp only [cutN, this, List.length_cons, List.drop_succ_cons]
    by_cases h : off + n ≤ r.length
    · rw [if_pos h, if_pos (by omega)]
    · rw [if_neg h, if_neg (by omega)]
theorem part_t {n off : Nat} {cs : List AV} : part true n cs off = (cutN off n cs).map .agg := by
  rw [cutN_eq]; unfold part; by_cases h : off + n ≤ cs.length <;> simp [h]

/-- cells written over others -/
def overN : List AV → Nat → List AV → Option (List AV)
  | row, 0, [] => some row
  | _ :: row, 0, c :: cs => (overN row 0 cs).map (c :: ·)
  | x :: row, off + 1, cs => (overN row off cs).map (x :: ·)
  | [], _, _ => none
theorem setCells_cons (x : AV) : ∀ (cs : List AV) (row : List AV) (off : Nat), setCells (x :: row) (off + 1) cs = x :: setCells row off cs
  | [], _, _ => rfl
  | c :: cs, row, off => by simp only [setCells, List.set_cons_succ]; exact setCells_cons x cs _ _
theorem overN_eq : ∀ (row : List AV) (off : Nat) (cs : List AV), overN row off cs = if off + cs.length ≤ row.length then some (setCells row off cs) else none
  | row, 0, [] => by simp [overN, setCells]
  | [], 0, c :: cs => by simp [overN]
  | x :: row, 0, c :: cs => by
    simp only [overN, overN_eq row 0 cs, setCells, List.set_cons_zero, List.length_cons, Nat.zero_add]
    by_cases h : cs.length ≤ row.length
    · rw [if_pos h, if_pos (by omega)]; simp [setCells_cons c cs row 0]
    · rw [if_neg h, if_neg (by omega)]; rfl
  | [], off + 1, cs => by simp [overN]
  | x :: row, off + 1, cs => by
    simp only [overN, overN_eq row off cs, List.length_cons, setCells_cons]
    by_cases h : off + cs.length ≤ row.length
    · rw [if_pos h, if_pos (by omega)]; rfl
    · rw [if_neg h, if_neg (by omega)]; rfl

theorem ro_le {r : Rec} (h : Ok s) : (s.push r).ro ≤ s.acts.length := h.ro

/-- A store into a box of the present activation. -/
theorem store_ptr {r : Rec} {n b off : Nat} {y : AV} (h : Ok s) :
    (s.push r).store n (.ptr s.acts.length b off) y = cond (fitN n y.cells) (((r.boxes[b]?).bind fun row => overN row off y.cells).map fun row => s.push ⟨r.boxes.set b row, r.toks⟩) none := by
  cases hy : fitN n y.cells with
  | false =>
    have : ¬ (y.cells.length = n ∧ y.cells.all AV.isCell = true) := fun e => by rw [fitN_iff.2 e] at hy; cases hy
    simp only [Sig.store, cond_false]
    rw [if_neg (fun e => this e.2)]
  | true =>
    have hy := fitN_iff.1 hy
    simp only [Sig.store, cond_true]
    rw [if_pos ⟨ro_le h, hy.1, hy.2⟩, cur_push, if_pos rfl]
    simp only [box_push]
    cases r.boxes[b]? with
    | none => rfl
    | some row =>
      simp only [Option.bind_some, overN_eq, hy.1]
      by_cases hq : off + n ≤ row.length
      · simp only [if_pos hq, setBox_push, Option.map_some]
      · simp only [if_neg hq, Option.map_none]

theorem fillRow_eq {cs : List AV} {off size : Nat} {x : AV} : fillRow cs off size x = cond (fitN size x.cells) (overN cs off x.cells) none := by
  unfold fillRow
  cases h : fitN size x.cells with
  | true =>
    have := fitN_iff.1 h
    rw [cond_true, overN_eq, this.1]
    by_cases hq : off + size ≤ cs.length
    · rw [if_pos ⟨rfl, hq, this.2⟩, if_pos hq]
    · rw [if_neg (fun e => hq e.2.1), if_neg hq]
  | false => rw [if_neg (fun e => by rw [fitN_iff.2 ⟨e.1, e.2.2⟩] at h; cases h)]; rfl
theorem buildCells_nil {cs : List AV} {f : AOpd → AV} : buildCells cs f [] = some cs := rfl
theorem buildCells_cons {cs : List AV} {f : AOpd → AV} {off size : Nat} {x : AOpd} {r : List (Nat × Nat × AOpd)} : buildCells cs f ((off, size, x) :: r) = (cond (fitN size (f x).cells) (overN cs off (f x).cells) none).bind fun cs' => buildCells cs' f r := by
  rw [← fillRow_eq]; simp only [buildCells]; cases fillRow cs off size (f x) <;> rfl
theorem buildRows_nil {rows : List (List AV)} {f : AOpd → AV} : buildRows rows f [] = some rows := rfl
/-- as many cells as before -/
def sameLen : List AV → List AV → Bool
  | [], [] => true
  | _ :: a, _ :: b => sameLen a b
  | _, _ => false
theorem sameLen_eq : ∀ (a b : List AV), sameLen a b = decide (a.length = b.length)
  | [], [] => rfl
  | [], _ :: _ => rfl
  | _ :: _, [] => rfl
  | _ :: a, _ :: b => by simp [sameLen, sameLen_eq a b]
theorem buildRows_cons {rows : List (List AV)} {f : AOpd → AV} {i : Nat} {x : AOpd} {r : List (Nat × AOpd)} : buildRows rows f ((i, x) :: r) = (rows[i]?).bind fun row => (closeAll (f x).cells).bind fun cs => cond (sameLen cs row) (buildRows (rows.set i cs) f r) none := by
  simp only [buildRows, sameLen_eq]
  cases rows[i]? with
  | none => rfl
  | some row => cases closeAll (f x).cells with
    | none => rfl
    | some cs => by_cases h : cs.length = row.length <;> simp [h]
theorem closeAll_nil : closeAll [] = some [] := rfl
theorem closeAll_cons {x : AV} {r : List AV} : closeAll (x :: r) = x.close.bind fun y => (closeAll r).map fun s => y :: s := by
  simp only [closeAll]; cases x.close <;> cases closeAll r <;> rfl
theorem close_int {k : IntKind} {n : Int} : AV.close (.v (.int k n)) = some (.v (.int k n)) := rfl
theorem close_bool {b : Bool} : AV.close (.v (.bool b)) = some (.v (.bool b)) := rfl
theorem close_str {b : ByteArray} : AV.close (.v (.string b)) = some (.v (.string b)) := rfl
theorem close_nilS {es : Nat} {xs : List (List AV)} : AV.close (.slice .nilS es xs) = some (.slice .nilS es xs) := rfl
theorem close_any {es : Nat} {xs : List (List AV)} : AV.close (.slice .any es xs) = some (.slice .any es xs) := rfl
theorem close_full {es : Nat} {xs : List (List AV)} : AV.close (.slice .full es xs) = some (.slice .full es xs) := rfl
theorem close_tok {d g es : Nat} {xs : List (List AV)} : AV.close (.slice (.tok d g) es xs) = some (.slice .any es xs) := rfl

theorem ptrAdd_p {off d b o : Nat} : ptrAdd off (.ptr d b o) = some (.ptr d b (o + off)) := rfl
theorem ptrAdd_e {off o : Nat} {cs : List AV} : ptrAdd off (.eptr cs o) = some (.eptr cs (o + off)) := rfl

end
end Go.Ax.Sx
