/-
  Computing with the executor: the steps, one by one.
-/
import Derived.Test.YtehlallciamkoaaT8
import Derived.Attr
namespace Go.Ax.Sx
structure Ok (s : Sig) : Prop where
 ro : s.ro ≤ s.acts.length
 lro : s.lro ≤ s.loops.length
theorem Ok.push {s : Sig} (h : Ok s) (r : Rec) : Ok (s.push r) := ⟨by have := h.ro; simp [Sig.push]; omega, h.lro⟩
@[simp] theorem pop_push (s : Sig) (r : Rec) : (s.push r).pop = s := by simp [Sig.push, Sig.pop]
@[simp] theorem cur_push (s : Sig) (r : Rec) : (s.push r).cur = s.acts.length := by simp [Sig.push, Sig.cur]
theorem box_push (s : Sig) (r : Rec) (b : Nat) : (s.push r).box s.acts.length b = r.boxes[b]? := by simp [Sig.push, Sig.box]
theorem nbox_push (s : Sig) (r : Rec) : (s.push r).nbox s.acts.length = r.boxes.length := by simp [Sig.push, Sig.nbox]
theorem tok_push (s : Sig) (r : Rec) (g : Nat) : (s.push r).tok s.acts.length g = (r.toks[g]?).join := by simp [Sig.push, Sig.tok]
theorem ntok_push (s : Sig) (r : Rec) : (s.push r).ntok s.acts.length = r.toks.length := by simp [Sig.push, Sig.ntok]
theorem onRec_push (s : Sig) (r : Rec) (f : Rec → Rec) : (s.push r).onRec s.acts.length f = s.push (f r) := by
 simp only [Sig.push, Sig.onRec, Sig.mk.injEq, and_true]
 apply List.ext_getElem?
 intro i
 rw [List.getElem?_modify]
 by_cases h : i < s.acts.length
 ·rw [List.getElem?_append_left h, List.getElem?_append_left h]
  have : ¬ s.acts.length = i := by omega
  simp [this]
 ·rw [List.getElem?_append_right (by omega), List.getElem?_append_right (by omega)]
  by_cases h' : s.acts.length = i
  ·subst h'; simp
  ·have e : i - s.acts.length = (i - s.acts.length - 1) + 1 := by omega
   rw [e]; simp
theorem addBox_push (s : Sig) (r : Rec) (cs : List AV) : (s.push r).addBox s.acts.length cs = s.push ⟨r.boxes ++ [cs], r.toks⟩ := by rw [Sig.addBox, onRec_push]
theorem setBox_push (s : Sig) (r : Rec) (b : Nat) (cs : List AV) : (s.push r).setBox s.acts.length b cs = s.push ⟨r.boxes.set b cs, r.toks⟩ := by rw [Sig.setBox, onRec_push]
theorem addTok_push (s : Sig) (r : Rec) (n : Nat) : (s.push r).addTok s.acts.length n = s.push ⟨r.boxes, r.toks ++ [some n]⟩ := by rw [Sig.addTok, onRec_push]
theorem setTok_push (s : Sig) (r : Rec) (g : Nat) (n : Option Nat) : (s.push r).setTok s.acts.length g n = s.push ⟨r.boxes, r.toks.set g n⟩ := by rw [Sig.setTok, onRec_push]
theorem ro_push (s : Sig) (r : Rec) : (s.push r).ro = s.ro := rfl
section
variable {call : CallF} {ρ : Nat → AV} {m : Sig} {t : Nat} {rest : List AOper}
noncomputable def andThen (call : CallF) (d : Option Nat) (rest : List AOper) (ρ : Nat → AV) (r : Option (AV × Sig)) : Option St :=
 r.bind fun p => ops call rest ⟨putT ρ d p.1, p.2⟩
theorem ops_step {d : Option Nat} {op : AOp} : ops call (⟨d, none, op⟩ :: rest) ⟨ρ, m⟩ = andThen call d rest ρ (opv call (evalT ρ) m op) := by
 simp only [ops, wantedT, andThen, if_true]
 cases opv call (evalT ρ) m op <;> rfl
def onBool {β : Type} (x : AV) (f : Bool → β) (d : β) : β :=
 match x with
 | .v (.bool b) => f b
 | _ => d
theorem onBool_mk {β : Type} {b : Bool} {f : Bool → β} {d : β} : onBool (.v (.bool b)) f d = f b := rfl
theorem onBool_congr {β : Type} {x x' : AV} {f : Bool → β} {d : β} (h : x = x') : onBool x f d = onBool x' f d := by rw [h]
theorem put_self : put t (ρ t) ρ = ρ := by
 funext u; unfold put; split
 ·rename_i h; rw [h]
 ·rfl
theorem ops_guard {d : Option Nat} {op : AOp} {b : Bool} : ops call (⟨d, some (t, b), op⟩ :: rest) ⟨ρ, m⟩ =
  onBool (ρ t) (fun c => cond c
   (cond b (andThen call d rest (put t (.v (.bool true)) ρ) (opv call (evalT (put t (.v (.bool true)) ρ)) m op)) (ops call rest ⟨putT (put t (.v (.bool true)) ρ) d AV.undef, m⟩))
   (cond b (ops call rest ⟨putT (put t (.v (.bool false)) ρ) d AV.undef, m⟩) (andThen call d rest (put t (.v (.bool false)) ρ) (opv call (evalT (put t (.v (.bool false)) ρ)) m op))))
   (ops call rest ⟨putT ρ d AV.undef, m⟩) := by
 have hw : ∀ b', wantedV b (.v (.bool b')) = (b' == b) := fun _ => rfl
 by_cases h : ∃ c, ρ t = .v (.bool c)
 ·obtain ⟨c, h⟩ := h
  have e : put t (.v (.bool c)) ρ = ρ := by rw [← h]; exact put_self
  simp only [ops, wantedT, andThen, h, hw, onBool]
  cases c <;> cases b <;> simp [e] <;> (cases opv call (evalT ρ) m op <;> rfl)
 ·have h1 : wantedV b (ρ t) = false := by
   cases hx : ρ t with
   | v x => cases x with
    | bool c => exact absurd ⟨c, hx⟩ h
    | _ => rfl
   | _ => rfl
  have h2 : ∀ {β : Type} (f : Bool → β) (d : β), onBool (ρ t) f d = d := by
   intro β f d
   cases hx : ρ t with
   | v x => cases x with
    | bool c => exact absurd ⟨c, hx⟩ h
    | _ => rfl
   | _ => rfl
  simp [ops, wantedT, h1, h2]
end
inductive K where
 | c (a : ACode)
 | blk (id : Nat)
 | lp (a : ACode)
section
variable (AP : FuncId → Option AFn) (Fin : AExit → St → Option (AV × Sig))
noncomputable def goE : List K → AExit → St → Option (AV × Sig)
 | [], e, st => Fin e st
 | .c a :: ks, e, st => match e with
  | .normal => (runL AP a st).bind fun p => goE ks p.1 p.2
  | e => goE ks e st
 | .blk id :: ks, e, st => match e with
  | .exit j => if j = id then goE ks .normal st else goE ks (.exit j) st
  | e => goE ks e st
 | .lp a :: ks, e, st => match e with
  | .normal => (runL AP (.loop a) st).bind fun p => goE ks p.1 p.2
  | e => goE ks e st
noncomputable def go (ks : List K) (st : St) : Option (AV × Sig) := goE AP Fin ks .normal st
noncomputable def goO (l : List AOper) (ks : List K) (st : St) : Option (AV × Sig) := (ops (callL AP) l st).bind fun st' => go AP Fin ks st'
noncomputable def goX (id : Nat) (ks : List K) (st : St) : Option (AV × Sig) := goE AP Fin ks (.exit id) st
noncomputable def goR (ks : List K) (st : St) : Option (AV × Sig) := goE AP Fin ks .ret st
noncomputable def goV (d : Option Nat) (l : List AOper) (ks : List K) (ρ : Nat → AV) (r : Option (AV × Sig)) : Option (AV × Sig) := r.bind fun p => goO AP Fin l ks ⟨putT ρ d p.1, p.2⟩
def finF (rs : List ARes) (own : Bool) : AExit → St → Option (AV × Sig)
 | .exit _, _ => none
 | _, st => finish rs own st
def finR (l : Nat) (e : AExit) (st : St) : Option (AV × Sig) := endRound l (some (e, st))
variable {AP Fin} {ks : List K} {st : St} {a b : ACode} {ρ : Nat → AV} {m : Sig} {rest : List AOper}
theorem go_nil : go AP Fin [] st = Fin .normal st := rfl
theorem goX_nil {id : Nat} : goX AP Fin id [] st = Fin (.exit id) st := rfl
theorem goR_any : ∀ {ks : List K}, goR AP Fin ks st = Fin .ret st
 | [] => rfl
 | .c _ :: ks => (goR_any (ks := ks) : _)
 | .blk _ :: ks => (goR_any (ks := ks) : _)
 | .lp _ :: ks => (goR_any (ks := ks) : _)
theorem goX_c {id : Nat} : goX AP Fin id (.c a :: ks) st = goX AP Fin id ks st := rfl
theorem goX_lp {id : Nat} : goX AP Fin id (.lp a :: ks) st = goX AP Fin id ks st := rfl
theorem goX_blk {id j : Nat} : goX AP Fin id (.blk j :: ks) st = if id = j then go AP Fin ks st else goX AP Fin id ks st := rfl
theorem go_skip : go AP Fin (.c .skip :: ks) st = go AP Fin ks st := by simp [go, goE, runL_skip]
theorem go_exit {id : Nat} : go AP Fin (.c (.exit id) :: ks) st = goX AP Fin id ks st := by simp [go, goE, runL_exit, goX]
theorem go_ret : go AP Fin (.c .ret :: ks) st = Fin .ret st := by
 rw [← goR_any (AP := AP) (Fin := Fin) (ks := ks) (st := st)]; simp [go, goE, runL_ret, goR]
theorem go_blk {id : Nat} : go AP Fin (.blk id :: ks) st = go AP Fin ks st := rfl
theorem go_lp : go AP Fin (.lp a :: ks) st = go AP Fin (.c (.loop a) :: ks) st := rfl
theorem go_region {d : Bool} {l : List AOper} : go AP Fin (.c (.region d l) :: ks) st = goO AP Fin l ks st := by
 simp only [go, goE, runL_region, goO, Option.bind_map]; rfl
theorem go_seq : go AP Fin (.c (.seq a b) :: ks) st = go AP Fin (.c a :: .c b :: ks) st := by
 simp only [go, goE, runL_seq]
 cases h : runL AP a st with
 | none => rfl
 | some p => obtain ⟨e, st'⟩ := p; cases e <;> rfl
theorem go_block {id : Nat} : go AP Fin (.c (.block id a) :: ks) st = go AP Fin (.c a :: .blk id :: ks) st := by
 simp only [go, goE, runL_block]
 cases h : runL AP a st with
 | none => rfl
 | some p =>
  obtain ⟨e, st'⟩ := p
  cases e with
  | exit j => by_cases hj : j = id <;> simp [hj]
  | _ => rfl
theorem go_loop : go AP Fin (.c (.loop a) :: ks) st = go AP Fin (.c a :: .lp a :: ks) st := by
 simp only [go, goE]
 rw [runL_loop]
 cases h : runL AP a st with
 | none => rfl
 | some p => obtain ⟨e, st'⟩ := p; cases e <;> rfl
theorem go_cond {x : AOpd} : go AP Fin (.c (.cond x a b) :: ks) ⟨ρ, m⟩ = onBool (evalT ρ x) (fun t => cond t (go AP Fin (.c a :: ks) ⟨ρ, m⟩) (go AP Fin (.c b :: ks) ⟨ρ, m⟩)) none := by
 simp only [go, goE, runL_cond, onBool]
 cases evalT ρ x with
 | v y => cases y with
  | bool t => cases t <;> rfl
  | _ => rfl
 | _ => rfl
theorem goO_nil : goO AP Fin [] ks st = go AP Fin ks st := rfl
theorem goO_step {d : Option Nat} {op : AOp} : goO AP Fin (⟨d, none, op⟩ :: rest) ks ⟨ρ, m⟩ = goV AP Fin d rest ks ρ (opv (callL AP) (evalT ρ) m op) := by
 simp only [goO, ops_step, andThen, goV]
 cases opv (callL AP) (evalT ρ) m op <;> rfl
theorem goO_guard {d : Option Nat} {op : AOp} {t : Nat} {b : Bool} : goO AP Fin (⟨d, some (t, b), op⟩ :: rest) ks ⟨ρ, m⟩ =
  onBool (ρ t) (fun c => cond c
   (cond b (goO AP Fin (⟨d, none, op⟩ :: rest) ks ⟨put t (.v (.bool true)) ρ, m⟩) (goO AP Fin rest ks ⟨putT (put t (.v (.bool true)) ρ) d AV.undef, m⟩))
   (cond b (goO AP Fin rest ks ⟨putT (put t (.v (.bool false)) ρ) d AV.undef, m⟩) (goO AP Fin (⟨d, none, op⟩ :: rest) ks ⟨put t (.v (.bool false)) ρ, m⟩)))
   (goO AP Fin rest ks ⟨putT ρ d AV.undef, m⟩) := by
 simp only [goO, ops_guard, ops_step]
 have : ∀ (x : AV) (f : Bool → Option St) (d : Option St) (g : St → Option (AV × Sig)), (onBool x f d).bind g = onBool x (fun c => (f c).bind g) (d.bind g) := by
  intro x f d g
  cases x with
  | v y => cases y <;> rfl
  | _ => rfl
 rw [this]
 congr 1
 funext c
 cases c <;> cases b <;> rfl
theorem goO_guardTn {op : AOp} {t : Nat} : goO AP Fin (⟨none, some (t, true), op⟩ :: rest) ks ⟨ρ, m⟩ =
  onBool (ρ t) (fun c => cond c (goO AP Fin (⟨none, none, op⟩ :: rest) ks ⟨put t (.v (.bool true)) ρ, m⟩) (goO AP Fin rest ks ⟨put t (.v (.bool false)) ρ, m⟩)) (goO AP Fin rest ks ⟨ρ, m⟩) := by
 rw [goO_guard]; rfl
theorem goO_guardFn {op : AOp} {t : Nat} : goO AP Fin (⟨none, some (t, false), op⟩ :: rest) ks ⟨ρ, m⟩ =
  onBool (ρ t) (fun c => cond c (goO AP Fin rest ks ⟨put t (.v (.bool true)) ρ, m⟩) (goO AP Fin (⟨none, none, op⟩ :: rest) ks ⟨put t (.v (.bool false)) ρ, m⟩)) (goO AP Fin rest ks ⟨ρ, m⟩) := by
 rw [goO_guard]; rfl
def puts : List (Nat × AV) → (Nat → AV) → Nat → AV
 | [], ρ => ρ
 | (d, x) :: ws, ρ => put d x (puts ws ρ)
def undefs : List (Nat × AV) → List (Nat × AV)
 | [] => []
 | (d, _) :: ws => (d, AV.undef) :: undefs ws
noncomputable def ent (AP : FuncId → Option AFn) (Fin : AExit → St → Option (AV × Sig)) (c : Bool) (t : Nat) (b : Bool) (d : Nat) (op : AOp) (l : List AOper) (ks : List K) (ρ : Nat → AV) (m : Sig) : Option (AV × Sig) :=
 cond (c == b) (goO AP Fin (⟨some d, none, op⟩ :: l) ks ⟨put t (.v (.bool b)) ρ, m⟩) (goO AP Fin l ks ⟨put d AV.undef (put t (.v (.bool !b)) ρ), m⟩)
theorem goO_ent {d : Nat} {op : AOp} {t : Nat} {b : Bool} : goO AP Fin (⟨some d, some (t, b), op⟩ :: rest) ks ⟨ρ, m⟩ =
  onBool (ρ t) (fun c => ent AP Fin c t b d op rest ks ρ m) (goO AP Fin rest ks ⟨put d AV.undef ρ, m⟩) := by
 rw [goO_guard]
 congr 1
 funext c
 cases c <;> cases b <;> rfl
theorem ent_yT {d t : Nat} {op : AOp} : ent AP Fin true t true d op rest ks ρ m = goO AP Fin (⟨some d, none, op⟩ :: rest) ks ⟨put t (.v (.bool true)) ρ, m⟩ := rfl
theorem ent_yF {d t : Nat} {op : AOp} : ent AP Fin false t false d op rest ks ρ m = goO AP Fin (⟨some d, none, op⟩ :: rest) ks ⟨put t (.v (.bool false)) ρ, m⟩ := rfl
theorem ent_nT {d t : Nat} {op : AOp} : ent AP Fin false t true d op rest ks ρ m = goO AP Fin rest ks ⟨put d AV.undef (put t (.v (.bool false)) ρ), m⟩ := rfl
theorem ent_nF {d t : Nat} {op : AOp} : ent AP Fin true t false d op rest ks ρ m = goO AP Fin rest ks ⟨put d AV.undef (put t (.v (.bool true)) ρ), m⟩ := rfl
theorem goV_ts {t : Nat} {x : AV} {m' : Sig} : goV AP Fin (some t) rest ks ρ (some (x, m')) = goO AP Fin rest ks ⟨put t x ρ, m'⟩ := rfl
theorem put_put {t : Nat} {x y : AV} : put t x (put t y ρ) = put t x ρ := by
 funext u; unfold put; by_cases h : u = t <;> simp [h]
theorem put_swap {d t : Nat} {x y : AV} (h : (d == t) = false) : put d x (put t y ρ) = put t y (put d x ρ) := by
 have h : d ≠ t := by simpa using h
 funext u
 unfold put
 by_cases h1 : u = d
 ·subst h1; simp [h]
 ·by_cases h2 : u = t
  ·subst h2; simp [h1]
  ·simp [h1, h2]
def muxs (c b : Bool) : List (Nat × AV) → List (Nat × AV)
 | [] => []
 | (d, x) :: ws => (d, cond b (cond c x AV.undef) (cond c AV.undef x)) :: muxs c b ws
theorem muxs_eq (c b : Bool) : ∀ ws : List (Nat × AV), muxs c b ws = cond (c == b) ws (undefs ws)
 | [] => by cases c <;> cases b <;> rfl
 | (d, x) :: ws => by rw [muxs, muxs_eq c b ws]; cases c <;> cases b <;> rfl
structure GF where
 c : Bool
 t : Nat
 b : Bool
 ws : List (Nat × AV)
def actT : List GF → (Nat → AV) → Nat → AV
 | [], ρ => ρ
 | f :: fs, ρ => put f.t (.v (.bool f.b)) (puts f.ws (actT fs ρ))
def onAll : List GF → Bool
 | [] => true
 | f :: fs => onAll fs && (f.c == f.b)
def denT : List GF → (Nat → AV) → Nat → AV
 | [], ρ => ρ
 | f :: fs, ρ => cond (onAll fs) (cond (f.c == f.b) (put f.t (.v (.bool f.b)) (puts f.ws (denT fs ρ))) (put f.t (.v (.bool !f.b)) (puts (undefs f.ws) (denT fs ρ)))) (puts (undefs f.ws) (denT fs ρ))
def hasW (t : Nat) : List (Nat × AV) → Bool
 | [] => false
 | (d, _) :: ws => decide (t = d) || hasW t ws
def lookW (t : Nat) : List (Nat × AV) → AV
 | [] => AV.undef
 | (d, x) :: ws => if t = d then x else lookW t ws
def okF : List GF → Bool
 | [] => true
 | [_] => true
 | f :: g :: fs => hasW f.t g.ws && !decide (f.t = g.t) && okF (g :: fs)
theorem act_den : ∀ {fs : List GF} {ρ : Nat → AV}, onAll fs = true → denT fs ρ = actT fs ρ
 | [], _, _ => rfl
 | f :: fs, ρ, h => by
  simp only [onAll, Bool.and_eq_true] at h
  simp only [denT, actT, h.1, h.2, cond_true, act_den h.1]
theorem look_puts {t : Nat} : ∀ {ws : List (Nat × AV)} {ρ : Nat → AV}, hasW t ws = true → puts ws ρ t = lookW t ws
 | [], _, h => by simp [hasW] at h
 | (d, x) :: ws, ρ, h => by
  simp only [puts, put, lookW]
  by_cases e : t = d
  ·rw [if_pos e, if_pos e]
  ·rw [if_neg e, if_neg e]
   simp only [hasW, e, decide_false, Bool.false_or] at h
   exact look_puts h
theorem undef_puts {t : Nat} : ∀ {ws : List (Nat × AV)} {ρ : Nat → AV}, hasW t ws = true → puts (undefs ws) ρ t = AV.undef
 | [], _, h => by simp [hasW] at h
 | (d, x) :: ws, ρ, h => by
  simp only [undefs, puts, put]
  by_cases e : t = d
  ·rw [if_pos e]
  ·rw [if_neg e]
   simp only [hasW, e, decide_false, Bool.false_or] at h
   exact undef_puts h
theorem undef_keep {t : Nat} : ∀ {ws : List (Nat × AV)} {ρ : Nat → AV}, ρ t = AV.undef → puts (undefs ws) ρ t = AV.undef
 | [], _, h => h
 | (d, x) :: ws, ρ, h => by
  simp only [undefs, puts, put]
  by_cases e : t = d
  ·rw [if_pos e]
  ·rw [if_neg e]; exact undef_keep h
theorem off_undef {f g : GF} {fs : List GF} {ρ : Nat → AV} (h : okF (f :: g :: fs) = true) (ho : onAll (g :: fs) = false) : denT (g :: fs) ρ f.t = AV.undef := by
 simp only [okF, Bool.and_eq_true, Bool.not_eq_true', decide_eq_false_iff_not] at h
 simp only [onAll] at ho
 simp only [denT]
 cases h1 : onAll fs with
 | true =>
  rw [h1] at ho
  simp only [Bool.true_and] at ho
  simp only [ho, cond_true, cond_false, put]
  rw [if_neg h.1.2]
  exact undef_puts h.1.1
 | false =>
  simp only [cond_false]
  exact undef_puts h.1.1
noncomputable def goF (AP : FuncId → Option AFn) (Fin : AExit → St → Option (AV × Sig)) (fs : List GF) (l : List AOper) (ks : List K) (ρ : Nat → AV) (m : Sig) : Option (AV × Sig) := goO AP Fin l ks ⟨denT fs ρ, m⟩
noncomputable def goFV (AP : FuncId → Option AFn) (Fin : AExit → St → Option (AV × Sig)) (f : GF) (fs : List GF) (d : Nat) (l : List AOper) (ks : List K) (ρ : Nat → AV) (m : Sig) (r : Option (AV × Sig)) : Option (AV × Sig) :=
 cond (onAll (f :: fs)) (goV AP Fin (some d) l ks (actT (f :: fs) ρ) r) (goO AP Fin l ks ⟨put d AV.undef (denT (f :: fs) ρ), m⟩)
theorem goF_same {f : GF} {fs : List GF} {d : Nat} {op : AOp} (h : okF (f :: fs) = true) : goF AP Fin (f :: fs) (⟨some d, some (f.t, f.b), op⟩ :: rest) ks ρ m = goFV AP Fin f fs d rest ks ρ m (opv (callL AP) (evalT (actT (f :: fs) ρ)) m op) := by
 unfold goF goFV
 cases ha : onAll (f :: fs) with
 | true =>
  rw [act_den ha, goO_guard]
  have hg : actT (f :: fs) ρ f.t = .v (.bool f.b) := by simp [actT, put]
  have hp : put f.t (.v (.bool f.b)) (actT (f :: fs) ρ) = actT (f :: fs) ρ := by
   funext u; unfold put; by_cases e : u = f.t
   ·subst e; rw [if_pos rfl, hg]
   ·rw [if_neg e]
  rw [hg, onBool_mk]
  cases hb : f.b <;> rw [hb] at hp <;> simp only [cond_true, cond_false, goO_step] <;> rw [hp]
 | false =>
  simp only [cond_false]
  rw [goO_guard]
  have hg : denT (f :: fs) ρ f.t = AV.undef ∨ denT (f :: fs) ρ f.t = .v (.bool !f.b) := by
   cases h1 : onAll fs with
   | true =>
    simp only [onAll, h1, Bool.true_and] at ha
    right
    simp [denT, h1, ha, put]
   | false =>
    left
    simp only [denT, h1, cond_false]
    cases fs with
    | nil => simp [onAll] at h1
    | cons g fs => exact undef_keep (off_undef h h1)
  rcases hg with hg | hg
  ·rw [hg]; rfl
  ·have hp : put f.t (.v (.bool !f.b)) (denT (f :: fs) ρ) = denT (f :: fs) ρ := by
    funext u; unfold put; by_cases e : u = f.t
    ·subst e; rw [if_pos rfl, hg]
    ·rw [if_neg e]
   rw [hg, onBool_mk]
   cases hb : f.b <;> rw [hb] at hp <;> simp only [Bool.not_true, Bool.not_false, cond_true, cond_false] at hp ⊢ <;> rw [hp] <;> rfl
theorem goFV_some {f : GF} {fs : List GF} {d : Nat} {x : AV} (h : (decide (d = f.t)) = false) : goFV AP Fin f fs d rest ks ρ m (some (x, m)) = goF AP Fin (⟨f.c, f.t, f.b, (d, x) :: f.ws⟩ :: fs) rest ks ρ m := by
 have h' : (d == f.t) = false := by simpa using h
 unfold goFV goF
 cases ha : onAll (f :: fs) with
 | true =>
  have ha' : onAll (⟨f.c, f.t, f.b, (d, x) :: f.ws⟩ :: fs) = true := ha
  rw [act_den ha']
  simp only [cond_true, goV_ts, actT, puts]
  rw [put_swap h']
 | false =>
  simp only [cond_false, denT]
  cases h1 : onAll fs with
  | true =>
   simp only [onAll, h1, Bool.true_and] at ha
   simp only [cond_true, ha, cond_false, undefs, puts]
   rw [put_swap h']
  | false => simp only [cond_false, undefs, puts]
theorem puts_app {ws vs : List (Nat × AV)} : puts (ws ++ vs) ρ = puts ws (puts vs ρ) := by
 induction ws with
 | nil => rfl
 | cons p ws ih => obtain ⟨d, x⟩ := p; simp only [List.cons_append, puts, ih]
theorem undefs_app {ws vs : List (Nat × AV)} : undefs (ws ++ vs) = undefs ws ++ undefs vs := by
 induction ws with
 | nil => rfl
 | cons p ws ih => obtain ⟨d, x⟩ := p; simp only [List.cons_append, undefs, ih]
theorem undefs_muxs {c b : Bool} : ∀ {ws : List (Nat × AV)}, undefs (muxs c b ws) = undefs ws
 | [] => rfl
 | (d, x) :: ws => by simp only [muxs, undefs, undefs_muxs]
theorem puts_swap {t : Nat} {x : AV} : ∀ {ws : List (Nat × AV)} {ρ : Nat → AV}, hasW t ws = false → put t x (puts ws ρ) = puts ws (put t x ρ)
 | [], _, _ => rfl
 | (d, y) :: ws, ρ, h => by
  simp only [hasW, Bool.or_eq_false_iff, decide_eq_false_iff_not] at h
  simp only [puts]
  rw [put_swap (by simpa using h.1), puts_swap h.2]
theorem hasW_undefs {t : Nat} : ∀ {ws : List (Nat × AV)}, hasW t (undefs ws) = hasW t ws
 | [] => rfl
 | (d, y) :: ws => by simp only [undefs, hasW, hasW_undefs]
theorem put_same {t : Nat} {x : AV} (h : ρ t = x) : put t x ρ = ρ := by
 funext u; unfold put; by_cases e : u = t
 ·subst e; rw [if_pos rfl, h]
 ·rw [if_neg e]
theorem goF_pop {f g : GF} {fs : List GF} (l : List AOper) (h : okF (f :: g :: fs) = true) (hw : hasW f.t f.ws = false) (hv : hasW g.t f.ws = false) :
  goF AP Fin (f :: g :: fs) l ks ρ m = goF AP Fin (⟨g.c, g.t, g.b, muxs f.c f.b f.ws ++ (f.t, .v (.bool f.c)) :: g.ws⟩ :: fs) l ks ρ m := by
 simp only [okF, Bool.and_eq_true, Bool.not_eq_true', decide_eq_false_iff_not] at h
 have hne : (f.t == g.t) = false := by simpa using h.1.2
 have hu := undef_puts (t := f.t) (ws := g.ws) (ρ := denT fs ρ) h.1.1
 have hp : put f.t AV.undef (puts (undefs g.ws) (denT fs ρ)) = puts (undefs g.ws) (denT fs ρ) := put_same hu
 unfold goF
 congr 2
 simp only [denT, onAll, undefs_app, puts_app, undefs, puts, undefs_muxs, hp]
 cases h1 : onAll fs with
 | false => simp only [Bool.false_and, cond_false]
 | true =>
  simp only [Bool.true_and, cond_true]
  cases h2 : g.c == g.b with
  | false =>
   simp only [cond_false]
   exact (puts_swap (ws := undefs f.ws) (by rw [hasW_undefs]; exact hv)).symm
  | true =>
   simp only [cond_true, muxs_eq]
   cases h3 : f.c == f.b with
   | true =>
    simp only [cond_true]
    have e : f.c = f.b := by simpa using h3
    rw [e, ← puts_swap (ws := f.ws) hv, put_swap hne, puts_swap (ws := f.ws) hw]
   | false =>
    simp only [cond_false]
    have e : f.c = !f.b := by cases hc : f.c <;> cases hb : f.b <;> simp_all
    rw [e, ← puts_swap (ws := undefs f.ws) (by rw [hasW_undefs]; exact hv), put_swap hne, puts_swap (ws := undefs f.ws) (by rw [hasW_undefs]; exact hw)]
theorem goF_end {f : GF} (l : List AOper) : goF AP Fin [f] l ks ρ m = goO AP Fin l ks ⟨put f.t (.v (.bool f.c)) (puts (muxs f.c f.b f.ws) ρ), m⟩ := by
 unfold goF
 congr 2
 simp only [denT, onAll, cond_true, muxs_eq]
 cases hc : f.c <;> cases hb : f.b <;> rfl
theorem goF_push {f : GF} {fs : List GF} {c : Bool} {t : Nat} {b : Bool} (l : List AOper) (ht : hasW t f.ws = true) (hne : decide (t = f.t) = false) (hc : lookW t f.ws = .v (.bool c)) :
  goF AP Fin (f :: fs) l ks ρ m = goF AP Fin (⟨c, t, b, []⟩ :: f :: fs) l ks ρ m := by
 have hne : t ≠ f.t := by simpa using hne
 unfold goF
 congr 2
 simp only [denT.eq_2 ρ ⟨c, t, b, []⟩, puts, undefs]
 cases ha : onAll (f :: fs) with
 | false => rfl
 | true =>
  have hv : denT (f :: fs) ρ t = .v (.bool c) := by
   rw [act_den ha]
   simp only [actT, put]
   rw [if_neg hne, look_puts ht, hc]
  simp only [cond_true]
  cases hb : c == b with
  | true => have e : c = b := (by simpa using hb); subst e; exact (put_same hv).symm
  | false => have e : c = !b := (by cases c <;> cases b <;> simp_all); subst e; exact (put_same hv).symm
noncomputable def goS (AP : FuncId → Option AFn) (Fin : AExit → St → Option (AV × Sig)) (fs : List GF) (l : List AOper) (ks : List K) (ρ : Nat → AV) (m : Sig) : Option (AV × Sig) :=
 match fs with
 | f :: g :: r => goF AP Fin (⟨g.c, g.t, g.b, muxs f.c f.b f.ws ++ (f.t, .v (.bool f.c)) :: g.ws⟩ :: r) l ks ρ m
 | [f] => goO AP Fin l ks ⟨put f.t (.v (.bool f.c)) (puts (muxs f.c f.b f.ws) ρ), m⟩
 | [] => goO AP Fin l ks ⟨ρ, m⟩
def okP : List GF → Bool
 | f :: g :: _ => !hasW f.t f.ws && !hasW g.t f.ws
 | _ => true
theorem goF_goS {fs : List GF} (l : List AOper) (h : (okF fs && okP fs) = true) : goF AP Fin fs l ks ρ m = goS AP Fin fs l ks ρ m := by
 rw [Bool.and_eq_true] at h
 match fs with
 | [] => rfl
 | [f] => exact goF_end l
 | f :: g :: r =>
  have hp := h.2
  simp only [okP, Bool.and_eq_true, Bool.not_eq_true'] at hp
  exact goF_pop l h.1 hp.1 hp.2
theorem goF_guard {c : Bool} {t : Nat} {b : Bool} {ws : List (Nat × AV)} {fs : List GF} {d t' : Nat} {b' : Bool} {op : AOp} (h : (okF (⟨c, t, b, ws⟩ :: fs) && okP (⟨c, t, b, ws⟩ :: fs)) = true) :
  goF AP Fin (⟨c, t, b, ws⟩ :: fs) (⟨some d, some (t', b'), op⟩ :: rest) ks ρ m =
   if t' = t ∧ b' = b then goFV AP Fin ⟨c, t, b, ws⟩ fs d rest ks ρ m (opv (callL AP) (evalT (actT (⟨c, t, b, ws⟩ :: fs) ρ)) m op)
   else if t' ≠ t ∧ hasW t' ws = true then onBool (lookW t' ws) (fun c' => goF AP Fin (⟨c', t', b', []⟩ :: ⟨c, t, b, ws⟩ :: fs) (⟨some d, some (t', b'), op⟩ :: rest) ks ρ m) (goS AP Fin (⟨c, t, b, ws⟩ :: fs) (⟨some d, some (t', b'), op⟩ :: rest) ks ρ m)
   else goS AP Fin (⟨c, t, b, ws⟩ :: fs) (⟨some d, some (t', b'), op⟩ :: rest) ks ρ m := by
 by_cases h1 : t' = t ∧ b' = b
 ·rw [if_pos h1]
  obtain ⟨rfl, rfl⟩ := h1
  exact goF_same (f := ⟨c, t', b', ws⟩) (by rw [Bool.and_eq_true] at h; exact h.1)
 ·rw [if_neg h1]
  by_cases h2 : t' ≠ t ∧ hasW t' ws = true
  ·rw [if_pos h2]
   unfold onBool
   split
   ·rename_i c' hc
    exact goF_push _ h2.2 (by simpa using h2.1) hc
   ·exact goF_goS _ h
  ·rw [if_neg h2]
   exact goF_goS _ h
theorem goF_guard' {c : Bool} {t : Nat} {b : Bool} {ws : List (Nat × AV)} {fs : List GF} {d t' : Nat} {b' : Bool} {op : AOp} (h : (okF (⟨c, t, b, ws⟩ :: fs) && okP (⟨c, t, b, ws⟩ :: fs)) = true) :
  goF AP Fin (⟨c, t, b, ws⟩ :: fs) (⟨some d, some (t', b'), op⟩ :: rest) ks ρ m =
   if t' = t ∧ b' = b then goFV AP Fin ⟨c, t, b, ws⟩ fs d rest ks ρ m (opv (callL AP) (evalT (actT (⟨c, t, b, ws⟩ :: fs) ρ)) m op)
   else if t' = t then goS AP Fin (⟨c, t, b, ws⟩ :: fs) (⟨some d, some (t', b'), op⟩ :: rest) ks ρ m
   else cond (hasW t' ws) (onBool (lookW t' ws) (fun c' => goF AP Fin (⟨c', t', b', []⟩ :: ⟨c, t, b, ws⟩ :: fs) (⟨some d, some (t', b'), op⟩ :: rest) ks ρ m) (goS AP Fin (⟨c, t, b, ws⟩ :: fs) (⟨some d, some (t', b'), op⟩ :: rest) ks ρ m))
    (goS AP Fin (⟨c, t, b, ws⟩ :: fs) (⟨some d, some (t', b'), op⟩ :: rest) ks ρ m) := by
 rw [goF_guard h]
 by_cases h1 : t' = t ∧ b' = b
 ·rw [if_pos h1, if_pos h1]
 ·rw [if_neg h1, if_neg h1]
  by_cases h2 : t' = t
  ·rw [if_pos h2, if_neg (fun e => e.1 h2)]
  ·rw [if_neg h2]
   cases h3 : hasW t' ws
   ·simp [h2]
   ·simp [h2]
theorem goFV_off {f : GF} {fs : List GF} {d : Nat} {r r' : Option (AV × Sig)} (h : (f.c == f.b) = false) : goFV AP Fin f fs d rest ks ρ m r = goFV AP Fin f fs d rest ks ρ m r' := by
 unfold goFV
 have : onAll (f :: fs) = false := by simp only [onAll, h, Bool.and_false]
 rw [this]; rfl
theorem goF_off {f : GF} {fs : List GF} {d t' : Nat} {b' : Bool} {op : AOp} (h : (okF (f :: fs) && okP (f :: fs)) = true) (hd : decide (d = f.t) = false) (ho : (f.c == f.b) = false) :
  goF AP Fin (f :: fs) (⟨some d, some (t', b'), op⟩ :: rest) ks ρ m =
   if t' = f.t ∧ b' = f.b then goF AP Fin (⟨f.c, f.t, f.b, (d, AV.undef) :: f.ws⟩ :: fs) rest ks ρ m else goS AP Fin (f :: fs) (⟨some d, some (t', b'), op⟩ :: rest) ks ρ m := by
 by_cases h1 : t' = f.t ∧ b' = f.b
 ·rw [if_pos h1]
  obtain ⟨rfl, rfl⟩ := h1
  rw [goF_same (by rw [Bool.and_eq_true] at h; exact h.1), goFV_off ho (r' := some (AV.undef, m)), goFV_some hd]
 ·rw [if_neg h1]
  exact goF_goS _ h
theorem goF_offT {t : Nat} {ws : List (Nat × AV)} {fs : List GF} {d t' : Nat} {b' : Bool} {op : AOp} (h : (okF (⟨false, t, true, ws⟩ :: fs) && okP (⟨false, t, true, ws⟩ :: fs)) = true) (hd : decide (d = t) = false) :
  goF AP Fin (⟨false, t, true, ws⟩ :: fs) (⟨some d, some (t', b'), op⟩ :: rest) ks ρ m =
   if t' = t ∧ b' = true then goF AP Fin (⟨false, t, true, (d, AV.undef) :: ws⟩ :: fs) rest ks ρ m else goS AP Fin (⟨false, t, true, ws⟩ :: fs) (⟨some d, some (t', b'), op⟩ :: rest) ks ρ m := goF_off (f := ⟨false, t, true, ws⟩) h hd rfl
theorem goF_offF {t : Nat} {ws : List (Nat × AV)} {fs : List GF} {d t' : Nat} {b' : Bool} {op : AOp} (h : (okF (⟨true, t, false, ws⟩ :: fs) && okP (⟨true, t, false, ws⟩ :: fs)) = true) (hd : decide (d = t) = false) :
  goF AP Fin (⟨true, t, false, ws⟩ :: fs) (⟨some d, some (t', b'), op⟩ :: rest) ks ρ m =
   if t' = t ∧ b' = false then goF AP Fin (⟨true, t, false, (d, AV.undef) :: ws⟩ :: fs) rest ks ρ m else goS AP Fin (⟨true, t, false, ws⟩ :: fs) (⟨some d, some (t', b'), op⟩ :: rest) ks ρ m := goF_off (f := ⟨true, t, false, ws⟩) h hd rfl
theorem hasW_nil {t : Nat} : hasW t [] = false := rfl
theorem hasW_cons {t d : Nat} {x : AV} {ws : List (Nat × AV)} : hasW t ((d, x) :: ws) = if t = d then true else hasW t ws := by
 rw [hasW.eq_2]; by_cases h : t = d <;> simp [h]
theorem lookW_cons {t d : Nat} {x : AV} {ws : List (Nat × AV)} : lookW t ((d, x) :: ws) = if t = d then x else lookW t ws := .trans rfl rfl
theorem okF_1 {f : GF} : okF [f] = true := rfl
theorem okF_2 {c c' : Bool} {t t' : Nat} {b b' : Bool} {ws ws' : List (Nat × AV)} {fs : List GF} : okF (⟨c, t, b, ws⟩ :: ⟨c', t', b', ws'⟩ :: fs) = cond (hasW t ws') (if t = t' then false else okF (⟨c', t', b', ws'⟩ :: fs)) false := by
 rw [okF.eq_3]; simp only; cases hasW t ws' <;> by_cases h : t = t' <;> simp [h]
theorem okP_1 {f : GF} : okP [f] = true := rfl
theorem okP_2 {c c' : Bool} {t t' : Nat} {b b' : Bool} {ws ws' : List (Nat × AV)} {fs : List GF} : okP (⟨c, t, b, ws⟩ :: ⟨c', t', b', ws'⟩ :: fs) = cond (hasW t ws) false (cond (hasW t' ws) false true) := by
 show (!hasW t ws && !hasW t' ws) = _; cases hasW t ws <;> cases hasW t' ws <;> rfl
theorem actT_nil : actT [] ρ = ρ := rfl
theorem actT_cons {c : Bool} {t : Nat} {b : Bool} {ws : List (Nat × AV)} {fs : List GF} : actT (⟨c, t, b, ws⟩ :: fs) ρ = put t (.v (.bool b)) (puts ws (actT fs ρ)) := rfl
theorem goF_nod1 {c : Bool} {t : Nat} {b : Bool} {ws : List (Nat × AV)} {t' : Nat} {b' : Bool} {op : AOp} : goF AP Fin [⟨c, t, b, ws⟩] (⟨none, some (t', b'), op⟩ :: rest) ks ρ m =
  cond (c == b) (goO AP Fin (⟨none, some (t', b'), op⟩ :: rest) ks ⟨put t (.v (.bool b)) (puts ws ρ), m⟩) (goO AP Fin (⟨none, some (t', b'), op⟩ :: rest) ks ⟨put t (.v (.bool !b)) (puts (undefs ws) ρ), m⟩) := by
 unfold goF
 simp only [denT, onAll, cond_true]
 cases c == b <;> rfl
theorem goFV_other {c : Bool} {t : Nat} {b : Bool} {ws : List (Nat × AV)} {d : Nat} {x : AV} {m' : Sig} : goFV AP Fin ⟨c, t, b, ws⟩ [] d rest ks ρ m (some (x, m')) = cond (c == b) (goO AP Fin rest ks ⟨put d x (put t (.v (.bool b)) (puts ws ρ)), m'⟩) (goO AP Fin rest ks ⟨put d AV.undef (put t (.v (.bool !b)) (puts (undefs ws) ρ)), m⟩) := by
 unfold goFV
 simp only [onAll, Bool.true_and, denT, actT, cond_true]
 cases c == b <;> rfl
theorem ent_F {c : Bool} {d t : Nat} {b : Bool} {op : AOp} : ent AP Fin c t b d op rest ks ρ m = goF AP Fin [⟨c, t, b, []⟩] (⟨some d, some (t, b), op⟩ :: rest) ks ρ m := by
 unfold ent
 rw [goF_end]
 simp only [muxs, puts]
 rw [goO_ent]
 have e : put t (.v (.bool c)) ρ t = .v (.bool c) := by simp [put]
 rw [e, onBool_mk]
 unfold ent
 cases c <;> cases b <;> simp [put_put]
section
variable {c : Bool} {t : Nat} {b : Bool} {ws : List (Nat × AV)} {fs : List GF} {d t' : Nat} {b' : Bool} {op : AOp}
noncomputable def goK (AP : FuncId → Option AFn) (Fin : AExit → St → Option (AV × Sig)) (c : Bool) (t : Nat) (b : Bool) (ws : List (Nat × AV)) (fs : List GF) (l : List AOper) (ks : List K) (ρ : Nat → AV) (m : Sig) : Option (AV × Sig) := goF AP Fin (⟨c, t, b, ws⟩ :: fs) l ks ρ m
noncomputable def goKV (AP : FuncId → Option AFn) (Fin : AExit → St → Option (AV × Sig)) (c : Bool) (t : Nat) (b : Bool) (ws : List (Nat × AV)) (fs : List GF) (d : Nat) (l : List AOper) (ks : List K) (ρ : Nat → AV) (m : Sig) (r : Option (AV × Sig)) : Option (AV × Sig) := goFV AP Fin ⟨c, t, b, ws⟩ fs d l ks ρ m r
noncomputable def goKS (AP : FuncId → Option AFn) (Fin : AExit → St → Option (AV × Sig)) (c : Bool) (t : Nat) (b : Bool) (ws : List (Nat × AV)) (fs : List GF) (l : List AOper) (ks : List K) (ρ : Nat → AV) (m : Sig) : Option (AV × Sig) := goS AP Fin (⟨c, t, b, ws⟩ :: fs) l ks ρ m
theorem goK_congr {c' : Bool} {l : List AOper} (h : c = c') : goK AP Fin c t b ws fs l ks ρ m = goK AP Fin c' t b ws fs l ks ρ m := by rw [h]
theorem goKV_congr {r r' : Option (AV × Sig)} (h : r = r') : goKV AP Fin c t b ws fs d rest ks ρ m r = goKV AP Fin c t b ws fs d rest ks ρ m r' := by rw [h]
theorem goKS_congr {l : List AOper} : goKS AP Fin c t b ws fs l ks ρ m = goKS AP Fin c t b ws fs l ks ρ m := rfl
theorem ent_K : ent AP Fin c t b d op rest ks ρ m = goK AP Fin c t b [] [] (⟨some d, some (t, b), op⟩ :: rest) ks ρ m := ent_F
noncomputable def pushK (AP : FuncId → Option AFn) (Fin : AExit → St → Option (AV × Sig)) (x : AV) (t' : Nat) (b' : Bool) (c : Bool) (t : Nat) (b : Bool) (ws : List (Nat × AV)) (fs : List GF) (l : List AOper) (ks : List K) (ρ : Nat → AV) (m : Sig) : Option (AV × Sig) :=
 onBool x (fun c' => goK AP Fin c' t' b' [] (⟨c, t, b, ws⟩ :: fs) l ks ρ m) (goKS AP Fin c t b ws fs l ks ρ m)
theorem pushK_mk {c' : Bool} {l : List AOper} : pushK AP Fin (.v (.bool c')) t' b' c t b ws fs l ks ρ m = goK AP Fin c' t' b' [] (⟨c, t, b, ws⟩ :: fs) l ks ρ m := rfl
theorem pushK_undef {l : List AOper} : pushK AP Fin AV.undef t' b' c t b ws fs l ks ρ m = goKS AP Fin c t b ws fs l ks ρ m := rfl
theorem pushK_congr {x x' : AV} {l : List AOper} (h : x = x') : pushK AP Fin x t' b' c t b ws fs l ks ρ m = pushK AP Fin x' t' b' c t b ws fs l ks ρ m := by rw [h]
theorem goK_guard (h : (okF (⟨c, t, b, ws⟩ :: fs) && okP (⟨c, t, b, ws⟩ :: fs)) = true) :
  goK AP Fin c t b ws fs (⟨some d, some (t', b'), op⟩ :: rest) ks ρ m =
   if t' = t ∧ b' = b then goKV AP Fin c t b ws fs d rest ks ρ m (opv (callL AP) (evalT (actT (⟨c, t, b, ws⟩ :: fs) ρ)) m op)
   else if t' = t then goKS AP Fin c t b ws fs (⟨some d, some (t', b'), op⟩ :: rest) ks ρ m
   else if hasW t' ws = true then pushK AP Fin (lookW t' ws) t' b' c t b ws fs (⟨some d, some (t', b'), op⟩ :: rest) ks ρ m
   else goKS AP Fin c t b ws fs (⟨some d, some (t', b'), op⟩ :: rest) ks ρ m := by
 refine (goF_guard' h).trans ?_
 by_cases h1 : t' = t ∧ b' = b
 ·rw [if_pos h1, if_pos h1]; rfl
 ·rw [if_neg h1, if_neg h1]
  by_cases h2 : t' = t
  ·rw [if_pos h2, if_pos h2]; rfl
  ·rw [if_neg h2, if_neg h2]
   cases h3 : hasW t' ws
   ·rw [if_neg (by simp)]; rfl
   ·rw [if_pos rfl]; rfl
theorem goK_offT (h : (okF (⟨false, t, true, ws⟩ :: fs) && okP (⟨false, t, true, ws⟩ :: fs)) = true) (hd : decide (d = t) = false) :
  goK AP Fin false t true ws fs (⟨some d, some (t', b'), op⟩ :: rest) ks ρ m =
   if t' = t ∧ b' = true then goK AP Fin false t true ((d, AV.undef) :: ws) fs rest ks ρ m else goKS AP Fin false t true ws fs (⟨some d, some (t', b'), op⟩ :: rest) ks ρ m := goF_offT h hd
theorem goK_offF (h : (okF (⟨true, t, false, ws⟩ :: fs) && okP (⟨true, t, false, ws⟩ :: fs)) = true) (hd : decide (d = t) = false) :
  goK AP Fin true t false ws fs (⟨some d, some (t', b'), op⟩ :: rest) ks ρ m =
   if t' = t ∧ b' = false then goK AP Fin true t false ((d, AV.undef) :: ws) fs rest ks ρ m else goKS AP Fin true t false ws fs (⟨some d, some (t', b'), op⟩ :: rest) ks ρ m := goF_offF h hd
theorem goK_none {d : Option Nat} (h : (okF (⟨c, t, b, ws⟩ :: fs) && okP (⟨c, t, b, ws⟩ :: fs)) = true) : goK AP Fin c t b ws fs (⟨d, none, op⟩ :: rest) ks ρ m = goKS AP Fin c t b ws fs (⟨d, none, op⟩ :: rest) ks ρ m := goF_goS _ h
theorem goK_nod {g : GF} (h : (okF (⟨c, t, b, ws⟩ :: g :: fs) && okP (⟨c, t, b, ws⟩ :: g :: fs)) = true) : goK AP Fin c t b ws (g :: fs) (⟨none, some (t', b'), op⟩ :: rest) ks ρ m = goKS AP Fin c t b ws (g :: fs) (⟨none, some (t', b'), op⟩ :: rest) ks ρ m := goF_goS _ h
theorem goK_nod1 : goK AP Fin c t b ws [] (⟨none, some (t', b'), op⟩ :: rest) ks ρ m =
  cond (c == b) (goO AP Fin (⟨none, some (t', b'), op⟩ :: rest) ks ⟨put t (.v (.bool b)) (puts ws ρ), m⟩) (goO AP Fin (⟨none, some (t', b'), op⟩ :: rest) ks ⟨put t (.v (.bool !b)) (puts (undefs ws) ρ), m⟩) := goF_nod1
theorem goK_nil (h : (okF (⟨c, t, b, ws⟩ :: fs) && okP (⟨c, t, b, ws⟩ :: fs)) = true) : goK AP Fin c t b ws fs [] ks ρ m = goKS AP Fin c t b ws fs [] ks ρ m := goF_goS _ h
theorem goKS_1 {l : List AOper} : goKS AP Fin c t b ws [] l ks ρ m = goO AP Fin l ks ⟨put t (.v (.bool c)) (puts (muxs c b ws) ρ), m⟩ := rfl
theorem goKS_2 {c' : Bool} {ws' : List (Nat × AV)} {l : List AOper} : goKS AP Fin c t b ws (⟨c', t', b', ws'⟩ :: fs) l ks ρ m = goK AP Fin c' t' b' (muxs c b ws ++ (t, .v (.bool c)) :: ws') fs l ks ρ m := rfl
theorem goKV_same {x : AV} (h : (decide (d = t)) = false) : goKV AP Fin c t b ws fs d rest ks ρ m (some (x, m)) = goK AP Fin c t b ((d, x) :: ws) fs rest ks ρ m := goFV_some h
theorem goKV_other {x : AV} {m' : Sig} : goKV AP Fin c t b ws [] d rest ks ρ m (some (x, m')) = cond (c == b) (goO AP Fin rest ks ⟨put d x (put t (.v (.bool b)) (puts ws ρ)), m'⟩) (goO AP Fin rest ks ⟨put d AV.undef (put t (.v (.bool !b)) (puts (undefs ws) ρ)), m⟩) := goFV_other
end
theorem goV_t {t : Nat} {x : AV} {m' : Sig} : goV AP Fin (some t) rest ks ρ (some (x, m')) = goO AP Fin rest ks ⟨put t x ρ, m'⟩ := rfl
theorem goV_n {x : AV} {m' : Sig} : goV AP Fin none rest ks ρ (some (x, m')) = goO AP Fin rest ks ⟨ρ, m'⟩ := rfl
theorem goV_none {d : Option Nat} : goV AP Fin d rest ks ρ none = none := rfl
theorem goV_cond {d : Option Nat} {c : Bool} {x y : Option (AV × Sig)} : goV AP Fin d rest ks ρ (cond c x y) = cond c (goV AP Fin d rest ks ρ x) (goV AP Fin d rest ks ρ y) := by cases c <;> rfl
theorem goV_congr {d : Option Nat} {r r' : Option (AV × Sig)} (h : r = r') : goV AP Fin d rest ks ρ r = goV AP Fin d rest ks ρ r' := by rw [h]
theorem goO_congr : goO AP Fin rest ks st = goO AP Fin rest ks st := rfl
theorem go_congr : go AP Fin ks st = go AP Fin ks st := rfl
theorem callL_go {f : FuncId} {np nt : Nat} {b : ACode} {rs : List ARes} {own : Bool} (hf : AP f = some (.code np nt b rs own)) {as : List AV} {s : Sig} (hl : as.length = np) :
  callL AP (.fn f) as s = go AP (finF rs own) [.c b] ⟨argsT as, s.push ⟨[], []⟩⟩ := by
 rw [callL_fn hf, if_pos hl]
 simp only [go, goE]
 cases h : runL AP b ⟨argsT as, s.push ⟨[], []⟩⟩ with
 | none => rfl
 | some p => obtain ⟨e, st'⟩ := p; cases e <;> rfl
end
section
variable {ρ : Nat → AV} {m : Sig} {s : Sig} {call : CallF}
theorem evalT_tmp {t : Nat} : evalT ρ (.tmp t) = ρ t := .trans rfl rfl
theorem evalT_const {x : AV} : evalT ρ (.const x) = x := .trans rfl rfl
theorem put_lit {t u : Nat} {x : AV} : put t x ρ u = if u = t then x else ρ u := .trans rfl rfl
theorem argsT_0 {x : AV} {r : List AV} : argsT (x :: r) 0 = x := .trans rfl rfl
theorem argsT_s {x : AV} {r : List AV} {n : Nat} : argsT (x :: r) (n + 1) = argsT r n := .trans rfl rfl
theorem opv_move {x : AOpd} : opv call (evalT ρ) m (.move x) = some (evalT ρ x, m) := .trans rfl rfl
theorem opv_pick {c a b : AOpd} : opv call (evalT ρ) m (.pick c a b) = (pickOp (evalT ρ c) (evalT ρ a) (evalT ρ b)).map (·, m) := .trans rfl rfl
theorem opv_alloc {z : AV} {zs : List AV} : opv call (evalT ρ) m (.alloc (z :: zs)) = some (m.newBox (z :: zs)) := .trans rfl rfl
theorem opv_reserve {n : Nat} : opv call (evalT ρ) m (.reserve n) = some (AV.undef, m.reserve n) := .trans rfl rfl
theorem opv_loadr {q : Nat} {g : Bool} {n : Nat} {x : AOpd} : opv call (evalT ρ) m (.loadr q g n x) = (loadrOp m q g n (evalT ρ x)).map (·, m) := .trans rfl rfl
theorem opv_fill {q n : Nat} {x y : AOpd} : opv call (evalT ρ) m (.fill q n x y) = (fillOp m q n (evalT ρ x) (evalT ρ y)).map (AV.undef, ·) := .trans rfl rfl
theorem opv_slot {b : Nat} {zs : List AV} : opv call (evalT ρ) m (.slot b zs) = slotOp m b zs := .trans rfl rfl
theorem opv_box {n : Nat} {x : AOpd} : opv call (evalT ρ) m (.box n x) = boxOp m n (evalT ρ x) := .trans rfl rfl
theorem opv_build {zs : List AV} {ps : List (Nat × Nat × AOpd)} : opv call (evalT ρ) m (.build zs ps) = (buildCells zs (evalT ρ) ps).map fun cs => (.agg cs, m) := .trans rfl rfl
theorem opv_buildSlice {es : Nat} {rows : List (List AV)} {ps : List (Nat × AOpd)} : opv call (evalT ρ) m (.buildSlice es rows ps) = (buildRows rows (evalT ρ) ps).map fun rs => (.slice .full es rs, m) := .trans rfl rfl
theorem opv_load {g : Bool} {n : Nat} {x : AOpd} : opv call (evalT ρ) m (.load g n x) = (m.load g n (evalT ρ x)).map (·, m) := .trans rfl rfl
theorem opv_store {n : Nat} {x y : AOpd} : opv call (evalT ρ) m (.store n x y) = (m.store n (evalT ρ x) (evalT ρ y)).map (AV.undef, ·) := .trans rfl rfl
theorem opv_nilCheck {x : AOpd} : opv call (evalT ρ) m (.nilCheck x) = (nilCheckOp (evalT ρ x)).map (·, m) := .trans rfl rfl
theorem opv_arith {op : BinOp} {x y : AOpd} : opv call (evalT ρ) m (.arith op x y) = (arithOp op (evalT ρ x) (evalT ρ y)).map (·, m) := .trans rfl rfl
theorem opv_eqv {neg : Bool} {k : EqKind} {x y : AOpd} : opv call (evalT ρ) m (.eqv neg k x y) = (eqOp k (evalT ρ x) (evalT ρ y)).map fun t => (.v (.bool (if neg then !t else t)), m) := .trans rfl rfl
theorem opv_un {op : UnOp} {x : AOpd} : opv call (evalT ρ) m (.un op x) = (unOp op (evalT ρ x)).map (·, m) := .trans rfl rfl
theorem opv_conv {k : ConvKind} {x : AOpd} : opv call (evalT ρ) m (.conv k x) = (convOp k (evalT ρ x)).map (·, m) := .trans rfl rfl
theorem opv_mkIface {t : TypeId} {x : AOpd} : opv call (evalT ρ) m (.mkIface t x) = (ifaceOp t (evalT ρ x)).map (·, m) := .trans rfl rfl
theorem opv_mkFn {f : FuncId} {first caps : List AOpd} : opv call (evalT ρ) m (.mkFn f first caps) = if (first.map (evalT ρ)).all AV.isClosedV then some (.fn f (first.map (evalT ρ)) (caps.map (evalT ρ)), m) else none := .trans rfl rfl
theorem opv_mkSlicem {es : Nat} {zs : List AV} {len cap : AOpd} : opv call (evalT ρ) m (.mkSlicem es zs len cap) = mkSlicemOp m es zs (evalT ρ len) (evalT ρ cap) := .trans rfl rfl
theorem opv_mkSlice {es : Nat} {zs : List AV} {len cap : AOpd} : opv call (evalT ρ) m (.mkSlice es zs len cap) = mkSliceOp m es zs (evalT ρ len) (evalT ρ cap) := .trans rfl rfl
theorem opv_slice {k : SlKind} {x : AOpd} {lo hi mx : Option AOpd} : opv call (evalT ρ) m (.slice k x lo hi mx) = (sliceOp k (evalT ρ x) (evalOpt (evalT ρ) lo) (evalOpt (evalT ρ) hi) (evalOpt (evalT ρ) mx)).map (·, m) := .trans rfl rfl
theorem opv_fieldAddr {off : Nat} {x : AOpd} : opv call (evalT ρ) m (.fieldAddr off x) = (ptrAdd off (evalT ρ x)).map (·, m) := .trans rfl rfl
theorem opv_indexAddr {arr : Option Nat} {es : Nat} {x i : AOpd} : opv call (evalT ρ) m (.indexAddr arr es x i) = (indexAddrOp arr es (evalT ρ x) (evalT ρ i)).map (·, m) := .trans rfl rfl
theorem opv_indexStr {x i : AOpd} : opv call (evalT ρ) m (.indexStr x i) = (indexStrOp (evalT ρ x) (evalT ρ i)).map (·, m) := .trans rfl rfl
theorem opv_index {n es : Nat} {g : Bool} {x i : AOpd} : opv call (evalT ρ) m (.index n es g x i) = (indexOp n es g (evalT ρ x) (evalT ρ i)).map (·, m) := .trans rfl rfl
theorem opv_field {g : Bool} {n off : Nat} {x : AOpd} : opv call (evalT ρ) m (.field g n off x) = (fieldOp g n off (evalT ρ x)).map (·, m) := .trans rfl rfl
theorem opv_extract {i : Nat} {x : AOpd} : opv call (evalT ρ) m (.extract i x) = (extractOp i (evalT ρ x)).map (·, m) := .trans rfl rfl
theorem opv_call {ro : Bool} {f : FuncId} {as : List AOpd} : opv call (evalT ρ) m (.call ro f as) = doCall call ro m (.fn f) (as.map (evalT ρ)) := .trans rfl rfl
theorem opv_fcall {ro : Bool} {zs : List (List AV)} {f : FuncId} {as : List AOpd} : opv call (evalT ρ) m (.fcall ro zs f as) = fcallOp call ro m zs (.fn f) (as.map (evalT ρ)) := .trans rfl rfl
theorem opv_calli {f : FuncId} {as : List AOpd} : opv call (evalT ρ) m (.calli f as) = doCall call false m (.inl f) (as.map (evalT ρ)) := .trans rfl rfl
theorem opv_calln {f : FuncId} {as : List AOpd} : opv call (evalT ρ) m (.calln f as) = doCall call true m (.nat f) (as.map (evalT ρ)) := .trans rfl rfl
theorem opv_callo {f : FuncId} {as : List AOpd} : opv call (evalT ρ) m (.callo f as) = calloOp call m f (as.map (evalT ρ)) := .trans rfl rfl
theorem opv_callv {ro : Bool} {x : AOpd} {as : List AOpd} : opv call (evalT ρ) m (.callv ro x as) = callvOp call ro m (evalT ρ x) (as.map (evalT ρ)) := .trans rfl rfl
theorem opv_loadd {agg : Bool} {n : Nat} {x : AOpd} : opv call (evalT ρ) m (.loadd agg n x) = (loaddOp m agg n (evalT ρ x)).map (·, m) := .trans rfl rfl
theorem opv_appendf {es : Nat} {x y : AOpd} : opv call (evalT ρ) m (.appendf es x y) = appendfOp m es (evalT ρ x) (evalT ρ y) := .trans rfl rfl
theorem opv_appendm {es : Nat} {x y : AOpd} : opv call (evalT ρ) m (.appendm es x y) = appendmOp m es (evalT ρ x) (evalT ρ y) := .trans rfl rfl
theorem opv_copy {x y : AOpd} : opv call (evalT ρ) m (.copy x y) = copyOp m (evalT ρ x) (evalT ρ y) := .trans rfl rfl
theorem opv_buildFz {es : Nat} {row : List AV} {t : Nat} : opv call (evalT ρ) m (.buildFz es row t) = buildFzOp m es row (ρ t) := .trans rfl rfl
theorem opv_append {es : Nat} {x y : AOpd} : opv call (evalT ρ) m (.append es x y) = appendOp m es (evalT ρ x) (evalT ρ y) := .trans rfl rfl
theorem opv_len {b : Bool} {x : AOpd} : opv call (evalT ρ) m (.len b x) = (lenOp b (evalT ρ x)).map (·, m) := .trans rfl rfl
theorem opv_lenArr {n : Nat} : opv call (evalT ρ) m (.lenArr n) = some (.v (.int .i64 n), m) := .trans rfl rfl
theorem opv_minmax {mx : Bool} {xs : List AOpd} : opv call (evalT ρ) m (.minmax mx xs) = (minmaxOp mx (xs.map (evalT ρ))).map (·, m) := .trans rfl rfl
theorem doCall_f {t : Target} {as : List AV} : doCall call false m t as = call t as m := .trans rfl rfl
def roS (m : Sig) : Sig := { m with ro := m.acts.length, lro := m.loops.length }
theorem ok_roS : Ok (roS m) := ⟨Nat.le_refl _, Nat.le_refl _⟩
theorem doCall_t {t : Target} {as : List AV} : doCall call true m t as = (call t as (roS m)).map fun p => (p.1, m) := .trans rfl rfl
theorem callv_fn {f : FuncId} {a b as : List AV} {ro : Bool} : callvOp call ro m (.fn f a b) as = doCall call ro m (.fn f) (a ++ as ++ b) := .trans rfl rfl
theorem callv_yield {l : Nat} {as : List AV} {ro : Bool} : callvOp call ro m (.yield l) as = doCall call ro m (.yield l) as := .trans rfl rfl
theorem pick_b {c : Bool} {a b : AV} : pickOp (.v (.bool c)) a b = some (cond c a b) := by cases c <;> rfl
theorem newBox_push {r : Rec} {cs : List AV} : (s.push r).newBox cs = (.ptr s.acts.length r.boxes.length 0, s.push ⟨r.boxes ++ [cs], r.toks⟩) := by
 rw [Sig.newBox, cur_push, nbox_push, addBox_push]
def fitN : Nat → List AV → Bool
 | 0, [] => true
 | n + 1, x :: r => x.isCell && fitN n r
 | _, _ => false
theorem fitN_iff : ∀ {n : Nat} {l : List AV}, fitN n l = true ↔ l.length = n ∧ l.all AV.isCell = true
 | 0, [] => by simp [fitN]
 | 0, _ :: _ => by simp [fitN]
 | n + 1, [] => by simp [fitN]
 | n + 1, x :: r => by simp only [fitN, Bool.and_eq_true, fitN_iff (n := n) (l := r), List.length_cons, List.all_cons]; constructor <;> (rintro ⟨h1, h2, h3⟩; exact ⟨by omega, by simp_all⟩)
theorem boxOp_eq {n : Nat} {y : AV} : boxOp m (n + 1) y = cond (fitN (n + 1) y.cells) (some (m.newBox y.cells)) none := by
 unfold boxOp
 cases h : fitN (n + 1) y.cells with
 | true => rw [if_pos ⟨(fitN_iff.1 h).1, (fitN_iff.1 h).2, Nat.succ_pos n⟩]; rfl
 | false => rw [if_neg (fun e => by rw [fitN_iff.2 ⟨e.1, e.2.1⟩] at h; cases h)]; rfl
theorem reserve_push {r : Rec} {n : Nat} : (s.push r).reserve n = s.push ⟨r.boxes ++ List.replicate n [], r.toks⟩ := by
 rw [Sig.reserve, cur_push, onRec_push]
def slotL (bs : List (List AV)) (tk : List (Option Nat)) (back : Nat) (zs : List AV) : Option (Nat × List (List AV)) :=
 if (tk.any Option.isNone && !(back == 1)) = true then none else
 match bs[bs.length - back]? with
 | some [] => if zs.isEmpty then none else some (bs.length - back, bs.set (bs.length - back) zs)
 | _ => none
theorem noneTok_push (s : Sig) (r : Rec) : (s.push r).noneTok s.acts.length = r.toks.any Option.isNone := by simp [Sig.push, Sig.noneTok]
theorem slotOp_eq {r : Rec} {back : Nat} {zs : List AV} : slotOp (s.push r) back zs = (slotL r.boxes r.toks back zs).map fun p => (.ptr s.acts.length p.1 0, s.push ⟨p.2, r.toks⟩) := by
 obtain ⟨bs, tk⟩ := r
 unfold slotOp slotL
 simp only [cur_push, nbox_push, box_push, setBox_push, noneTok_push]
 by_cases hq : (tk.any Option.isNone && !(back == 1)) = true
 ·have hq2 : tk.any Option.isNone = true ∧ back ≠ 1 := by simpa using hq
  rw [if_pos hq]
  split
  ·rw [if_pos (.inr hq2)]; rfl
  ·rfl
 ·have hq2 : ¬ (tk.any Option.isNone = true ∧ back ≠ 1) := fun e => hq (by simpa using e)
  rw [if_neg hq]
  simp only [hq2, or_false]
  split
  ·rename_i h; rw [h]; simp only; split <;> rfl
  ·rename_i h
   split
   ·rename_i h'; exact absurd h' (by simpa using h)
   ·rfl
theorem load_any {g : Bool} {n d b off : Nat} : m.load g n (.ptr d b off) = (m.box d b).bind fun cs => part g n cs off := by
 simp only [Sig.load, Sig.row]
 cases m.box d b <;> rfl
theorem box_keep {d b : Nat} {cs : List AV} (h : m.box d b = some cs) (r : Rec) : (m.push r).box d b = some cs := by
 simp only [Sig.box, Sig.push] at h ⊢
 rw [List.getElem?_append_left]
 ·exact h
 ·apply Classical.byContradiction
  intro hn
  rw [List.getElem?_eq_none (by omega)] at h
  cases h
theorem load_eptr {g : Bool} {n off : Nat} {cs : List AV} : m.load g n (.eptr cs off) = part g n cs off := rfl
theorem part_f {n off : Nat} {cs : List AV} : part false n cs off = cs[off]? := rfl
def cutN : Nat → Nat → List AV → Option (List AV)
 | 0, 0, _ => some []
 | 0, n + 1, x :: r => (cutN 0 n r).map (x :: ·)
 | off + 1, n, _ :: r => cutN off n r
 | _, _, [] => none
theorem cutN_eq : ∀ (off n : Nat) (cs : List AV), cutN off n cs = if off + n ≤ cs.length then some ((cs.drop off).take n) else none
 | 0, 0, _ => by simp [cutN]
 | 0, n + 1, [] => by simp [cutN]
 | 0, n + 1, x :: r => by
  have := cutN_eq 0 n r
  simp only [cutN, this, List.drop_zero, List.length_cons, List.take_succ_cons, Nat.zero_add]
  by_cases h : n ≤ r.length
  ·rw [if_pos h, if_pos (by omega)]; rfl
  ·rw [if_neg h, if_neg (by omega)]; rfl
 | off + 1, n, [] => by simp [cutN]
 | off + 1, n, x :: r => by
  have := cutN_eq off n r
  simp only [cutN, this, List.length_cons, List.drop_succ_cons]
  by_cases h : off + n ≤ r.length
  ·rw [if_pos h, if_pos (by omega)]
  ·rw [if_neg h, if_neg (by omega)]
theorem part_t {n off : Nat} {cs : List AV} : part true n cs off = (cutN off n cs).map .agg := by
 rw [cutN_eq]; unfold part; by_cases h : off + n ≤ cs.length <;> simp [h]
def overN : List AV → Nat → List AV → Option (List AV)
 | row, 0, [] => some row
 | _ :: row, 0, c :: cs => (overN row 0 cs).map (c :: ·)
 | x :: row, off + 1, cs => (overN row off cs).map (x :: ·)
 | [], _, _ => none
theorem setCells_cons (x : AV) : ∀ (cs : List AV) (row : List AV) (off : Nat), setCells (x :: row) (off + 1) cs = x :: setCells row off cs
 | [], _, _ => rfl
 | c :: cs, row, off => by simp only [setCells, List.set_cons_succ]; exact setCells_cons x cs _ _
theorem overN_eq : ∀ (row : List AV) (off : Nat) (cs : List AV), overN row off cs = if off + cs.length ≤ row.length then some (setCells row off cs) else none
 | row, 0, [] => by simp [overN, setCells]
 | [], 0, c :: cs => by simp [overN]
 | x :: row, 0, c :: cs => by
  simp only [overN, overN_eq row 0 cs, setCells, List.set_cons_zero, List.length_cons, Nat.zero_add]
  by_cases h : cs.length ≤ row.length
  ·rw [if_pos h, if_pos (by omega)]; simp [setCells_cons c cs row 0]
  ·rw [if_neg h, if_neg (by omega)]; rfl
 | [], off + 1, cs => by simp [overN]
 | x :: row, off + 1, cs => by
  simp only [overN, overN_eq row off cs, List.length_cons, setCells_cons]
  by_cases h : off + cs.length ≤ row.length
  ·rw [if_pos h, if_pos (by omega)]; rfl
  ·rw [if_neg h, if_neg (by omega)]; rfl
theorem ro_le {r : Rec} (h : Ok s) : (s.push r).ro ≤ s.acts.length := h.ro
theorem store_ptr {r : Rec} {n b off : Nat} {y : AV} (h : Ok s) :
  (s.push r).store n (.ptr s.acts.length b off) y = cond (fitN n y.cells) (((r.boxes[b]?).bind fun row => overN row off y.cells).map fun row => s.push ⟨r.boxes.set b row, r.toks⟩) none := by
 cases hy : fitN n y.cells with
 | false =>
  have : ¬ (y.cells.length = n ∧ y.cells.all AV.isCell = true) := fun e => by rw [fitN_iff.2 e] at hy; cases hy
  simp only [Sig.store, cond_false]
  rw [if_neg (fun e => this e.2)]
 | true =>
  have hy := fitN_iff.1 hy
  simp only [Sig.store, cond_true]
  rw [if_pos ⟨ro_le h, hy.1, hy.2⟩, cur_push, if_pos rfl]
  simp only [box_push]
  cases r.boxes[b]? with
  | none => rfl
  | some row =>
   simp only [Option.bind_some, overN_eq, hy.1]
   by_cases hq : off + n ≤ row.length
   ·simp only [if_pos hq, setBox_push, Option.map_some]
   ·simp only [if_neg hq, Option.map_none]
theorem fillRow_eq {cs : List AV} {off size : Nat} {x : AV} : fillRow cs off size x = cond (fitN size x.cells) (overN cs off x.cells) none := by
 unfold fillRow
 cases h : fitN size x.cells with
 | true =>
  have := fitN_iff.1 h
  rw [cond_true, overN_eq, this.1]
  by_cases hq : off + size ≤ cs.length
  ·rw [if_pos ⟨rfl, hq, this.2⟩, if_pos hq]
  ·rw [if_neg (fun e => hq e.2.1), if_neg hq]
 | false => rw [if_neg (fun e => by rw [fitN_iff.2 ⟨e.1, e.2.2⟩] at h; cases h)]; rfl
theorem buildCells_nil {cs : List AV} {f : AOpd → AV} : buildCells cs f [] = some cs := rfl
theorem buildCells_cons {cs : List AV} {f : AOpd → AV} {off size : Nat} {x : AOpd} {r : List (Nat × Nat × AOpd)} : buildCells cs f ((off, size, x) :: r) = (cond (fitN size (f x).cells) (overN cs off (f x).cells) none).bind fun cs' => buildCells cs' f r := by
 rw [← fillRow_eq]; simp only [buildCells]; cases fillRow cs off size (f x) <;> rfl
theorem buildRows_nil {rows : List (List AV)} {f : AOpd → AV} : buildRows rows f [] = some rows := rfl
def sameLen : List AV → List AV → Bool
 | [], [] => true
 | _ :: a, _ :: b => sameLen a b
 | _, _ => false
theorem sameLen_eq : ∀ (a b : List AV), sameLen a b = decide (a.length = b.length)
 | [], [] => rfl
 | [], _ :: _ => rfl
 | _ :: _, [] => rfl
 | _ :: a, _ :: b => by simp [sameLen, sameLen_eq a b]
theorem buildRows_cons {rows : List (List AV)} {f : AOpd → AV} {i : Nat} {x : AOpd} {r : List (Nat × AOpd)} : buildRows rows f ((i, x) :: r) = (rows[i]?).bind fun row => (closeAll (f x).cells).bind fun cs => cond (sameLen cs row) (buildRows (rows.set i cs) f r) none := by
 simp only [buildRows, sameLen_eq]
 cases rows[i]? with
 | none => rfl
 | some row => cases closeAll (f x).cells with
  | none => rfl
  | some cs => by_cases h : cs.length = row.length <;> simp [h]
theorem closeAll_nil : closeAll [] = some [] := rfl
theorem closeAll_cons {x : AV} {r : List AV} : closeAll (x :: r) = x.close.bind fun y => (closeAll r).map fun s => y :: s := by
 simp only [closeAll]; cases x.close <;> cases closeAll r <;> rfl
theorem close_int {k : IntKind} {n : Int} : AV.close (.v (.int k n)) = some (.v (.int k n)) := rfl
theorem close_bool {b : Bool} : AV.close (.v (.bool b)) = some (.v (.bool b)) := rfl
theorem close_str {b : ByteArray} : AV.close (.v (.string b)) = some (.v (.string b)) := rfl
theorem close_nilS {es : Nat} {xs : List (List AV)} : AV.close (.slice .nilS es xs) = some (.slice .nilS es xs) := rfl
theorem close_any {es : Nat} {xs : List (List AV)} : AV.close (.slice .any es xs) = some (.slice .any es xs) := rfl
theorem close_full {es : Nat} {xs : List (List AV)} : AV.close (.slice .full es xs) = some (.slice .full es xs) := rfl
theorem close_tok {d g es : Nat} {xs : List (List AV)} : AV.close (.slice (.tok d g) es xs) = some (.slice .any es xs) := rfl
theorem ptrAdd_p {off d b o : Nat} : ptrAdd off (.ptr d b o) = some (.ptr d b (o + off)) := rfl
theorem ptrAdd_e {off o : Nat} {cs : List AV} : ptrAdd off (.eptr cs o) = some (.eptr cs (o + off)) := rfl
end
end Go.Ax.Sx

/-
  The rules to compute with, as one set.
-/
namespace Go.Ax.Sx
attribute [go_sem ↓] cond_true cond_false go_skip go_exit go_ret go_blk go_lp go_region go_seq go_block goO_nil goO_step goO_ent ent_yT ent_yF ent_nT ent_nF goO_guardTn goO_guardFn goX_c goX_lp goX_blk
attribute [go_sem] go_nil goX_nil go_cond goV_t goV_n goV_none goV_cond onBool_mk
attribute [go_sem ↓ low] ent_K
attribute [go_sem high] goK_offT goK_offF
attribute [go_sem] pushK_mk pushK_undef goK_guard goK_none goK_nod goK_nod1 goK_nil goKS_1 goKS_2 goKV_same puts undefs muxs hasW_nil hasW_cons lookW_cons okF_1 okF_2 okP_1 okP_2 actT_nil actT_cons
attribute [go_sem low] goKV_other
attribute [congr] pushK_congr goK_congr goKV_congr goKS_congr onBool_congr goV_congr goO_congr go_congr
attribute [go_sem ↓] evalT_tmp evalT_const put_lit argsT_0 argsT_s
attribute [go_sem ↓] opv_move opv_pick opv_alloc opv_reserve opv_slot opv_loadr opv_loadd opv_fill opv_box opv_build opv_buildSlice opv_load opv_store opv_nilCheck opv_arith opv_eqv opv_un opv_conv opv_mkIface opv_mkFn opv_mkSlice opv_mkSlicem opv_slice opv_fieldAddr opv_indexAddr opv_indexStr opv_index opv_field opv_extract opv_call opv_fcall opv_calli opv_calln opv_callo opv_callv opv_append opv_appendm opv_appendf opv_copy opv_buildFz opv_len opv_lenArr opv_minmax
attribute [go_sem] doCall_t ok_roS Ok.push doCall_f callv_fn callv_yield pick_b newBox_push reserve_push slotOp_eq load_any box_push load_eptr part_f part_t store_ptr fitN cutN overN ptrAdd_p ptrAdd_e boxOp_eq
section
variable {a b : Int} {c d : Bool}
theorem ar_add : arithOp .add (.v (.int .i64 a)) (.v (.int .i64 b)) = some (.v (.int .i64 (IntKind.i64.wrap (a + b)))) := rfl
theorem ar_sub : arithOp .sub (.v (.int .i64 a)) (.v (.int .i64 b)) = some (.v (.int .i64 (IntKind.i64.wrap (a - b)))) := rfl
theorem ar_mul : arithOp .mul (.v (.int .i64 a)) (.v (.int .i64 b)) = some (.v (.int .i64 (IntKind.i64.wrap (a * b)))) := rfl
theorem ar_quo (h : (b == 0) = false) : arithOp .quo (.v (.int .i64 a)) (.v (.int .i64 b)) = some (.v (.int .i64 (IntKind.i64.wrap (a.tdiv b)))) := by
 have : b ≠ 0 := by simpa using h
 simp [arithOp, isShift, intOp, this]
theorem ar_rem (h : (b == 0) = false) : arithOp .rem (.v (.int .i64 a)) (.v (.int .i64 b)) = some (.v (.int .i64 (a.tmod b))) := by
 have : b ≠ 0 := by simpa using h
 simp [arithOp, isShift, intOp, this]
theorem ar_eql : arithOp .eql (.v (.int .i64 a)) (.v (.int .i64 b)) = some (.v (.bool (decide (a = b)))) := by
 simp only [arithOp, isShift, intOp]; by_cases h : a = b <;> simp [h]
theorem ar_neq : arithOp .neq (.v (.int .i64 a)) (.v (.int .i64 b)) = some (.v (.bool (decide (a ≠ b)))) := by
 simp only [arithOp, isShift, intOp]; by_cases h : a = b <;> simp [h]
theorem ar_lss : arithOp .lss (.v (.int .i64 a)) (.v (.int .i64 b)) = some (.v (.bool (decide (a < b)))) := rfl
theorem ar_leq : arithOp .leq (.v (.int .i64 a)) (.v (.int .i64 b)) = some (.v (.bool (decide (a ≤ b)))) := rfl
theorem ar_gtr : arithOp .gtr (.v (.int .i64 a)) (.v (.int .i64 b)) = some (.v (.bool (decide (b < a)))) := rfl
theorem ar_geq : arithOp .geq (.v (.int .i64 a)) (.v (.int .i64 b)) = some (.v (.bool (decide (b ≤ a)))) := rfl
theorem un_not : unOp .not (.v (.bool c)) = some (.v (.bool !c)) := rfl
theorem un_neg : unOp .neg (.v (.int .i64 a)) = some (.v (.int .i64 (IntKind.i64.wrap (-a)))) := by simp [unOp]
theorem mm_max : minmaxOp true [.v (.int .i64 a), .v (.int .i64 b)] = some (.v (.int .i64 (max a b))) := by
 have : (if b > a then b else a) = max a b := by split <;> omega
 simp only [minmaxOp, maxFold, maxOp, if_true, this]
theorem mm_min : minmaxOp false [.v (.int .i64 a), .v (.int .i64 b)] = some (.v (.int .i64 (min a b))) := by
 have : (if b < a then b else a) = min a b := by split <;> omega
 simp [minmaxOp, maxFold, maxOp, this]
theorem cv_int {k k' : IntKind} : convOp (.int k) (.v (.int k' a)) = some (.v (.int k (k.wrap a))) := rfl
theorem ar_shr1 : arithOp .shr (.v (.int .u64 a)) (.v (.int .u64 1)) = some (.v (.int .u64 (a / 2))) := by
 have : a.fdiv 2 = a / 2 := by rw [Int.fdiv_eq_ediv_of_nonneg _ (by decide)]
 simp [arithOp, isShift, shiftOp, IntKind.bits, this]
theorem mm_max3 {c' : Int} : minmaxOp true [.v (.int .i64 a), .v (.int .i64 b), .v (.int .i64 c')] = some (.v (.int .i64 (max (max a b) c'))) := by
 have h1 : (if b > a then b else a) = max a b := by split <;> omega
 have h2 : (if c' > max a b then c' else max a b) = max (max a b) c' := by split <;> omega
 simp only [minmaxOp, maxFold, maxOp, if_true, h1, h2]
theorem ext_0 {x : AV} {r : List AV} : extractOp 0 (.tuple (x :: r)) = some x := rfl
theorem ext_1 {x y : AV} {r : List AV} : extractOp 1 (.tuple (x :: y :: r)) = some y := rfl
theorem ext_2 {x y z : AV} {r : List AV} : extractOp 2 (.tuple (x :: y :: z :: r)) = some z := rfl
theorem len_sl {o : Own} {es : Nat} {xs : List (List AV)} : lenOp false (.slice o es xs) = some (.v (.int .i64 xs.length)) := rfl
theorem len_str {x : ByteArray} : lenOp true (.v (.string x)) = some (.v (.int .i64 x.size)) := rfl
theorem finF_n {rs : List ARes} {own : Bool} {st : St} : finF rs own .normal st = finish rs own st := rfl
theorem finF_r {rs : List ARes} {own : Bool} {st : St} : finF rs own .ret st = finish rs own st := rfl
theorem finish_f {rs : List ARes} {st : St} : finish rs false st = (resultsOf st rs).map fun l => (packed l, st.sig.pop) := rfl
theorem results_nil {st : St} : resultsOf st [] = some [] := rfl
theorem results_cons {st : St} {r : ARes} {rest : List ARes} : resultsOf st (r :: rest) = (((resultRaw st r).bind (leaveVal st.sig)).bind fun x => (resultsOf st rest).map fun s => x :: s) := by
 simp only [resultsOf]
 cases (resultRaw st r).bind (leaveVal st.sig) <;> cases resultsOf st rest <;> rfl
theorem raw_tmp {ρ : Nat → AV} {m : Sig} {t : Nat} : resultRaw ⟨ρ, m⟩ (.tmp t) = some (ρ t) := rfl
theorem raw_cell {ρ : Nat → AV} {m : Sig} {g : Bool} {n t : Nat} : resultRaw ⟨ρ, m⟩ (.cell g n t) = m.load g n (ρ t) := rfl
theorem packed_0 : packed [] = .tuple [] := rfl
theorem packed_1 {x : AV} : packed [x] = x := rfl
theorem packed_2 {x y : AV} {r : List AV} : packed (x :: y :: r) = .tuple (x :: y :: r) := rfl
section
variable {m : Sig} {x : Value} {cs : List AV}
theorem leave_int {k : IntKind} {n : Int} : leaveVal m (.v (.int k n)) = some (.v (.int k n)) := rfl
theorem leave_bool {b : Bool} : leaveVal m (.v (.bool b)) = some (.v (.bool b)) := rfl
theorem leave_str {b : ByteArray} : leaveVal m (.v (.string b)) = some (.v (.string b)) := rfl
theorem leave_agg : leaveVal m (.agg cs) = (leaveCells m cs).map .agg := rfl
theorem leave_nilS {es : Nat} {xs : List (List AV)} : leaveVal m (.slice .nilS es xs) = some (.slice .nilS es xs) := rfl
theorem leave_any {es : Nat} {xs : List (List AV)} : leaveVal m (.slice .any es xs) = some (.slice .any es xs) := rfl
theorem leave_full {es : Nat} {xs : List (List AV)} : leaveVal m (.slice .full es xs) = some (.slice .full es xs) := rfl
theorem leave_tok {d g es : Nat} {xs : List (List AV)} : leaveVal m (.slice (.tok d g) es xs) = some (.slice .any es xs) := rfl
theorem leaves_nil : leaveCells m [] = some [] := rfl
theorem leaves_cons {x : AV} {r : List AV} : leaveCells m (x :: r) = (leaveCell m x).bind fun y => (leaveCells m r).map fun s => y :: s := by
 simp only [leaveCells]
 cases leaveCell m x <;> cases leaveCells m r <;> rfl
theorem leavec_int {k : IntKind} {n : Int} : leaveCell m (.v (.int k n)) = some (.v (.int k n)) := rfl
theorem leavec_bool {b : Bool} : leaveCell m (.v (.bool b)) = some (.v (.bool b)) := rfl
theorem leavec_str {b : ByteArray} : leaveCell m (.v (.string b)) = some (.v (.string b)) := rfl
theorem leavec_nilS {es : Nat} {xs : List (List AV)} : leaveCell m (.slice .nilS es xs) = some (.slice .nilS es xs) := rfl
theorem leavec_any {es : Nat} {xs : List (List AV)} : leaveCell m (.slice .any es xs) = some (.slice .any es xs) := rfl
theorem leavec_full {es : Nat} {xs : List (List AV)} : leaveCell m (.slice .full es xs) = some (.slice .full es xs) := rfl
theorem leavec_tok {d g es : Nat} {xs : List (List AV)} : leaveCell m (.slice (.tok d g) es xs) = some (.slice .any es xs) := rfl
end
end
attribute [go_sem] cv_int ar_shr1 ar_add ar_sub ar_mul ar_quo ar_rem ar_eql ar_neq ar_lss ar_leq ar_gtr ar_geq un_not un_neg mm_max mm_max3 mm_min ext_0 ext_1 ext_2 len_sl len_str
attribute [go_sem] finF_n finF_r finish_f results_nil results_cons raw_tmp raw_cell packed_0 packed_1 packed_2 leave_int leave_bool leave_str leave_agg leave_nilS leave_any leave_full leave_tok leaves_nil leaves_cons leavec_int leavec_bool leavec_str leavec_nilS leavec_any leavec_full leavec_tok
attribute [go_sem] pop_push Option.map_some Option.bind_some Option.map_none Option.bind_none List.map_cons List.map_nil List.nil_append List.cons_append AV.cells List.length_cons List.length_nil AV.isCell List.all_cons List.all_nil Bool.and_true Bool.true_and List.getElem?_cons_zero List.getElem?_cons_succ List.drop_zero List.drop_succ_cons List.take_succ_cons List.take_zero List.set_cons_zero List.set_cons_succ buildCells_nil buildCells_cons buildRows_nil buildRows_cons sameLen closeAll_nil closeAll_cons close_int close_bool close_str close_nilS close_any close_full close_tok
section
variable {o : Own} {es : Nat} {xs : List (List AV)} {k : Nat} {row : List AV}
theorem ix_sl (h : xs[k]? = some row) : indexAddrOp none es (.slice o es xs) (.v (.int .i64 (k : Int))) = some (.eptr row 0) := by
 have hk : k < xs.length := (List.getElem?_eq_some_iff.1 h).1
 have : (0 : Int) ≤ (k : Int) ∧ (k : Int) < (xs.length : Int) := by omega
 simp only [indexAddrOp, if_true, idx, if_pos this, Option.bind_some, Int.toNat_natCast, h, Option.map_some]
theorem idx_eq {k : IntKind} {n : Int} {len : Nat} : idx (.v (.int k n)) len = if 0 ≤ n ∧ n < len then some n.toNat else none := rfl
theorem indexOp_eq {n es : Nat} {g : Bool} {cs : List AV} {j : AV} : indexOp n es g (.agg cs) j = (idx j n).bind fun k => part g es cs (k * es) := rfl
theorem fieldOp_eq {n off : Nat} {g : Bool} {cs : List AV} : fieldOp g n off (.agg cs) = part g n cs off := rfl
theorem ia_ptr {n d b off es : Nat} {j : AV} : indexAddrOp (some n) es (.ptr d b off) j = (idx j n).map fun k => .ptr d b (off + k * es) := rfl
theorem ia_eptr {n off es : Nat} {cs : List AV} {j : AV} : indexAddrOp (some n) es (.eptr cs off) j = (idx j n).map fun k => .eptr cs (off + k * es) := rfl
theorem wrap_eq (x : Int) : IntKind.i64.wrap x = if 9223372036854775808 ≤ x % 18446744073709551616 then x % 18446744073709551616 - 18446744073709551616 else x % 18446744073709551616 := by
 have e1 : ((2 : Int) ^ (64 : Nat)) = 18446744073709551616 := by decide
 have e2 : ((2 : Int) ^ (64 - 1 : Nat)) = 9223372036854775808 := by decide
 show (if (true && decide (x % (2 : Int) ^ (64 : Nat) ≥ (2 : Int) ^ (64 - 1 : Nat))) = true then x % (2 : Int) ^ (64 : Nat) - (2 : Int) ^ (64 : Nat) else x % (2 : Int) ^ (64 : Nat)) = _
 simp only [e1, e2, Bool.true_and, decide_eq_true_eq, ge_iff_le]
theorem wrap_id {x : Int} (h1 : -9223372036854775808 ≤ x) (h2 : x < 9223372036854775808) : IntKind.i64.wrap x = x := by
 rw [wrap_eq]; split <;> omega
theorem wrap_succ {k n : Nat} (h : k < n) (hn : (n : Int) < 9223372036854775808) : IntKind.i64.wrap ((k : Int) + 1) = ((k + 1 : Nat) : Int) := by
 rw [wrap_id] <;> omega
end
section
variable {c : Bool} {x y z : AV} {a b : Bool} {n k : Int}
theorem cc_l : cond c (cond c x y) z = cond c x z := by cases c <;> rfl
theorem cc_r : cond c x (cond c y z) = cond c x z := by cases c <;> rfl
theorem cc_b : cond c (AV.v (.bool a)) (AV.v (.bool b)) = .v (.bool (cond c a b)) := by cases c <;> rfl
theorem cc_i : cond c (AV.v (.int .i64 n)) (AV.v (.int .i64 k)) = .v (.int .i64 (cond c n k)) := by cases c <;> rfl
theorem cc_f : cond c a false = (c && a) := by cases c <;> simp
theorem cc_t : cond c true a = (c || a) := by cases c <;> simp
end
attribute [go_sem] wrap_id idx_eq indexOp_eq fieldOp_eq ia_ptr ia_eptr and_true true_and and_self Bool.not_true Bool.not_false beq_self_eq_true Bool.cond_self decide_true decide_false cc_l cc_r cc_b cc_i cc_f cc_t
end Go.Ax.Sx

/-
  How plain data look to the executor; loops over slices.
-/
namespace Go.Ax.Sx
abbrev I (n : Int) : AV := .v (.int .i64 n)
abbrev B (b : Bool) : AV := .v (.bool b)
def inI (x : Int) : Prop := -9223372036854775808 ≤ x ∧ x < 9223372036854775808
def ints (l : List Int) : List (List AV) := l.map fun n => [I n]
theorem ints_len {l : List Int} : (ints l).length = l.length := by simp [ints]
theorem ints_get {l : List Int} {k : Nat} {x : Int} (h : l[k]? = some x) : (ints l)[k]? = some [I x] := by simp [ints, h]
section
variable {AP : FuncId → Option AFn} {F : AExit → St → Option (AV × Sig)} {L : ACode} {ks : List K}
theorem loop_up (N : Nat) (P : Nat → (Nat → AV) → Sig → Prop) (R : Nat → Option (AV × Sig))
  (step : ∀ k ρ m, k < N → P k ρ m → (∀ ρ' m', P (k + 1) ρ' m' → go AP F (.c (.loop L) :: ks) ⟨ρ', m'⟩ = R (k + 1)) → go AP F (.c L :: .lp L :: ks) ⟨ρ, m⟩ = R k)
  (last : ∀ ρ m, P N ρ m → go AP F (.c L :: .lp L :: ks) ⟨ρ, m⟩ = R N) :
  ∀ k ρ m, k ≤ N → P k ρ m → go AP F (.c (.loop L) :: ks) ⟨ρ, m⟩ = R k := by
 intro k ρ m hk hP
 induction h : N - k generalizing k ρ m with
 | zero =>
  have e : k = N := by omega
  subst e
  rw [go_loop]; exact last ρ m hP
 | succ n ih =>
  rw [go_loop]
  exact step k ρ m (by omega) hP (fun ρ' m' hP' => ih (k + 1) ρ' m' (by omega) hP' (by omega))
theorem loop_ex (N : Nat) (P : Nat → (Nat → AV) → Sig → Prop) (R : Option (AV × Sig) → Prop)
  (step : ∀ k ρ m, k < N → P k ρ m → (∀ ρ' m', P (k + 1) ρ' m' → R (go AP F (.c (.loop L) :: ks) ⟨ρ', m'⟩)) → R (go AP F (.c L :: .lp L :: ks) ⟨ρ, m⟩))
  (last : ∀ ρ m, P N ρ m → R (go AP F (.c L :: .lp L :: ks) ⟨ρ, m⟩)) :
  ∀ k ρ m, k ≤ N → P k ρ m → R (go AP F (.c (.loop L) :: ks) ⟨ρ, m⟩) := by
 intro k ρ m hk hP
 induction h : N - k generalizing k ρ m with
 | zero =>
  have e : k = N := by omega
  subst e
  rw [go_loop]; exact last ρ m hP
 | succ n ih =>
  rw [go_loop]
  exact step k ρ m (by omega) hP (fun ρ' m' hP' => ih (k + 1) ρ' m' (by omega) hP' (by omega))
theorem drop_get {α : Type} {l : List α} {k : Nat} {x : α} (h : l[k]? = some x) : l.drop k = x :: l.drop (k + 1) := by
 have hk := (List.getElem?_eq_some_iff.1 h).1
 rw [List.drop_eq_getElem_cons hk]; congr 1
 exact (List.getElem?_eq_some_iff.1 h).2
theorem get_some {α : Type} {l : List α} {k : Nat} (h : k < l.length) : ∃ x, l[k]? = some x := ⟨l[k], List.getElem?_eq_getElem h⟩
theorem take_get {α : Type} {l : List α} {k : Nat} {x : α} (h : l[k]? = some x) : l.take (k + 1) = l.take k ++ [x] := by
 rw [List.take_add_one, h]; rfl
theorem lt_dec {k n : Nat} (h : k < n) : decide ((k : Int) < (n : Int)) = true := by simp; omega
theorem ge_dec (n : Nat) : decide ((n : Int) < (n : Int)) = false := by simp
end
section
variable {α : Type} {l r : List α} {x x1 x2 x3 y : α}
theorem at_len : (l ++ x :: r)[l.length]? = some x := by simp
theorem at_len1 : (l ++ x1 :: x :: r)[l.length + 1]? = some x := by simp
theorem at_len2 : (l ++ x1 :: x2 :: x :: r)[l.length + 1 + 1]? = some x := by
 rw [List.getElem?_append_right (by omega)]; simp [show l.length + 1 + 1 - l.length = 2 by omega]
theorem at_len3 : (l ++ x1 :: x2 :: x3 :: x :: r)[l.length + 1 + 1 + 1]? = some x := by
 rw [List.getElem?_append_right (by omega)]; simp [show l.length + 1 + 1 + 1 - l.length = 3 by omega]
theorem set_len : (l ++ x :: r).set l.length y = l ++ y :: r := by simp
theorem set_len1 : (l ++ x1 :: x :: r).set (l.length + 1) y = l ++ x1 :: y :: r := by
 rw [List.set_append_right _ _ (by omega)]; simp
theorem set_len2 : (l ++ x1 :: x2 :: x :: r).set (l.length + 1 + 1) y = l ++ x1 :: x2 :: y :: r := by
 rw [List.set_append_right _ _ (by omega)]; simp [show l.length + 1 + 1 - l.length = 2 by omega]
theorem set_len3 : (l ++ x1 :: x2 :: x3 :: x :: r).set (l.length + 1 + 1 + 1) y = l ++ x1 :: x2 :: x3 :: y :: r := by
 rw [List.set_append_right _ _ (by omega)]; simp [show l.length + 1 + 1 + 1 - l.length = 3 by omega]
theorem len_app : (l ++ [x]).length = l.length + 1 := by simp
theorem len_app2 : (l ++ [x, x1]).length = l.length + 1 + 1 := by simp
theorem len_app3 : (l ++ [x, x1, x2]).length = l.length + 1 + 1 + 1 := by simp
end
attribute [go_sem] at_len at_len1 at_len2 at_len3 set_len set_len1 set_len2 set_len3 len_app len_app2 len_app3 List.append_assoc
def accV (es : Nat) : List (List AV) → AV
 | [] => .slice .nilS 0 []
 | x :: r => .slice .any es (x :: r)
def Acc (d es : Nat) (xs : List (List AV)) (x : AV) (og : Option Nat) (toks : List (Option Nat)) : Prop :=
 match og with
 | none => xs = [] ∧ x = .slice .nilS 0 []
 | some g => xs ≠ [] ∧ x = .slice (.tok d g) es xs ∧ toks[g]? = some (some xs.length)
theorem Acc.start {d es : Nat} {toks : List (Option Nat)} : Acc d es [] (.slice .nilS 0 []) none toks := ⟨rfl, rfl⟩
theorem Acc.append {s : Sig} {es : Nat} {xs : List (List AV)} {x : AV} {og : Option Nat} {toks : List (Option Nat)} (h : Acc s.acts.length es xs x og toks) (hs : Ok s) (o : Own) {ys : List (List AV)} (hy : ys ≠ []) (hl : xs.length + ys.length ≤ 4294967296) :
  ∃ x' og' toks', (∀ boxes, appendOp (s.push ⟨boxes, toks⟩) es x (.slice o es ys) = some (x', s.push ⟨boxes, toks'⟩)) ∧ Acc s.acts.length es (xs ++ ys) x' og' toks' ∧ og' ≠ none ∧
   (∀ es2 xs2 x2 og2, Acc s.acts.length es2 xs2 x2 og2 toks → (og2 ≠ og ∨ og2 = none) → Acc s.acts.length es2 xs2 x2 og2 toks' ∧ og2 ≠ og') := by
 have hy' : ys.isEmpty = false := by cases ys <;> simp_all
 cases og with
 | none =>
  obtain ⟨rfl, rfl⟩ := h
  refine ⟨.slice (.tok s.acts.length toks.length) es ys, some toks.length, toks ++ [some ys.length], fun boxes => ?_, ⟨by simpa using hy, rfl, by simp⟩, by simp, ?_⟩
  ·have : ys.length ≤ 4294967296 := by simpa using hl
   simp [appendOp, hy', Own.isNil, most, this, ntok_push, addTok_push]
  ·intro es2 xs2 x2 og2 h2 _
   cases og2 with
   | none => exact ⟨h2, by simp⟩
   | some g =>
    obtain ⟨a, b, c⟩ := h2
    have := (List.getElem?_eq_some_iff.1 c).1
    exact ⟨⟨a, b, by rw [List.getElem?_append_left this]; exact c⟩, by simp; omega⟩
 | some g =>
  obtain ⟨hx, rfl, hg⟩ := h
  refine ⟨.slice (.tok s.acts.length g) es (xs ++ ys), some g, toks.set g (some (xs.length + ys.length)), fun boxes => ?_, ⟨by simp [hx], rfl, ?_⟩, by simp, ?_⟩
  ·simp [appendOp, hy', most, hl, tok_push, hg, ro_push, hs.ro, setTok_push]
  ·rw [List.getElem?_set_self (List.getElem?_eq_some_iff.1 hg).1]; simp
  ·intro es2 xs2 x2 og2 h2 hne
   cases og2 with
   | none => exact ⟨h2, by simp⟩
   | some g2 =>
    obtain ⟨a, b, c⟩ := h2
    have hne : g2 ≠ g := by rcases hne with h | h <;> simp_all
    exact ⟨⟨a, b, by rw [List.getElem?_set_ne (fun e => hne e.symm)]; exact c⟩, by simpa using hne⟩
section
variable {d es : Nat} {xs : List (List AV)} {x : AV} {og : Option Nat} {toks : List (Option Nat)}
theorem Acc.leave (h : Acc d es xs x og toks) (m : Sig) : leaveVal m x = some (accV es xs) := by
 cases og with
 | none => obtain ⟨rfl, rfl⟩ := h; rfl
 | some g =>
  obtain ⟨hx, rfl, _⟩ := h
  cases xs with
  | nil => exact absurd rfl hx
  | cons a r => rfl
theorem Acc.leavec (h : Acc d es xs x og toks) (m : Sig) : leaveCell m x = some (accV es xs) := by
 cases og with
 | none => obtain ⟨rfl, rfl⟩ := h; rfl
 | some g =>
  obtain ⟨hx, rfl, _⟩ := h
  cases xs with
  | nil => exact absurd rfl hx
  | cons a r => rfl
theorem Acc.close (h : Acc d es xs x og toks) : x.close = some (accV es xs) := by
 cases og with
 | none => obtain ⟨rfl, rfl⟩ := h; rfl
 | some g =>
  obtain ⟨hx, rfl, _⟩ := h
  cases xs with
  | nil => exact absurd rfl hx
  | cons a r => rfl
theorem Acc.len (h : Acc d es xs x og toks) : lenOp false x = some (.v (.int .i64 xs.length)) := by
 cases og with
 | none => obtain ⟨rfl, rfl⟩ := h; rfl
 | some g => obtain ⟨hx, rfl, _⟩ := h; rfl
theorem Acc.isCell (h : Acc d es xs x og toks) : x.isCell = true := by
 cases og with
 | none => obtain ⟨rfl, rfl⟩ := h; rfl
 | some g => obtain ⟨hx, rfl, _⟩ := h; rfl
end
def copyO : List (List AV) → Own
 | [] => .full
 | _ :: _ => .any
def AccF (d es : Nat) (xs : List (List AV)) (x : AV) (og : Option Nat) (toks : List (Option Nat)) : Prop :=
 match og with
 | none => xs = [] ∧ x = .slice .full es []
 | some g => xs ≠ [] ∧ x = .slice (.tok d g) es xs ∧ toks[g]? = some (some xs.length)
theorem AccF.start {d es : Nat} {toks : List (Option Nat)} : AccF d es [] (.slice .full es []) none toks := ⟨rfl, rfl⟩
theorem AccF.append {s : Sig} {es : Nat} {xs : List (List AV)} {x : AV} {og : Option Nat} {toks : List (Option Nat)} (h : AccF s.acts.length es xs x og toks) (hs : Ok s) (o : Own) {ys : List (List AV)} (hy : ys ≠ []) (hl : xs.length + ys.length ≤ 4294967296) :
  ∃ x' og' toks', (∀ boxes, appendOp (s.push ⟨boxes, toks⟩) es x (.slice o es ys) = some (x', s.push ⟨boxes, toks'⟩)) ∧ AccF s.acts.length es (xs ++ ys) x' og' toks' ∧ og' ≠ none ∧
   (∀ es2 xs2 x2 og2, AccF s.acts.length es2 xs2 x2 og2 toks → (og2 ≠ og ∨ og2 = none) → AccF s.acts.length es2 xs2 x2 og2 toks' ∧ og2 ≠ og') := by
 have hy' : ys.isEmpty = false := by cases ys <;> simp_all
 cases og with
 | none =>
  obtain ⟨rfl, rfl⟩ := h
  refine ⟨.slice (.tok s.acts.length toks.length) es ys, some toks.length, toks ++ [some ys.length], fun boxes => ?_, ⟨by simpa using hy, rfl, by simp⟩, by simp, ?_⟩
  ·have : ys.length ≤ 4294967296 := by simpa using hl
   simp [appendOp, hy', Own.isNil, most, this, ntok_push, addTok_push]
  ·intro es2 xs2 x2 og2 h2 _
   cases og2 with
   | none => exact ⟨h2, by simp⟩
   | some g =>
    obtain ⟨a, b, c⟩ := h2
    have := (List.getElem?_eq_some_iff.1 c).1
    exact ⟨⟨a, b, by rw [List.getElem?_append_left this]; exact c⟩, by simp; omega⟩
 | some g =>
  obtain ⟨hx, rfl, hg⟩ := h
  refine ⟨.slice (.tok s.acts.length g) es (xs ++ ys), some g, toks.set g (some (xs.length + ys.length)), fun boxes => ?_, ⟨by simp [hx], rfl, ?_⟩, by simp, ?_⟩
  ·simp [appendOp, hy', most, hl, tok_push, hg, ro_push, hs.ro, setTok_push]
  ·rw [List.getElem?_set_self (List.getElem?_eq_some_iff.1 hg).1]; simp
  ·intro es2 xs2 x2 og2 h2 hne
   cases og2 with
   | none => exact ⟨h2, by simp⟩
   | some g2 =>
    obtain ⟨a, b, c⟩ := h2
    have hne : g2 ≠ g := by rcases hne with h | h <;> simp_all
    exact ⟨⟨a, b, by rw [List.getElem?_set_ne (fun e => hne e.symm)]; exact c⟩, by simpa using hne⟩
theorem AccF.leave {d es : Nat} {xs : List (List AV)} {x : AV} {og : Option Nat} {toks : List (Option Nat)} (h : AccF d es xs x og toks) (m : Sig) : leaveVal m x = some (.slice (copyO xs) es xs) := by
 cases og with
 | none => obtain ⟨rfl, rfl⟩ := h; rfl
 | some g =>
  obtain ⟨hx, rfl, _⟩ := h
  cases xs with
  | nil => exact absurd rfl hx
  | cons a r => rfl
theorem copy_app {s : Sig} {r : Rec} {es : Nat} {x : AV} {xs : List (List AV)} {o : Own} (hx : x = .slice o es xs) (hl : xs.length ≤ 4294967296) :
  ∃ x' t', appendOp (s.push r) es (.slice .full es []) x = some (x', s.push ⟨r.boxes, t'⟩) ∧ ∀ m, leaveVal m x' = some (.slice (copyO xs) es xs) := by
 subst hx
 cases xs with
 | nil => exact ⟨.slice .full es [], r.toks, by simp [appendOp], fun m => rfl⟩
 | cons a l =>
  refine ⟨.slice (.tok s.acts.length r.toks.length) es (a :: l), r.toks ++ [some (l.length + 1)], ?_, fun m => rfl⟩
  have hl' : l.length + 1 ≤ 4294967296 := by simpa using hl
  simp [appendOp, Own.isNil, most, hl', ntok_push, addTok_push]
theorem len_acc {es : Nat} {xs : List (List AV)} : lenOp false (accV es xs) = some (.v (.int .i64 xs.length)) := by cases xs <;> rfl
theorem leave_acc {es : Nat} {xs : List (List AV)} {m : Sig} : leaveVal m (accV es xs) = some (accV es xs) := by cases xs <;> rfl
theorem leavec_acc {es : Nat} {xs : List (List AV)} {m : Sig} : leaveCell m (accV es xs) = some (accV es xs) := by cases xs <;> rfl
theorem close_acc {es : Nat} {xs : List (List AV)} : (accV es xs).close = some (accV es xs) := by cases xs <;> rfl
theorem isCell_acc {es : Nat} {xs : List (List AV)} : (accV es xs).isCell = true := by cases xs <;> rfl
theorem cells_acc {es : Nat} {xs : List (List AV)} : (accV es xs).cells = [accV es xs] := by cases xs <;> rfl
attribute [go_sem] len_acc leave_acc leavec_acc close_acc isCell_acc cells_acc
def firstErr : List Int → Int
 | [] => 0
 | e :: r => if e = 0 then firstErr r else e
end Go.Ax.Sx

/-
  Loops over functions: the rounds.
-/
namespace Go.Ax.Sx
section
variable {AP : FuncId → Option AFn} {Fin : AExit → St → Option (AV × Sig)} {ks : List K} {ρ : Nat → AV} {m S : Sig} {l : Nat} {lp : ALoop}
noncomputable def goL (AP : FuncId → Option AFn) (Fin : AExit → St → Option (AV × Sig)) (l : Nat) (ks : List K) (ρ : Nat → AV) (s : Sig) : Option (AV × Sig) :=
 (leaveLoop s l).bind fun p => goE AP Fin ks (p.1.getD .normal) ⟨ρ, p.2⟩
theorem go_range {x : AOpd} {ps : List Nat} {a b : ACode} {g : FuncId} {first caps : List AV} (h : evalT ρ x = .fn g first caps) :
  go AP Fin (.c (.rangeFunc x ps a b) :: ks) ⟨ρ, m⟩ = (callL AP (.fn g) (first ++ .yield m.loops.length :: caps) (enterLoop m ⟨true, none, ρ, ps, a, b⟩)).bind fun p => goL AP Fin m.loops.length ks ρ p.2 := by
 simp only [go, goE, runL_rangeFunc, h, goL]
 cases callL AP (.fn g) (first ++ .yield m.loops.length :: caps) (enterLoop m ⟨true, none, ρ, ps, a, b⟩) with
 | none => rfl
 | some p =>
  obtain ⟨x, s⟩ := p
  simp only [Option.bind_some]
  cases leaveLoop s m.loops.length with
  | none => rfl
  | some q => rfl
theorem leave_enter (h : m.loops.length = l) (hr : lp.ready = true ∨ lp.pend.isSome = true) : leaveLoop (enterLoop m lp) l = some (lp.pend, m) := by
 subst h
 have : (lp.ready = true ∨ lp.pend.isSome = true) := hr
 simp [leaveLoop, enterLoop, this]
theorem goL_normal (h : m.loops.length = l) (hr : lp.ready = true) (hp : lp.pend = none) : goL AP Fin l ks ρ (enterLoop m lp) = go AP Fin ks ⟨ρ, m⟩ := by
 rw [goL, leave_enter h (.inl hr), hp]; rfl
structure Ready (l : Nat) (lp : ALoop) (S : Sig) : Prop where
 get : S.loops[l]? = some lp
 ready : lp.ready = true
 pend : lp.pend = none
 lro : S.lro ≤ l
def busy (l : Nat) (S : Sig) : Sig := setLoop S l fun p => { p with ready := false }
def over (l : Nat) (e : AExit) (S : Sig) : Sig := setLoop S l fun p => { p with ready := false, pend := some e }
theorem busy_box {d b : Nat} : (busy l S).box d b = S.box d b := rfl
theorem Ok.busy (h : Ok S) : Ok (busy l S) := ⟨h.ro, by have := h.lro; simp [Sx.busy, setLoop]; exact this⟩
theorem Ok.over {e : AExit} (h : Ok S) : Ok (over l e S) := ⟨h.ro, by have := h.lro; simp [Sx.over, setLoop]; exact this⟩
theorem Ok.enter (h : Ok S) : Ok (enterLoop S lp) := ⟨h.ro, by have := h.lro; simp [enterLoop]; omega⟩
theorem enter_box {d b : Nat} : (enterLoop S lp).box d b = S.box d b := rfl
theorem setLoop_push {r : Rec} {f : ALoop → ALoop} : setLoop (S.push r) l f = (setLoop S l f).push r := rfl
theorem enter_ready {ρ : Nat → AV} {ps : List Nat} {a b : ACode} (h : Ok m) : Ready m.loops.length ⟨true, none, ρ, ps, a, b⟩ (enterLoop m ⟨true, none, ρ, ps, a, b⟩) := ⟨by simp [enterLoop], rfl, rfl, h.lro⟩
theorem Ready.push (h : Ready l lp S) (r : Rec) : Ready l lp (S.push r) := ⟨h.get, h.ready, h.pend, h.lro⟩
theorem busy_back (h : Ready l lp S) : setLoop (busy l S) l (fun p => { p with ready := true, pend := none }) = S := by
 have e : (S.loops.modify l fun p => { p with ready := false }).modify l (fun p => { p with ready := true, pend := none }) = S.loops := by
  apply List.ext_getElem?
  intro i
  simp only [List.getElem?_modify]
  by_cases hi : l = i
  ·subst hi
   have := h.get
   rw [this]
   obtain ⟨a, b, c, d, f, g⟩ := lp
   have h1 := h.ready
   have h2 := h.pend
   simp at h1 h2
   simp [h1, h2]
  ·simp [hi]
 simp only [busy, setLoop, e]
noncomputable def finA (AP : FuncId → Option AFn) (l : Nat) (body : ACode) (e : AExit) (st : St) : Option (AV × Sig) :=
 match e with
 | .normal => if loopReady st.sig l = true then go AP (finR l) [.c body] ⟨st.tmps, busy l st.sig⟩ else none
 | _ => none
theorem go_finR {body : ACode} {st : St} : go AP (finR l) [.c body] st = endRound l (runL AP body st) := by
 simp only [go, goE, finR]
 cases runL AP body st with
 | none => rfl
 | some p => rfl
theorem callL_round {as : List AV} (h : Ready l lp S) (hl : as.length = lp.params.length) :
  callL AP (.yield l) as S = go AP (finA AP l lp.body) [.c lp.assign] ⟨setParams lp.tmps lp.params as, S.push ⟨[], []⟩⟩ := by
 rw [callL_yield, h.get]
 simp only
 rw [if_pos ⟨h.ready, h.lro, hl⟩]
 simp only [go, goE, finA]
 cases runL AP lp.assign ⟨setParams lp.tmps lp.params as, S.push ⟨[], []⟩⟩ with
 | none => rfl
 | some p =>
  obtain ⟨e, st⟩ := p
  cases e with
  | normal =>
   simp only [Option.bind_some]
   have := go_finR (AP := AP) (l := l) (body := lp.body) (st := ⟨st.tmps, busy l st.sig⟩)
   simp only [go, goE] at this
   rw [this]; rfl
  | exit j => rfl
  | ret => rfl
theorem finA_n {body : ACode} {r : Rec} (h : Ready l lp S) : finA AP l body .normal ⟨ρ, S.push r⟩ = go AP (finR l) [.c body] ⟨ρ, (busy l S).push r⟩ := by
 have : loopReady (S.push r) l = true := by
  simp only [loopReady, Sig.push, h.get, h.ready]
 simp only [finA, this, if_true]; rfl
theorem finR_n {r : Rec} (h : Ready l lp S) : finR l .normal ⟨ρ, (busy l S).push r⟩ = some (.v (.bool true), S) := by
 simp only [finR, endRound, setLoop_push, busy_back h, pop_push]
theorem over_busy {e : AExit} : setLoop (busy l S) l (fun p => { p with ready := false, pend := some e }) = over l e S := by
 have : (S.loops.modify l fun p => { p with ready := false }).modify l (fun p => { p with ready := false, pend := some e }) = S.loops.modify l fun p => { p with ready := false, pend := some e } := by
  apply List.ext_getElem?
  intro i
  simp only [List.getElem?_modify]
  by_cases hi : l = i
  ·cases S.loops[i]? <;> simp [hi]
  ·simp [hi]
 simp only [busy, over, setLoop, this]
theorem finR_r {r : Rec} : finR l .ret ⟨ρ, (busy l S).push r⟩ = some (.v (.bool false), over l .ret S) := by
 simp only [finR, endRound, setLoop_push, over_busy, pop_push]
theorem finR_x {r : Rec} {j : Nat} : finR l (.exit j) ⟨ρ, (busy l S).push r⟩ = some (.v (.bool false), over l (.exit j) S) := by
 simp only [finR, endRound, setLoop_push, over_busy, pop_push]
theorem setParams_1 {p : Nat} {x : AV} : setParams ρ [p] [x] = put p x ρ := rfl
theorem setParams_0 : setParams ρ [] [] = ρ := rfl
end
section
variable {S s : Sig} {r : Rec} {d b l : Nat} {lp : ALoop}
theorem low_self : s.acts.length < (s.push r).acts.length := by simp [Sig.push]
theorem low_push (h : d < S.acts.length) : d < (S.push r).acts.length := by simp [Sig.push]; omega
theorem low_busy (h : d < S.acts.length) : d < (busy l S).acts.length := h
theorem low_enter (h : d < S.acts.length) : d < (enterLoop S lp).acts.length := h
theorem box_low (h : d < S.acts.length) : (S.push r).box d b = S.box d b := by
 simp only [Sig.box, Sig.push]
 rw [List.getElem?_append_left h]
theorem box_busy_top : ((busy l S).push r).box S.acts.length b = r.boxes[b]? := box_push (busy l S) r b
theorem at_app {α : Type} {l r : List α} {k : Nat} : (l ++ r)[l.length + k]? = r[k]? := by
 rw [List.getElem?_append_right (by omega)]; congr 1; omega
theorem set_app {α : Type} {l r : List α} {k : Nat} {y : α} : (l ++ r).set (l.length + k) y = l ++ r.set k y := by
 rw [List.set_append_right _ _ (by omega)]; congr 2; omega
end
attribute [go_sem] set_app
attribute [go_sem] low_self low_push low_busy low_enter box_low box_busy_top at_app List.length_append
attribute [go_sem] busy_box Ok.busy Ok.over Ok.enter enter_box finR_r finR_x setParams_1 setParams_0
end Go.Ax.Sx

/-
  Slices that came in: their cells and who owns them.
-/
namespace Go.Ax.Sx
structure Sl (α : Type) where
 o : Own
 e : Nat
 l : List α
abbrev Sl.v {α : Type} (f : α → List AV) (x : Sl α) : AV := .slice x.o x.e (x.l.map f)
def Sl.ok {α : Type} (n : Nat) (x : Sl α) : Prop := (x.l = [] ∨ x.e = n) ∧ (x.o = .any ∨ x.o = .full ∨ (x.o = .nilS ∧ x.l = []))
section
variable {α : Type} {f : α → List AV} {x : Sl α} {n k : Nat} {a : α} {m : Sig}
theorem ix_map {o : Own} {es : Nat} {l : List α} (hk : l[k]? = some a) : indexAddrOp none es (.slice o es (l.map f)) (.v (.int .i64 (k : Int))) = some (.eptr (f a) 0) := ix_sl (by rw [List.getElem?_map, hk]; rfl)
theorem Sl.ix (h : x.ok n) (hk : x.l[k]? = some a) : indexAddrOp none n (x.v f) (.v (.int .i64 (k : Int))) = some (.eptr (f a) 0) := by
 have he : x.e = n := by
  rcases h.1 with h | h
  ·rw [h] at hk; simp at hk
  ·exact h
 rw [Sl.v, he]
 exact ix_sl (by simp [hk])
theorem Sl.isClosed1 (h : x.ok n) : (x.v f).isClosed1 = true := by
 rcases h.2 with h | h | h <;> simp [Sl.v, AV.isClosed1, h]
theorem Sl.close (h : x.ok n) : (x.v f).close = some (x.v f) := by
 rcases h.2 with h | h | h <;> simp [Sl.v, AV.close, AV.isClosed, AV.isClosed1, h]
theorem Sl.leavec (h : x.ok n) : leaveCell m (x.v f) = some (x.v f) := by
 rcases h.2 with h | h | h <;> simp [Sl.v, leaveCell, AV.close, AV.isClosed, AV.isClosed1, h]
theorem Sl.leave (h : x.ok n) : leaveVal m (x.v f) = some (x.v f) := by
 rw [show leaveVal m (x.v f) = leaveCell m (x.v f) from rfl]; exact Sl.leavec h
end
attribute [go_sem] List.length_map
section
variable {a b : Int} {x y : ByteArray} {k : Nat} {c : UInt8}
theorem ar_lss8 : arithOp .lss (.v (.int .u8 a)) (.v (.int .u8 b)) = some (.v (.bool (decide (a < b)))) := rfl
theorem ar_leq8 : arithOp .leq (.v (.int .u8 a)) (.v (.int .u8 b)) = some (.v (.bool (decide (a ≤ b)))) := rfl
theorem ar_gtr8 : arithOp .gtr (.v (.int .u8 a)) (.v (.int .u8 b)) = some (.v (.bool (decide (b < a)))) := rfl
theorem ar_geq8 : arithOp .geq (.v (.int .u8 a)) (.v (.int .u8 b)) = some (.v (.bool (decide (b ≤ a)))) := rfl
theorem ar_eql8 : arithOp .eql (.v (.int .u8 a)) (.v (.int .u8 b)) = some (.v (.bool (decide (a = b)))) := by
 simp only [arithOp, isShift, intOp]; by_cases h : a = b <;> simp [h]
theorem ar_neq8 : arithOp .neq (.v (.int .u8 a)) (.v (.int .u8 b)) = some (.v (.bool (decide (a ≠ b)))) := by
 simp only [arithOp, isShift, intOp]; by_cases h : a = b <;> simp [h]
theorem ar_eqls : arithOp .eql (.v (.string x)) (.v (.string y)) = some (.v (.bool (decide (x = y)))) := by
 have : strOp .eql x y = some (.bool (decide (x = y))) := by
  simp only [strOp]
  congr 2
  by_cases h : x = y
  ·simp [h]
  ·have : ¬ x.data = y.data := fun e => h (ByteArray.ext e)
   simp [h, this]
 simp [arithOp, this]
theorem ar_neqs : arithOp .neq (.v (.string x)) (.v (.string y)) = some (.v (.bool (decide (x ≠ y)))) := by
 have : strOp .neq x y = some (.bool (decide (x ≠ y))) := by
  simp only [strOp]
  congr 2
  by_cases h : x = y
  ·simp [h]
  ·have : ¬ x.data = y.data := fun e => h (ByteArray.ext e)
   simp [h, this]
 simp [arithOp, this]
theorem cv_bytes : convOp .bytes (.v (.string x)) = some (.slice .any 1 (byteCells x)) := rfl
theorem byteCells_len : (byteCells x).length = x.data.size := by simp [byteCells]
end
attribute [go_sem] ar_lss8 ar_leq8 ar_gtr8 ar_geq8 ar_eql8 ar_neq8 ar_eqls ar_neqs cv_bytes byteCells_len
theorem leave_np {m : Sig} : leaveVal m (.v (.pointer none)) = some (.v (.pointer none)) := rfl
theorem leavec_np {m : Sig} : leaveCell m (.v (.pointer none)) = some (.v (.pointer none)) := rfl
theorem close_np : (AV.v (.pointer none)).close = some (.v (.pointer none)) := rfl
theorem leave_eptr {m : Sig} {cs : List AV} {off : Nat} : leaveVal m (.eptr cs off) = some (.eptr cs off) := rfl
theorem leavec_eptr {m : Sig} {cs : List AV} {off : Nat} : leaveCell m (.eptr cs off) = some (.eptr cs off) := rfl
theorem close_eptr {cs : List AV} {off : Nat} : (AV.eptr cs off).close = some (.eptr cs off) := rfl
theorem leave_ptr {s : Sig} {r : Rec} {b off : Nat} : leaveVal (s.push r) (.ptr s.acts.length b off) = (r.boxes[b]?).bind fun cs => (closeAll cs).map fun cs' => .eptr cs' off := by
 have : leaveVal (s.push r) (.ptr s.acts.length b off) = leaveCell (s.push r) (.ptr s.acts.length b off) := rfl
 rw [this, leaveCell, if_pos (by rw [cur_push]), box_push]
theorem leavec_ptr {s : Sig} {r : Rec} {b off : Nat} : leaveCell (s.push r) (.ptr s.acts.length b off) = (r.boxes[b]?).bind fun cs => (closeAll cs).map fun cs' => .eptr cs' off := by
 rw [leaveCell, if_pos (by rw [cur_push]), box_push]
attribute [go_sem] leave_np leavec_np close_np leave_eptr leavec_eptr close_eptr leave_ptr leavec_ptr
theorem nilc_p {d b off : Nat} : nilCheckOp (.ptr d b off) = some (.ptr d b off) := rfl
theorem nilc_e {cs : List AV} {off : Nat} : nilCheckOp (.eptr cs off) = some (.eptr cs off) := rfl
attribute [go_sem] nilc_p nilc_e
theorem evalOpt_n {ρ : AOpd → AV} : evalOpt ρ none = none := .trans rfl rfl
theorem evalOpt_s {ρ : AOpd → AV} {x : AOpd} : evalOpt ρ (some x) = some (ρ x) := .trans rfl rfl
attribute [go_sem ↓] evalOpt_n evalOpt_s
theorem eq_bool {a b : Bool} : eqOp .bool (.v (.bool a)) (.v (.bool b)) = some (a == b) := rfl
attribute [go_sem] eq_bool
theorem roS_box {m : Sig} {d b : Nat} : (roS m).box d b = m.box d b := rfl
abbrev rI (n : Int) : List AV := [I n]
end Go.Ax.Sx

/-
  Functions that yield: what a round gets, and what stands behind all rounds.
-/
namespace Go.Ax.Sx
def up (S : Sig) (B : List Rec) (ls : List ALoop) : Sig := { S with acts := S.acts ++ B, loops := S.loops ++ ls }
section
variable {S : Sig} {B : List Rec} {ls : List ALoop} {r : Rec} {lp : ALoop} {d b : Nat}
theorem up_nil : up S [] [] = S := by simp [up]
theorem up_push : (up S B ls).push r = up S (B ++ [r]) ls := by simp [up, Sig.push]
theorem Ok.up (h : Ok S) : Ok (up S B ls) := ⟨by have := h.ro; simp [Sx.up]; omega, by have := h.lro; simp [Sx.up]; omega⟩
theorem up_ready {l : Nat} (h : Ready l lp S) : Ready l lp (up S B ls) :=
 ⟨by have := (List.getElem?_eq_some_iff.1 h.get).1; simp only [up]; rw [List.getElem?_append_left this]; exact h.get, h.ready, h.pend, h.lro⟩
theorem modify_app {α : Type} {l l' : List α} {k : Nat} {f : α → α} (h : k < l.length) : (l ++ l').modify k f = l.modify k f ++ l' := by
 apply List.ext_getElem?
 intro i
 rw [List.getElem?_modify]
 by_cases hi : i < l.length
 ·rw [List.getElem?_append_left hi, List.getElem?_append_left (by simpa using hi), List.getElem?_modify]
 ·rw [List.getElem?_append_right (by omega), List.getElem?_append_right (by simp; omega), List.length_modify]
  have : ¬ k = i := by omega
  simp [this]
theorem up_busy {l : Nat} (h : l < S.loops.length) : busy l (up S B ls) = up (busy l S) B ls := by
 simp only [busy, setLoop, up, modify_app h]
end
section
variable {α ι : Type} (I : List α → ι → Prop) (stop : List α → α → Bool) (O : List α → α → ι → Prop)
def Ends : List α → List α → Bool → ι → Prop
 | done, [], b, i => b = true ∧ I done i
 | done, x :: r, b, i => if stop done x = true then b = false ∧ O done x i else Ends (done ++ [x]) r b i
variable {I stop O}
theorem Ends.all {done xs : List α} {i : ι} (h : Ends I stop O done xs true i) : I (done ++ xs) i := by
 induction xs generalizing done with
 | nil => simpa using h.2
 | cons x r ih =>
  simp only [Ends] at h
  split at h
  ·exact absurd h.1 (by simp)
  ·have := ih h; simpa using this
theorem Ends.never {done xs : List α} {i : ι} {b : Bool} (hs : ∀ d x, stop d x = false) (h : Ends I stop O done xs b i) : b = true ∧ I (done ++ xs) i := by
 have : b = true := by
  induction xs generalizing done with
  | nil => exact h.1
  | cons x r ih =>
   simp only [Ends, hs] at h
   exact ih (by simpa using h)
 subst this
 exact ⟨rfl, h.all⟩
theorem Ends.first {done xs : List α} {i : ι} (h : Ends I stop O done xs false i) : ∃ pre x post, xs = pre ++ x :: post ∧ O (done ++ pre) x i ∧ stop (done ++ pre) x = true ∧ ∀ p y q, pre = p ++ y :: q → stop (done ++ p) y = false := by
 induction xs generalizing done with
 | nil => exact absurd h.1 (by simp)
 | cons x r ih =>
  simp only [Ends] at h
  split at h
  ·rename_i hs
   exact ⟨[], x, r, rfl, by simpa using h.2, by simpa using hs, fun p y q e => by simp at e⟩
  ·rename_i hs
   obtain ⟨pre, y, post, e1, e2, e3, e4⟩ := ih h
   refine ⟨x :: pre, y, post, by simp [e1], by simpa using e2, by simpa using e3, fun p z q e => ?_⟩
   cases p with
   | nil =>
    simp only [List.nil_append, List.cons.injEq] at e
    rw [← e.1]; simpa using hs
   | cons a p =>
    simp only [List.cons_append, List.cons.injEq] at e
    have := e4 p z q e.2
    rw [e.1] at this; simpa using this
end
theorem Ends.map {α β ι κ : Type} {I : List α → ι → Prop} {stop : List α → α → Bool} {O : List α → α → ι → Prop} {mk : β → α} {f : κ → ι} {d0 : List α} {I2 : List β → κ → Prop} {stop2 : List β → β → Bool} {O2 : List β → β → κ → Prop}
  (hI : ∀ dn j, I2 dn j → I (d0 ++ dn.map mk) (f j)) (hs : ∀ dn g, stop2 dn g = stop (d0 ++ dn.map mk) (mk g)) (hO : ∀ dn g j, O2 dn g j → O (d0 ++ dn.map mk) (mk g) (f j)) {xs : List β} {b : Bool} {j : κ} :
  ∀ {dn : List β}, Ends I2 stop2 O2 dn xs b j → Ends I stop O (d0 ++ dn.map mk) (xs.map mk) b (f j) := by
 induction xs with
 | nil => intro dn h; exact ⟨h.1, hI _ _ h.2⟩
 | cons x r ih =>
  intro dn h
  simp only [Ends, List.map_cons] at h ⊢
  rw [hs] at h
  by_cases hc : stop (d0 ++ dn.map mk) (mk x) = true
  ·rw [if_pos hc] at h ⊢; exact ⟨h.1, hO _ _ _ h.2⟩
  ·rw [if_neg hc] at h ⊢
   have := ih h
   simpa using this
section
variable {S : Sig} {B : List Rec} {ls : List ALoop} {lp : ALoop} {l : Nat}
end
structure Hand {α ι : Type} (AP : FuncId → Option AFn) (L : Nat) (V : α → AV) (base : ι → Sig) (I : List α → ι → Prop) (stop : List α → α → Bool) (O : List α → α → ι → Prop) (X : α → Prop) (N NL M : Nat) : Prop where
 ok : ∀ i, Ok (base i)
 len : ∀ i, (base i).acts.length = N
 llen : ∀ i, (base i).loops.length = NL
 go : ∀ done x i B ls, done.length < M → I done i → X x → stop done x = false → ∃ i', callL AP (.yield L) [V x] (up (base i) B ls) = some (.v (.bool true), up (base i') B ls) ∧ I (done ++ [x]) i'
 st : ∀ done x i B ls, done.length < M → I done i → X x → stop done x = true → ∃ i', callL AP (.yield L) [V x] (up (base i) B ls) = some (.v (.bool false), up (base i') B ls) ∧ O done x i'
section
variable {α ι : Type} {AP : FuncId → Option AFn} {L : Nat} {V : α → AV} {base : ι → Sig} {I : List α → ι → Prop} {stop : List α → α → Bool} {O : List α → α → ι → Prop} {X : α → Prop} {N NL M : Nat}
theorem Hand.one (h : Hand AP L V base I stop O X N NL M) {done : List α} {x : α} {i : ι} {B : List Rec} {ls : List ALoop} (hm : done.length < M) (hi : I done i) (hx : X x) (r : Rec) :
  ∃ b i', callL AP (.yield L) [V x] ((up (base i) B ls).push r) = some (.v (.bool b), (up (base i') B ls).push r) ∧ Ends I stop O done [x] b i' := by
 rw [up_push]
 cases hs : stop done x with
 | false =>
  obtain ⟨i', h1, h2⟩ := h.go done x i (B ++ [r]) ls hm hi hx hs
  exact ⟨true, i', by rw [h1, up_push], by simp [Ends, hs, h2]⟩
 | true =>
  obtain ⟨i', h1, h2⟩ := h.st done x i (B ++ [r]) ls hm hi hx hs
  exact ⟨false, i', by rw [h1, up_push], by simp [Ends, hs, h2]⟩
end
structure Mid (X : Rec → Sig) (d : Nat) : Prop where
 get : ∀ r, (X r).acts[d]? = some r
 on : ∀ r f, (X r).onRec d f = X (f r)
 ro : ∀ r, (X r).ro ≤ d
theorem mid_loop {s : Sig} {l : Nat} {lp : ALoop} {B : List Rec} {ls : List ALoop} (hs : Ok s) : Mid (fun r => up (busy l (enterLoop (s.push r) lp)) B ls) s.acts.length := by
 refine ⟨fun r => ?_, fun r f => ?_, fun r => hs.ro⟩
 ·simp [up, busy, setLoop, enterLoop, Sig.push]
 ·have : ((s.acts ++ [r]) ++ B).modify s.acts.length f = (s.acts ++ [f r]) ++ B := by
   rw [modify_app (by simp)]
   congr 1
   exact (congrArg Sig.acts (onRec_push s r f) : _)
  simp only [Sig.onRec, up, busy, setLoop, enterLoop, Sig.push, this]
section
variable {X : Rec → Sig} {d : Nat} {r r0 : Rec}
theorem Mid.lt (h : Mid X d) (r : Rec) : d < (X r).acts.length := (List.getElem?_eq_some_iff.1 (h.get r)).1
theorem Mid.onPush (h : Mid X d) (f : Rec → Rec) : ((X r).push r0).onRec d f = (X (f r)).push r0 := by
 rw [← h.on r f]
 simp only [Sig.onRec, Sig.push, modify_app (h.lt r)]
theorem Mid.box (h : Mid X d) {b : Nat} : ((X r).push r0).box d b = r.boxes[b]? := by
 have := h.lt r
 simp only [Sig.box, Sig.push]
 rw [List.getElem?_append_left this, h.get r]; rfl
theorem Mid.tok (h : Mid X d) {g : Nat} : ((X r).push r0).tok d g = (r.toks[g]?).join := by
 have := h.lt r
 simp only [Sig.tok, Sig.push]
 rw [List.getElem?_append_left this, h.get r]; rfl
theorem Mid.ntok (h : Mid X d) : ((X r).push r0).ntok d = r.toks.length := by
 have := h.lt r
 simp only [Sig.ntok, Sig.push]
 rw [List.getElem?_append_left this, h.get r]
theorem Mid.setBox (h : Mid X d) {b : Nat} {cs : List AV} : ((X r).push r0).setBox d b cs = (X ⟨r.boxes.set b cs, r.toks⟩).push r0 := h.onPush _
theorem Mid.setTok (h : Mid X d) {g : Nat} {n : Option Nat} : ((X r).push r0).setTok d g n = (X ⟨r.boxes, r.toks.set g n⟩).push r0 := h.onPush _
theorem Mid.addTok (h : Mid X d) {n : Nat} : ((X r).push r0).addTok d n = (X ⟨r.boxes, r.toks ++ [some n]⟩).push r0 := h.onPush _
theorem fitAll_closed {m : Sig} {d : Nat} : ∀ {cs : List AV}, (cs.all AV.isClosed = true) → m.fitAll d cs = some (cs, m)
 | [], _ => rfl
 | x :: r, h => by
  simp only [List.all_cons, Bool.and_eq_true] at h
  have hx : m.fit d x = some (x, m) := by
   cases x with
   | slice o es xs =>
    cases o with
    | tok => simp [AV.isClosed, AV.isClosed1] at h
    | _ => simp [Sig.fit, AV.close, AV.isClosed, AV.isClosed1]
   | ptr => simp [AV.isClosed, AV.isClosed1] at h
   | rsl => simp [AV.isClosed, AV.isClosed1] at h
   | _ => simp only [Sig.fit, AV.close, h.1, if_true, Option.map_some]
  simp only [Sig.fitAll, hx, fitAll_closed h.2]
theorem Mid.store (h : Mid X d) {b off n : Nat} {y : AV} (hc : y.cells.all AV.isClosed = true) (hn : fitN n y.cells = true) {row row' : List AV} (hb : r.boxes[b]? = some row) (ho : overN row off y.cells = some row') :
  ((X r).push r0).store n (.ptr d b off) y = some ((X ⟨r.boxes.set b row', r.toks⟩).push r0) := by
 have hlt := h.lt r
 have hcur : ((X r).push r0).cur = (X r).acts.length := cur_push _ _
 have hro : ((X r).push r0).ro ≤ d := h.ro r
 obtain ⟨h1, h2⟩ := fitN_iff.1 hn
 have hne : ¬ d = (X r).acts.length := by omega
 rw [overN_eq] at ho
 by_cases hl : off + y.cells.length ≤ row.length
 ·rw [if_pos hl] at ho
  injection ho with ho
  subst ho
  have hle : off + n ≤ row.length := by omega
  simp only [Sig.store, hro, h1, h2, and_self, if_true, hcur, hne, if_false, fitAll_closed hc, h.box, hb, hle, h.setBox]
 ·rw [if_neg hl] at ho; cases ho
theorem Mid.append (h : Mid X d) {es b : Nat} {xs : List (List AV)} {x : AV} {og : Option Nat} (ha : Acc d es xs x og r.toks) (o : Own) {ys : List (List AV)} (hy : ys ≠ []) (hl : xs.length + ys.length ≤ 4294967296) (hb : b < r.boxes.length) (hrow : ∃ c, r.boxes[b]? = some [c]) :
  ∃ x1 m1 r0' x' og' tk', appendOp ((X r).push r0) es x (.slice o es ys) = some (x1, m1) ∧ m1.store 1 (.ptr d b 0) x1 = some ((X ⟨r.boxes.set b [x'], tk'⟩).push r0') ∧ r0'.boxes = r0.boxes ∧ Acc d es (xs ++ ys) x' og' tk' ∧ og' ≠ none ∧
   (∀ es2 xs2 x2 og2, Acc d es2 xs2 x2 og2 r.toks → (og2 ≠ og ∨ og2 = none) → Acc d es2 xs2 x2 og2 tk' ∧ og2 ≠ og') := by
 have hlt := h.lt r
 have hcur : ∀ q, ((X r).push q).cur = (X r).acts.length := fun q => cur_push _ _
 have hro : ∀ q, ((X r).push q).ro ≤ d := fun q => h.ro r
 have hne : ¬ d = (X r).acts.length := by omega
 have hne2 : ¬ (X r).acts.length ≤ d := by omega
 obtain ⟨c, hrow⟩ := hrow
 have hy' : ys.isEmpty = false := by cases ys <;> simp_all
 cases og with
 | none =>
  obtain ⟨rfl, rfl⟩ := ha
  have hl' : ys.length ≤ 4294967296 := by simpa using hl
  refine ⟨.slice (.tok (X r).acts.length r0.toks.length) es ys, (X r).push ⟨r0.boxes, r0.toks ++ [some ys.length]⟩, ⟨r0.boxes, (r0.toks ++ [some ys.length]).set r0.toks.length none⟩, .slice (.tok d r.toks.length) es ys, some r.toks.length, r.toks ++ [some ys.length], ?_, ?_, rfl, ⟨by simpa using hy, rfl, by simp⟩, by simp, ?_⟩
  ·simp [appendOp, hy', Own.isNil, most, hl', hcur, ntok_push, addTok_push]
  ·have hcell : (AV.slice (.tok (X r).acts.length r0.toks.length) es ys).cells = [.slice (.tok (X r).acts.length r0.toks.length) es ys] := rfl
   have htok : ((X r).push ⟨r0.boxes, r0.toks ++ [some ys.length]⟩).tok (X r).acts.length r0.toks.length = some ys.length := by rw [tok_push]; simp
   have hfit : ((X r).push ⟨r0.boxes, r0.toks ++ [some ys.length]⟩).fitAll d [.slice (.tok (X r).acts.length r0.toks.length) es ys] = some ([.slice (.tok d r.toks.length) es ys], (X ⟨r.boxes, r.toks ++ [some ys.length]⟩).push ⟨r0.boxes, (r0.toks ++ [some ys.length]).set r0.toks.length none⟩) := by
    simp only [Sig.fitAll, Sig.fit, hne2, if_false, hcur, htok, and_self, if_true, h.ntok, setTok_push, h.addTok]
   simp only [Sig.store, hro, hcell, List.length_cons, List.length_nil, List.all_cons, List.all_nil, AV.isCell, Bool.and_self, and_self, if_true, hcur, hne, if_false, hfit, h.box, hrow, h.setBox, Nat.zero_add, Nat.le_refl, setCells, List.set_cons_zero]
  ·intro es2 xs2 x2 og2 h2 _
   cases og2 with
   | none => exact ⟨h2, by simp⟩
   | some g =>
    obtain ⟨a, b, c⟩ := h2
    have := (List.getElem?_eq_some_iff.1 c).1
    exact ⟨⟨a, b, by rw [List.getElem?_append_left this]; exact c⟩, by simp; omega⟩
 | some g =>
  obtain ⟨hx, rfl, hg⟩ := ha
  refine ⟨.slice (.tok d g) es (xs ++ ys), (X ⟨r.boxes, r.toks.set g (some (xs.length + ys.length))⟩).push r0, r0, .slice (.tok d g) es (xs ++ ys), some g, r.toks.set g (some (xs.length + ys.length)), ?_, ?_, rfl, ⟨by simp [hx], rfl, ?_⟩, by simp, ?_⟩
  ·simp [appendOp, hy', most, hl, h.tok, hg, hro, h.setTok]
  ·have hcell : (AV.slice (.tok d g) es (xs ++ ys)).cells = [.slice (.tok d g) es (xs ++ ys)] := rfl
   have hcur' : ∀ q tk, ((X ⟨r.boxes, tk⟩).push q).cur = (X ⟨r.boxes, tk⟩).acts.length := fun q tk => cur_push _ _
   have hro' : ∀ q tk, ((X ⟨r.boxes, tk⟩).push q).ro ≤ d := fun q tk => h.ro _
   have hne' : ∀ tk, ¬ d = (X ⟨r.boxes, tk⟩).acts.length := fun tk => by have := h.lt ⟨r.boxes, tk⟩; omega
   have hfit : ∀ m : Sig, m.fitAll d [.slice (.tok d g) es (xs ++ ys)] = some ([.slice (.tok d g) es (xs ++ ys)], m) := fun m => by
    simp only [Sig.fitAll, Sig.fit, Nat.le_refl, if_true]
   simp only [Sig.store, hro', hcell, List.length_cons, List.length_nil, List.all_cons, List.all_nil, AV.isCell, Bool.and_self, and_self, if_true, hcur', hne', if_false, hfit, h.box, hrow, h.setBox, Nat.zero_add, Nat.le_refl, setCells, List.set_cons_zero]
  ·rw [List.getElem?_set_self (List.getElem?_eq_some_iff.1 hg).1]; simp
  ·intro es2 xs2 x2 og2 h2 hne
   cases og2 with
   | none => exact ⟨h2, by simp⟩
   | some g2 =>
    obtain ⟨a, b, c⟩ := h2
    have hne : g2 ≠ g := by rcases hne with h | h <;> simp_all
    exact ⟨⟨a, b, by rw [List.getElem?_set_ne (fun e => hne e.symm)]; exact c⟩, by simpa using hne⟩
end
end Go.Ax.Sx
