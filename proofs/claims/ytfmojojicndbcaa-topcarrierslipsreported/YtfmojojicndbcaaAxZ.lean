/-
  The executor without its bound: what it gives with some bound. Equations to compute with.
-/
import Derived.Test.YtfmojojicndbcaaAxA
namespace Go.Ax

/-- Whatever c gives, c' gives. -/
def LeF (c c' : CallF) : Prop := ∀ t a s r, c t a s = some r → c' t a s = some r

theorem LeF.refl (c : CallF) : LeF c c := fun _ _ _ _ h => h
theorem LeF.trans {a b c : CallF} (h : LeF a b) (k : LeF b c) : LeF a c := fun t x s r e => k t x s r (h t x s r e)

theorem doCall_mono {c c' : CallF} (h : LeF c c') {ro : Bool} {m : Sig} {t : Target} {as : List AV} {r : AV × Sig} (e : doCall c ro m t as = some r) : doCall c' ro m t as = some r := by
  unfold doCall at e ⊢
  split
  · rw [if_pos (by assumption)] at e
    obtain ⟨p, hp, rfl⟩ := Option.map_eq_some_iff.1 e
    rw [h _ _ _ _ hp]
    rfl
  · rw [if_neg (by assumption)] at e
    exact h _ _ _ _ e

theorem callvOp_mono {c c' : CallF} (h : LeF c c') {ro : Bool} {m : Sig} {x : AV} {as : List AV} {r : AV × Sig} (e : callvOp c ro m x as = some r) : callvOp c' ro m x as = some r := by
  cases x <;> first
    | exact doCall_mono h e
    | (simp [callvOp] at e)

theorem opv_mono {c c' : CallF} (h : LeF c c') {ρ : AOpd → AV} {m : Sig} {op : AOp} {r : AV × Sig} (e : opv c ρ m op = some r) : opv c' ρ m op = some r := by
  cases op <;> first
    | exact e
    | exact doCall_mono h e
    | exact callvOp_mono h e

theorem ops_mono {c c' : CallF} (h : LeF c c') : ∀ {l : List AOper} {st r : St}, ops c l st = some r → ops c' l st = some r
  | [], st, r, e => e
  | o :: l, st, r, e => by
    unfold ops at e ⊢
    split
    · rename_i hw
      rw [if_pos hw] at e
      split at e
      · rename_i x m hv
        rw [opv_mono h hv]
        exact ops_mono h e
      · cases e
    · rename_i hw
      rw [if_neg hw] at e
      exact ops_mono h e

theorem loopN_mono {f g : St → Option (AExit × St)} (h : ∀ st r, f st = some r → g st = some r) : ∀ {n m : Nat} {st : St} {r : AExit × St}, n ≤ m → loopN f n st = some r → loopN g m st = some r
  | 0, _, _, _, _, e => by simp [loopN] at e
  | n + 1, 0, _, _, hn, _ => by omega
  | n + 1, m + 1, st, r, hn, e => by
    simp only [loopN] at e ⊢
    split at e
    · rename_i st1 h1
      rw [h _ _ h1]
      exact loopN_mono h (by omega) e
    · rename_i hne
      rw [h _ _ e]
      split
      · rename_i st1 heq
        exact absurd (e.trans heq) (hne _)
      · rfl

theorem exec_mono {c c' : CallF} (h : LeF c c') {n m : Nat} (hn : n ≤ m) : ∀ {a : ACode} {st : St} {r : AExit × St}, exec c n a st = some r → exec c' m a st = some r := by
  intro a
  induction a with
  | skip => intro st r e; exact e
  | exit => intro st r e; exact e
  | ret => intro st r e; exact e
  | region d l =>
    intro st r e
    simp only [exec] at e ⊢
    obtain ⟨p, hp, rfl⟩ := Option.map_eq_some_iff.1 e
    rw [ops_mono h hp]
    rfl
  | seq a b iha ihb =>
    intro st r e
    simp only [exec] at e ⊢
    split at e
    · rename_i st1 h1
      rw [iha h1]
      exact ihb e
    · rename_i hne
      rw [iha e]
      split
      · rename_i st1 heq
        exact absurd (e.trans heq) (hne _)
      · rfl
  | cond x a b iha ihb =>
    intro st r e
    simp only [exec] at e ⊢
    split
    · rename_i t hx
      rw [hx] at e
      simp only at e
      split
      · rw [if_pos (by assumption)] at e; exact iha e
      · rw [if_neg (by assumption)] at e; exact ihb e
    · rename_i hx
      split at e
      · rename_i t ht
        exact absurd ht (hx _)
      · cases e
  | block id a ih =>
    intro st r e
    simp only [exec] at e ⊢
    split at e
    · rename_i j st1 h1
      rw [ih h1]
      exact e
    · rename_i hne
      rw [ih e]
      split
      · rename_i j st1 heq
        exact absurd (e.trans heq) (hne _ _)
      · rfl
  | loop a ih =>
    intro st r e
    simp only [exec] at e ⊢
    exact loopN_mono (fun st r => ih) hn e
  | rangeFunc f ps a b _ _ =>
    intro st r e
    simp only [exec] at e ⊢
    split
    · rename_i g first caps hf
      rw [hf] at e
      simp only at e
      split at e
      · rename_i x s hc
        rw [h _ _ _ _ hc]
        exact e
      · cases e
    · rename_i hf
      split at e
      · rename_i g first caps hg
        exact absurd hg (hf _ _ _)
      · cases e

theorem callStep_mono {AP : FuncId → Option AFn} {c c' : CallF} (h : LeF c c') {n m : Nat} (hn : n ≤ m) : LeF (callStep AP c n) (callStep AP c' m) := by
  intro t as s r e
  unfold callStep at e ⊢
  cases t with
  | fn f =>
    simp only at e ⊢
    split at e
    · split at e
      · rename_i hlen
        rw [if_pos hlen]
        split at e
        · rename_i st he; rw [exec_mono h hn he]; exact e
        · rename_i st he; rw [exec_mono h hn he]; exact e
        · cases e
      · cases e
    · exact e
    · cases e
  | yield l =>
    simp only at e ⊢
    split at e
    · rename_i lp hlp
      split at e
      · rename_i hcond
        rw [if_pos hcond]
        split at e
        · rename_i st he
          rw [exec_mono h hn he]
          simp only
          split at e
          · rename_i hr
            rw [if_pos hr]
            split at e
            · rename_i st' hb
              rw [exec_mono h hn hb]
              exact e
            · rename_i ex st' hne hb
              rw [exec_mono h hn hb]
              simp only
              exact e
            · cases e
          · cases e
        · cases e
      · cases e
    · cases e

theorem callN_succ {AP : FuncId → Option AFn} : ∀ n, LeF (callN AP n) (callN AP (n + 1))
  | 0 => fun _ _ _ _ e => by simp [callN] at e
  | n + 1 => callStep_mono (callN_succ n) (Nat.le_succ n)

theorem callN_mono {AP : FuncId → Option AFn} {n m : Nat} (h : n ≤ m) : LeF (callN AP n) (callN AP m) := by
  induction h with
  | refl => exact .refl _
  | step _ ih => exact ih.trans (callN_succ _)

section
variable (AP : FuncId → Option AFn)

open Classical in
/-- What a call gives. -/
noncomputable def callL : CallF := fun t as s => if h : ∃ r n, callN AP n t as s = some r then some h.choose else none

open Classical in
/-- What a code gives. -/
noncomputable def runL (c : ACode) (st : St) : Option (AExit × St) := if h : ∃ r n, exec (callN AP n) n c st = some r then some h.choose else none

variable {AP}

theorem callL_iff {t : Target} {as : List AV} {s : Sig} {r : AV × Sig} : callL AP t as s = some r ↔ ∃ n, callN AP n t as s = some r := by
  unfold callL
  constructor
  · intro h
    split at h
    · rename_i hex
      injection h with h
      rw [← h]
      exact hex.choose_spec
    · cases h
  · intro ⟨n, hn⟩
    have hex : ∃ r n, callN AP n t as s = some r := ⟨r, n, hn⟩
    rw [dif_pos hex]
    obtain ⟨m, hm⟩ := hex.choose_spec
    have h1 := callN_mono (Nat.le_max_left n m) _ _ _ _ hn
    have h2 := callN_mono (Nat.le_max_right n m) _ _ _ _ hm
    rw [h1] at h2
    exact h2.symm

theorem execN_mono {n m : Nat} (h : n ≤ m) {c : ACode} {st : St} {r : AExit × St} (e : exec (callN AP n) n c st = some r) : exec (callN AP m) m c st = some r := exec_mono (callN_mono h) h e

theorem runL_iff {c : ACode} {st : St} {r : AExit × St} : runL AP c st = some r ↔ ∃ n, exec (callN AP n) n c st = some r := by
  unfold runL
  constructor
  · intro h
    split at h
    · rename_i hex
      injection h with h
      rw [← h]
      exact hex.choose_spec
    · cases h
  · intro ⟨n, hn⟩
    have hex : ∃ r n, exec (callN AP n) n c st = some r := ⟨r, n, hn⟩
    rw [dif_pos hex]
    obtain ⟨m, hm⟩ := hex.choose_spec
    have h1 := execN_mono (Nat.le_max_left n m) hn
    have h2 := execN_mono (Nat.le_max_right n m) hm
    rw [h1] at h2
    exact h2.symm

theorem callN_L (n : Nat) : LeF (callN AP n) (callL AP) := fun _ _ _ _ e => callL_iff.2 ⟨n, e⟩

theorem doCall_cont {ro : Bool} {m : Sig} {t : Target} {as : List AV} {r : AV × Sig} (e : doCall (callL AP) ro m t as = some r) : ∃ n, doCall (callN AP n) ro m t as = some r := by
  unfold doCall at e ⊢
  split at e
  · obtain ⟨p, hp, rfl⟩ := Option.map_eq_some_iff.1 e
    obtain ⟨n, hn⟩ := callL_iff.1 hp
    exact ⟨n, by rw [if_pos (by assumption), hn]; rfl⟩
  · obtain ⟨n, hn⟩ := callL_iff.1 e
    exact ⟨n, by rw [if_neg (by assumption), hn]⟩

theorem opv_cont {ρ : AOpd → AV} {m : Sig} {op : AOp} {r : AV × Sig} (e : opv (callL AP) ρ m op = some r) : ∃ n, opv (callN AP n) ρ m op = some r := by
  cases op <;> first
    | exact ⟨0, e⟩
    | exact doCall_cont e
    | (simp only [opv, callvOp] at e ⊢
       split at e
       · exact doCall_cont e
       · exact doCall_cont e
       · cases e)

theorem ops_cont : ∀ {l : List AOper} {st r : St}, ops (callL AP) l st = some r → ∃ n, ops (callN AP n) l st = some r
  | [], st, r, e => ⟨0, e⟩
  | o :: l, st, r, e => by
    unfold ops at e
    split at e
    · rename_i hw
      split at e
      · rename_i x m hv
        obtain ⟨n1, h1⟩ := opv_cont hv
        obtain ⟨n2, h2⟩ := ops_cont e
        refine ⟨max n1 n2, ?_⟩
        unfold ops
        rw [if_pos hw, opv_mono (callN_mono (Nat.le_max_left n1 n2)) h1]
        exact ops_mono (callN_mono (Nat.le_max_right n1 n2)) h2
      · cases e
    · rename_i hw
      obtain ⟨n2, h2⟩ := ops_cont e
      refine ⟨n2, ?_⟩
      unfold ops
      rw [if_neg hw]
      exact h2

theorem opt_ext {α : Type} {x y : Option α} (h : ∀ r, x = some r ↔ y = some r) : x = y := by
  cases hx : x with
  | some a => exact ((h a).1 hx).symm
  | none =>
    cases hy : y with
    | none => rfl
    | some b => have := (h b).2 hy; rw [hx] at this; cases this

theorem runL_of {c : ACode} {st : St} {r : AExit × St} {n : Nat} (h : exec (callN AP n) n c st = some r) : runL AP c st = some r := runL_iff.2 ⟨n, h⟩

theorem runL_skip (st : St) : runL AP .skip st = some (.normal, st) := runL_of (n := 0) rfl
theorem runL_exit (id : Nat) (st : St) : runL AP (.exit id) st = some (.exit id, st) := runL_of (n := 0) rfl
theorem runL_ret (st : St) : runL AP .ret st = some (.ret, st) := runL_of (n := 0) rfl

theorem runL_region (d : Bool) (l : List AOper) (st : St) : runL AP (.region d l) st = (ops (callL AP) l st).map (AExit.normal, ·) := by
  refine opt_ext fun r => ⟨fun h => ?_, fun h => ?_⟩
  · obtain ⟨n, hn⟩ := runL_iff.1 h
    simp only [exec] at hn
    obtain ⟨p, hp, rfl⟩ := Option.map_eq_some_iff.1 hn
    rw [ops_mono (callN_L n) hp]
    rfl
  · obtain ⟨p, hp, rfl⟩ := Option.map_eq_some_iff.1 h
    obtain ⟨n, hn⟩ := ops_cont hp
    exact runL_of (n := n) (by simp only [exec, hn]; rfl)

theorem runL_seq (a b : ACode) (st : St) : runL AP (.seq a b) st = match runL AP a st with
    | some (.normal, st') => runL AP b st'
    | r => r := by
  refine opt_ext fun r => ⟨fun h => ?_, fun h => ?_⟩
  · obtain ⟨n, hn⟩ := runL_iff.1 h
    simp only [exec] at hn
    split at hn
    · rename_i st1 h1
      rw [runL_of h1]
      exact runL_of hn
    · rename_i hne
      rw [runL_of hn]
      split
      · rename_i st1 heq
        exact absurd (hn.trans heq) (hne _)
      · rfl
  · split at h
    · rename_i st1 h1
      obtain ⟨n1, e1⟩ := runL_iff.1 h1
      obtain ⟨n2, e2⟩ := runL_iff.1 h
      refine runL_of (n := max n1 n2) ?_
      simp only [exec, execN_mono (Nat.le_max_left n1 n2) e1]
      exact execN_mono (Nat.le_max_right n1 n2) e2
    · rename_i hne
      obtain ⟨n, hn⟩ := runL_iff.1 h
      refine runL_of (n := n) ?_
      simp only [exec, hn]
      split
      · rename_i st1 heq
        exact absurd (h.trans heq) (hne _)
      · rfl

theorem runL_cond (c : AOpd) (a b : ACode) (st : St) : runL AP (.cond c a b) st = match evalT st.tmps c with
    | .v (.bool t) => if t then runL AP a st else runL AP b st
    | _ => none := by
  refine opt_ext fun r => ⟨fun h => ?_, fun h => ?_⟩
  · obtain ⟨n, hn⟩ := runL_iff.1 h
    simp only [exec] at hn
    split at hn
    · rename_i t ht
      rw [ht]
      simp only
      split
      · rw [if_pos (by assumption)] at hn; exact runL_of hn
      · rw [if_neg (by assumption)] at hn; exact runL_of hn
    · cases hn
  · split at h
    · rename_i t ht
      split at h
      · rename_i hb
        obtain ⟨n, hn⟩ := runL_iff.1 h
        exact runL_of (n := n) (by simp only [exec, ht, if_pos hb, hn])
      · rename_i hb
        obtain ⟨n, hn⟩ := runL_iff.1 h
        exact runL_of (n := n) (by simp only [exec, ht, if_neg hb, hn])
    · cases h

theorem runL_block (id : Nat) (a : ACode) (st : St) : runL AP (.block id a) st = match runL AP a st with
    | some (.exit j, st') => if j = id then some (.normal, st') else some (.exit j, st')
    | r => r := by
  refine opt_ext fun r => ⟨fun h => ?_, fun h => ?_⟩
  · obtain ⟨n, hn⟩ := runL_iff.1 h
    simp only [exec] at hn
    split at hn
    · rename_i j st1 h1
      rw [runL_of h1]
      exact hn
    · rename_i hne
      rw [runL_of hn]
      split
      · rename_i j st1 heq
        exact absurd (hn.trans heq) (hne _ _)
      · rfl
  · split at h
    · rename_i j st1 h1
      obtain ⟨n1, e1⟩ := runL_iff.1 h1
      refine runL_of (n := n1) ?_
      simp only [exec, e1]
      exact h
    · rename_i hne
      obtain ⟨n, hn⟩ := runL_iff.1 h
      refine runL_of (n := n) ?_
      simp only [exec, hn]
      split
      · rename_i j st1 heq
        exact absurd (h.trans heq) (hne _ _)
      · rfl

theorem runL_loop (a : ACode) (st : St) : runL AP (.loop a) st = match runL AP a st with
    | some (.normal, st') => runL AP (.loop a) st'
    | r => r := by
  refine opt_ext fun r => ⟨fun h => ?_, fun h => ?_⟩
  · obtain ⟨n, hn⟩ := runL_iff.1 h
    simp only [exec] at hn
    obtain ⟨m, rfl⟩ : ∃ m, n = m + 1 := by
      cases n with
      | zero => simp [loopN] at hn
      | succ m => exact ⟨m, rfl⟩
    rw [loopN] at hn
    split at hn
    · rename_i st1 h1
      rw [runL_of h1]
      refine runL_of (n := m + 1) ?_
      simp only [exec]
      exact loopN_mono (fun _ _ e => e) (Nat.le_succ m) hn
    · rename_i hne
      rw [runL_of hn]
      split
      · rename_i st1 heq
        exact absurd (hn.trans heq) (hne _)
      · rfl
  · split at h
    · rename_i st1 h1
      obtain ⟨n1, e1⟩ := runL_iff.1 h1
      obtain ⟨n2, e2⟩ := runL_iff.1 h
      refine runL_of (n := max n1 n2 + 1) ?_
      simp only [exec, loopN]
      rw [execN_mono (by omega) e1]
      simp only [exec] at e2
      exact loopN_mono (fun st r e => execN_mono (by omega) e) (by omega) e2
    · rename_i hne
      obtain ⟨n, hn⟩ := runL_iff.1 h
      refine runL_of (n := n + 1) ?_
      simp only [exec, loopN]
      rw [execN_mono (Nat.le_succ n) hn]
      split
      · rename_i st1 heq
        exact absurd (h.trans heq) (hne _)
      · rfl

theorem runL_rangeFunc (f : AOpd) (ps : List Nat) (a b : ACode) (st : St) : runL AP (.rangeFunc f ps a b) st = match evalT st.tmps f with
    | .fn g first caps => match callL AP (.fn g) (first ++ .yield st.sig.loops.length :: caps) (enterLoop st.sig ⟨true, none, st.tmps, ps, a, b⟩) with
      | some (_, s) => match leaveLoop s st.sig.loops.length with
        | some (e, s1) => some (e.getD .normal, ⟨st.tmps, s1⟩)
        | none => none
      | none => none
    | _ => none := by
  refine opt_ext fun r => ⟨fun h => ?_, fun h => ?_⟩
  · obtain ⟨n, hn⟩ := runL_iff.1 h
    simp only [exec] at hn
    split at hn
    · rename_i g first caps hf
      rw [hf]
      simp only
      split at hn
      · rename_i x s hc
        rw [callL_iff.2 ⟨n, hc⟩]
        exact hn
      · cases hn
    · cases hn
  · split at h
    · rename_i g first caps hf
      split at h
      · rename_i x s hc
        obtain ⟨n, hn⟩ := callL_iff.1 hc
        refine runL_of (n := n) ?_
        simp only [exec, hf, hn]
        exact h
      · cases h
    · cases h

theorem callL_of {t : Target} {as : List AV} {s : Sig} {r : AV × Sig} {n : Nat} (h : callStep AP (callN AP n) n t as s = some r) : callL AP t as s = some r := callL_iff.2 ⟨n + 1, h⟩

theorem callL_cases {t : Target} {as : List AV} {s : Sig} {r : AV × Sig} (h : callL AP t as s = some r) : ∃ n, callStep AP (callN AP n) n t as s = some r := by
  obtain ⟨n, hn⟩ := callL_iff.1 h
  cases n with
  | zero => simp [callN] at hn
  | succ n => exact ⟨n, hn⟩

theorem callL_fn {f : FuncId} {np nt : Nat} {b : ACode} {rs : List ARes} {own : Bool} (hf : AP f = some (.code np nt b rs own)) (as : List AV) (s : Sig) : callL AP (.fn f) as s = if as.length = np then
      match runL AP b ⟨argsT as, s.push ⟨[], []⟩⟩ with
      | some (.normal, st) | some (.ret, st) => finish rs own st
      | _ => none
    else none := by
  refine opt_ext fun r => ⟨fun h => ?_, fun h => ?_⟩
  · obtain ⟨n, hn⟩ := callL_cases h
    simp only [callStep, hf] at hn
    split at hn
    · rename_i hl
      rw [if_pos hl]
      split at hn
      · rename_i st h1; rw [runL_of h1]; exact hn
      · rename_i st h1; rw [runL_of h1]; exact hn
      · cases hn
    · cases hn
  · split at h
    · rename_i hl
      split at h
      · rename_i st h1
        obtain ⟨n, hn⟩ := runL_iff.1 h1
        exact callL_of (n := n) (by simp only [callStep, hf, if_pos hl, hn]; exact h)
      · rename_i st h1
        obtain ⟨n, hn⟩ := runL_iff.1 h1
        exact callL_of (n := n) (by simp only [callStep, hf, if_pos hl, hn]; exact h)
      · cases h
    · cases h

theorem callL_prim {f : FuncId} {F : List AV → Option AV} (hf : AP f = some (.prim F)) (as : List AV) (s : Sig) : callL AP (.fn f) as s = (closeAll as).bind fun bs => (F bs).map (·, s) := by
  refine opt_ext fun r => ⟨fun h => ?_, fun h => ?_⟩
  · obtain ⟨n, hn⟩ := callL_cases h
    simpa only [callStep, hf] using hn
  · exact callL_of (n := 0) (by simpa only [callStep, hf] using h)

/-- A round's end. -/
def endRound (l : Nat) : Option (AExit × St) → Option (AV × Sig)
  | some (.normal, st') => some (AV.bool true, (setLoop st'.sig l fun p => { p with ready := true, pend := none }).pop)
  | some (e, st') => some (AV.bool false, (setLoop st'.sig l fun p => { p with ready := false, pend := some e }).pop)
  | none => none

theorem callL_yield (l : Nat) (as : List AV) (s : Sig) : callL AP (.yield l) as s = match s.loops[l]? with
    | some lp =>
      if lp.ready = true ∧ s.lro ≤ l ∧ as.length = lp.params.length then
        match runL AP lp.assign ⟨setParams lp.tmps lp.params as, s.push ⟨[], []⟩⟩ with
        | some (.normal, st) => if loopReady st.sig l = true then endRound l (runL AP lp.body ⟨st.tmps, setLoop st.sig l fun p => { p with ready := false }⟩) else none
        | _ => none
      else none
    | none => none := by
  refine opt_ext fun r => ⟨fun h => ?_, fun h => ?_⟩
  · obtain ⟨n, hn⟩ := callL_cases h
    simp only [callStep] at hn
    split at hn
    · rename_i lp hlp
      split at hn
      · rename_i hcond
        rw [hlp]
        simp only
        rw [if_pos hcond]
        split at hn
        · rename_i st h1
          rw [runL_of h1]
          simp only
          split at hn
          · rename_i hr
            rw [if_pos hr]
            split at hn
            · rename_i st' h2
              rw [runL_of h2]
              exact hn
            · rename_i e st' hne h2
              rw [runL_of h2]
              cases e with
              | normal => exact absurd rfl hne
              | exit id => exact hn
              | ret => exact hn
            · cases hn
          · cases hn
        · cases hn
      · cases hn
    · cases hn
  · split at h
    · rename_i lp hlp
      split at h
      · rename_i hcond
        split at h
        · rename_i st h1
          split at h
          · rename_i hr
            obtain ⟨n1, e1⟩ := runL_iff.1 h1
            cases hb : runL AP lp.body ⟨st.tmps, setLoop st.sig l fun p => { p with ready := false }⟩ with
            | none => rw [hb] at h; cases h
            | some q =>
              obtain ⟨e, st'⟩ := q
              obtain ⟨n2, e2⟩ := runL_iff.1 hb
              rw [hb] at h
              refine callL_of (n := max n1 n2) ?_
              simp only [callStep, hlp, if_pos hcond, execN_mono (Nat.le_max_left n1 n2) e1, if_pos hr, execN_mono (Nat.le_max_right n1 n2) e2]
              cases e <;> exact h
          · cases h
        · cases h
      · cases h
    · cases h

end

end Go.Ax
