/-
  The executor without its bound: what it gives with some bound. Equations to compute with.
-/
import Derived.Test.YtdnpjnhpcmpikaaGreatDoorT1
import Derived.Test.YtdnpjnhpcmpikaaGreatDoorT5
import Derived.Deep.Slices
import Derived.OpenShut
import Derived.Attr
namespace Go.Ax
def LeF (c c' : CallF) : Prop := ∀ t a s r, c t a s = some r → c' t a s = some r
theorem LeF.refl (c : CallF) : LeF c c := fun _ _ _ _ h => h
theorem LeF.trans {a b c : CallF} (h : LeF a b) (k : LeF b c) : LeF a c := fun t x s r e => k t x s r (h t x s r e)
theorem doCall_mono {c c' : CallF} (h : LeF c c') {ro : Bool} {m : Sig} {t : Target} {as : List AV} {r : AV × Sig} (e : doCall c ro m t as = some r) : doCall c' ro m t as = some r := by
 unfold doCall at e ⊢
 split
 ·rw [if_pos (by assumption)] at e
  obtain ⟨p, hp, rfl⟩ := Option.map_eq_some_iff.1 e
  rw [h _ _ _ _ hp]
  rfl
 ·rw [if_neg (by assumption)] at e
  exact h _ _ _ _ e
theorem calloOp_mono {c c' : CallF} (h : LeF c c') {m : Sig} {f : FuncId} {as : List AV} {r : AV × Sig} (e : calloOp c m f as = some r) : calloOp c' m f as = some r := by
 unfold calloOp at e ⊢
 cases hc : c (.fn f) as { m.push ⟨[], []⟩ with ro := m.acts.length, lro := m.loops.length } with
 | none => rw [hc] at e; cases e
 | some p => rw [hc] at e; rw [h _ _ _ _ hc]; exact e
theorem callvOp_mono {c c' : CallF} (h : LeF c c') {ro : Bool} {m : Sig} {x : AV} {as : List AV} {r : AV × Sig} (e : callvOp c ro m x as = some r) : callvOp c' ro m x as = some r := by
 cases x <;> first
  | exact doCall_mono h e
  | (simp [callvOp] at e)
theorem fcallOp_iff {c : CallF} {ro : Bool} {m : Sig} {zs : List AV} {t : Target} {as : List AV} {r : AV × Sig} : fcallOp c ro m zs t as = some r ↔
  doCall c ro m t as = some r ∧ doCall c ro (m.setLast []) t as = some (r.1, r.2.setLast []) ∧ doCall c ro (m.setLast zs) t as = some (r.1, r.2.setLast zs) ∧ r.2.acts.length = m.acts.length ∧ r.2.nbox m.cur = m.nbox m.cur ∧ r.2.box m.cur (m.nbox m.cur - 1) = m.box m.cur (m.nbox m.cur - 1) ∧ (ro = true → r.2 = m) ∧ (r.2.noneTok m.cur = false → m.noneTok m.cur = false) := by
 unfold fcallOp
 constructor
 ·intro h
  split at h
  ·rename_i v m' e
   split at h
   ·rename_i hc
    injection h with h
    subst h
    exact ⟨e, hc⟩
   ·cases h
  ·cases h
 ·rintro ⟨h1, h2⟩
  rw [h1]
  simp only
  rw [if_pos h2]
theorem fcallOp_mono {c c' : CallF} (h : LeF c c') {ro : Bool} {m : Sig} {zs : List AV} {t : Target} {as : List AV} {r : AV × Sig} (e : fcallOp c ro m zs t as = some r) : fcallOp c' ro m zs t as = some r := by
 obtain ⟨h1, h2, h3, h4⟩ := fcallOp_iff.1 e
 exact fcallOp_iff.2 ⟨doCall_mono h h1, doCall_mono h h2, doCall_mono h h3, h4⟩
theorem opv_mono {c c' : CallF} (h : LeF c c') {ρ : AOpd → AV} {m : Sig} {op : AOp} {r : AV × Sig} (e : opv c ρ m op = some r) : opv c' ρ m op = some r := by
 cases op <;> first
  | exact e
  | exact doCall_mono h e
  | exact callvOp_mono h e
  | exact calloOp_mono h e
  | exact fcallOp_mono h e
theorem ops_mono {c c' : CallF} (h : LeF c c') : ∀ {l : List AOper} {st r : St}, ops c l st = some r → ops c' l st = some r
 | [], st, r, e => e
 | o :: l, st, r, e => by
  unfold ops at e ⊢
  split
  ·rename_i hw
   rw [if_pos hw] at e
   split at e
   ·rename_i x m hv
    rw [opv_mono h hv]
    exact ops_mono h e
   ·cases e
  ·rename_i hw
   rw [if_neg hw] at e
   exact ops_mono h e
theorem loopN_mono {f g : St → Option (AExit × St)} (h : ∀ st r, f st = some r → g st = some r) : ∀ {n m : Nat} {st : St} {r : AExit × St}, n ≤ m → loopN f n st = some r → loopN g m st = some r
 | 0, _, _, _, _, e => by simp [loopN] at e
 | n + 1, 0, _, _, hn, _ => by omega
 | n + 1, m + 1, st, r, hn, e => by
  simp only [loopN] at e ⊢
  split at e
  ·rename_i st1 h1
   rw [h _ _ h1]
   exact loopN_mono h (by omega) e
  ·rename_i hne
   rw [h _ _ e]
   split
   ·rename_i st1 heq
    exact absurd (e.trans heq) (hne _)
   ·rfl
theorem exec_mono {c c' : CallF} (h : LeF c c') {n m : Nat} (hn : n ≤ m) : ∀ {a : ACode} {st : St} {r : AExit × St}, exec c n a st = some r → exec c' m a st = some r := by
 intro a
 induction a with
 | skip => intro st r e; exact e
 | exit => intro st r e; exact e
 | ret => intro st r e; exact e
 | region d l =>
  intro st r e
  simp only [exec] at e ⊢
  obtain ⟨p, hp, rfl⟩ := Option.map_eq_some_iff.1 e
  rw [ops_mono h hp]
  rfl
 | seq a b iha ihb =>
  intro st r e
  simp only [exec] at e ⊢
  split at e
  ·rename_i st1 h1
   rw [iha h1]
   exact ihb e
  ·rename_i hne
   rw [iha e]
   split
   ·rename_i st1 heq
    exact absurd (e.trans heq) (hne _)
   ·rfl
 | cond x a b iha ihb =>
  intro st r e
  simp only [exec] at e ⊢
  split
  ·rename_i t hx
   rw [hx] at e
   simp only at e
   split
   ·rw [if_pos (by assumption)] at e; exact iha e
   ·rw [if_neg (by assumption)] at e; exact ihb e
  ·rename_i hx
   split at e
   ·rename_i t ht
    exact absurd ht (hx _)
   ·cases e
 | block id a ih =>
  intro st r e
  simp only [exec] at e ⊢
  split at e
  ·rename_i j st1 h1
   rw [ih h1]
   exact e
  ·rename_i hne
   rw [ih e]
   split
   ·rename_i j st1 heq
    exact absurd (e.trans heq) (hne _ _)
   ·rfl
 | loop a ih =>
  intro st r e
  simp only [exec] at e ⊢
  exact loopN_mono (fun st r => ih) hn e
 | rangeFunc f ps a b _ _ =>
  intro st r e
  simp only [exec] at e ⊢
  split
  ·rename_i g first caps hf
   rw [hf] at e
   simp only at e
   split at e
   ·rename_i x s hc
    rw [h _ _ _ _ hc]
    exact e
   ·cases e
  ·rename_i hf
   split at e
   ·rename_i g first caps hg
    exact absurd hg (hf _ _ _)
   ·cases e
theorem callStep_mono {AP : FuncId → Option AFn} {c c' : CallF} (h : LeF c c') {n m : Nat} (hn : n ≤ m) : LeF (callStep AP c n) (callStep AP c' m) := by
 intro t as s r e
 unfold callStep at e ⊢
 cases t with
 | fn f =>
  simp only at e ⊢
  split at e
  ·split at e
   ·rename_i hlen
    rw [if_pos hlen]
    split at e
    ·rename_i st he; rw [exec_mono h hn he]; exact e
    ·rename_i st he; rw [exec_mono h hn he]; exact e
    ·cases e
   ·cases e
  ·exact e
  ·cases e
 | yield l =>
  simp only at e ⊢
  split at e
  ·rename_i lp hlp
   split at e
   ·rename_i hcond
    rw [if_pos hcond]
    split at e
    ·rename_i st he
     rw [exec_mono h hn he]
     simp only
     split at e
     ·rename_i hr
      rw [if_pos hr]
      split at e
      ·rename_i st' hb
       rw [exec_mono h hn hb]
       exact e
      ·rename_i ex st' hne hb
       rw [exec_mono h hn hb]
       simp only
       exact e
      ·cases e
     ·cases e
    ·cases e
   ·cases e
  ·cases e
theorem callN_succ {AP : FuncId → Option AFn} : ∀ n, LeF (callN AP n) (callN AP (n + 1))
 | 0 => fun _ _ _ _ e => by simp [callN] at e
 | n + 1 => callStep_mono (callN_succ n) (Nat.le_succ n)
theorem callN_mono {AP : FuncId → Option AFn} {n m : Nat} (h : n ≤ m) : LeF (callN AP n) (callN AP m) := by
 induction h with
 | refl => exact .refl _
 | step _ ih => exact ih.trans (callN_succ _)
section
variable (AP : FuncId → Option AFn)
open Classical in
noncomputable def callL : CallF := fun t as s => if h : ∃ r n, callN AP n t as s = some r then some h.choose else none
open Classical in
noncomputable def runL (c : ACode) (st : St) : Option (AExit × St) := if h : ∃ r n, exec (callN AP n) n c st = some r then some h.choose else none
variable {AP}
theorem callL_iff {t : Target} {as : List AV} {s : Sig} {r : AV × Sig} : callL AP t as s = some r ↔ ∃ n, callN AP n t as s = some r := by
 unfold callL
 constructor
 ·intro h
  split at h
  ·rename_i hex
   injection h with h
   rw [← h]
   exact hex.choose_spec
  ·cases h
 ·intro ⟨n, hn⟩
  have hex : ∃ r n, callN AP n t as s = some r := ⟨r, n, hn⟩
  rw [dif_pos hex]
  obtain ⟨m, hm⟩ := hex.choose_spec
  have h1 := callN_mono (Nat.le_max_left n m) _ _ _ _ hn
  have h2 := callN_mono (Nat.le_max_right n m) _ _ _ _ hm
  rw [h1] at h2
  exact h2.symm
theorem execN_mono {n m : Nat} (h : n ≤ m) {c : ACode} {st : St} {r : AExit × St} (e : exec (callN AP n) n c st = some r) : exec (callN AP m) m c st = some r := exec_mono (callN_mono h) h e
theorem runL_iff {c : ACode} {st : St} {r : AExit × St} : runL AP c st = some r ↔ ∃ n, exec (callN AP n) n c st = some r := by
 unfold runL
 constructor
 ·intro h
  split at h
  ·rename_i hex
   injection h with h
   rw [← h]
   exact hex.choose_spec
  ·cases h
 ·intro ⟨n, hn⟩
  have hex : ∃ r n, exec (callN AP n) n c st = some r := ⟨r, n, hn⟩
  rw [dif_pos hex]
  obtain ⟨m, hm⟩ := hex.choose_spec
  have h1 := execN_mono (Nat.le_max_left n m) hn
  have h2 := execN_mono (Nat.le_max_right n m) hm
  rw [h1] at h2
  exact h2.symm
theorem callN_L (n : Nat) : LeF (callN AP n) (callL AP) := fun _ _ _ _ e => callL_iff.2 ⟨n, e⟩
theorem doCall_cont {ro : Bool} {m : Sig} {t : Target} {as : List AV} {r : AV × Sig} (e : doCall (callL AP) ro m t as = some r) : ∃ n, doCall (callN AP n) ro m t as = some r := by
 unfold doCall at e ⊢
 split at e
 ·obtain ⟨p, hp, rfl⟩ := Option.map_eq_some_iff.1 e
  obtain ⟨n, hn⟩ := callL_iff.1 hp
  exact ⟨n, by rw [if_pos (by assumption), hn]; rfl⟩
 ·obtain ⟨n, hn⟩ := callL_iff.1 e
  exact ⟨n, by rw [if_neg (by assumption), hn]⟩
theorem calloOp_cont {m : Sig} {f : FuncId} {as : List AV} {r : AV × Sig} (e : calloOp (callL AP) m f as = some r) : ∃ n, calloOp (callN AP n) m f as = some r := by
 unfold calloOp at e ⊢
 cases hc : callL AP (.fn f) as { m.push ⟨[], []⟩ with ro := m.acts.length, lro := m.loops.length } with
 | none => rw [hc] at e; cases e
 | some p =>
  rw [hc] at e
  obtain ⟨n, hn⟩ := callL_iff.1 hc
  exact ⟨n, by rw [hn]; exact e⟩
theorem fcallOp_cont {ro : Bool} {m : Sig} {zs : List AV} {t : Target} {as : List AV} {r : AV × Sig} (e : fcallOp (callL AP) ro m zs t as = some r) : ∃ n, fcallOp (callN AP n) ro m zs t as = some r := by
 obtain ⟨h1, h2, h3, h4⟩ := fcallOp_iff.1 e
 obtain ⟨n1, k1⟩ := doCall_cont h1
 obtain ⟨n2, k2⟩ := doCall_cont h2
 obtain ⟨n3, k3⟩ := doCall_cont h3
 exact ⟨n1 + n2 + n3, fcallOp_iff.2 ⟨doCall_mono (callN_mono (by omega)) k1, doCall_mono (callN_mono (by omega)) k2, doCall_mono (callN_mono (by omega)) k3, h4⟩⟩
theorem opv_cont {ρ : AOpd → AV} {m : Sig} {op : AOp} {r : AV × Sig} (e : opv (callL AP) ρ m op = some r) : ∃ n, opv (callN AP n) ρ m op = some r := by
  cases op <;> first
    | exact ⟨0, e⟩
    | exact doCall_cont e
    | exact calloOp_cont e
    | exact fcallOp_cont e
    | (simp only [opv, callvOp] at e ⊢
       split at e
       · exact doCall_cont e
       · exact doCall_cont e
       · cases e)
theorem ops_cont : ∀ {l : List AOper} {st r : St}, ops (callL AP) l st = some r → ∃ n, ops (callN AP n) l st = some r
 | [], st, r, e => ⟨0, e⟩
 | o :: l, st, r, e => by
  unfold ops at e
  split at e
  ·rename_i hw
   split at e
   ·rename_i x m hv
    obtain ⟨n1, h1⟩ := opv_cont hv
    obtain ⟨n2, h2⟩ := ops_cont e
    refine ⟨max n1 n2, ?_⟩
    unfold ops
    rw [if_pos hw, opv_mono (callN_mono (Nat.le_max_left n1 n2)) h1]
    exact ops_mono (callN_mono (Nat.le_max_right n1 n2)) h2
   ·cases e
  ·rename_i hw
   obtain ⟨n2, h2⟩ := ops_cont e
   refine ⟨n2, ?_⟩
   unfold ops
   rw [if_neg hw]
   exact h2
theorem opt_ext {α : Type} {x y : Option α} (h : ∀ r, x = some r ↔ y = some r) : x = y := by
 cases hx : x with
 | some a => exact ((h a).1 hx).symm
 | none =>
  cases hy : y with
  | none => rfl
  | some b => have := (h b).2 hy; rw [hx] at this; cases this
theorem runL_of {c : ACode} {st : St} {r : AExit × St} {n : Nat} (h : exec (callN AP n) n c st = some r) : runL AP c st = some r := runL_iff.2 ⟨n, h⟩
theorem runL_skip (st : St) : runL AP .skip st = some (.normal, st) := runL_of (n := 0) rfl
theorem runL_exit (id : Nat) (st : St) : runL AP (.exit id) st = some (.exit id, st) := runL_of (n := 0) rfl
theorem runL_ret (st : St) : runL AP .ret st = some (.ret, st) := runL_of (n := 0) rfl
theorem runL_region (d : Bool) (l : List AOper) (st : St) : runL AP (.region d l) st = (ops (callL AP) l st).map (AExit.normal, ·) := by
 refine opt_ext fun r => ⟨fun h => ?_, fun h => ?_⟩
 ·obtain ⟨n, hn⟩ := runL_iff.1 h
  simp only [exec] at hn
  obtain ⟨p, hp, rfl⟩ := Option.map_eq_some_iff.1 hn
  rw [ops_mono (callN_L n) hp]
  rfl
 ·obtain ⟨p, hp, rfl⟩ := Option.map_eq_some_iff.1 h
  obtain ⟨n, hn⟩ := ops_cont hp
  exact runL_of (n := n) (by simp only [exec, hn]; rfl)
theorem runL_seq (a b : ACode) (st : St) : runL AP (.seq a b) st = match runL AP a st with
  | some (.normal, st') => runL AP b st'
  | r => r := by
 refine opt_ext fun r => ⟨fun h => ?_, fun h => ?_⟩
 ·obtain ⟨n, hn⟩ := runL_iff.1 h
  simp only [exec] at hn
  split at hn
  ·rename_i st1 h1
   rw [runL_of h1]
   exact runL_of hn
  ·rename_i hne
   rw [runL_of hn]
   split
   ·rename_i st1 heq
    exact absurd (hn.trans heq) (hne _)
   ·rfl
 ·split at h
  ·rename_i st1 h1
   obtain ⟨n1, e1⟩ := runL_iff.1 h1
   obtain ⟨n2, e2⟩ := runL_iff.1 h
   refine runL_of (n := max n1 n2) ?_
   simp only [exec, execN_mono (Nat.le_max_left n1 n2) e1]
   exact execN_mono (Nat.le_max_right n1 n2) e2
  ·rename_i hne
   obtain ⟨n, hn⟩ := runL_iff.1 h
   refine runL_of (n := n) ?_
   simp only [exec, hn]
   split
   ·rename_i st1 heq
    exact absurd (h.trans heq) (hne _)
   ·rfl
theorem runL_cond (c : AOpd) (a b : ACode) (st : St) : runL AP (.cond c a b) st = match evalT st.tmps c with
  | .v (.bool t) => if t then runL AP a st else runL AP b st
  | _ => none := by
 refine opt_ext fun r => ⟨fun h => ?_, fun h => ?_⟩
 ·obtain ⟨n, hn⟩ := runL_iff.1 h
  simp only [exec] at hn
  split at hn
  ·rename_i t ht
   rw [ht]
   simp only
   split
   ·rw [if_pos (by assumption)] at hn; exact runL_of hn
   ·rw [if_neg (by assumption)] at hn; exact runL_of hn
  ·cases hn
 ·split at h
  ·rename_i t ht
   split at h
   ·rename_i hb
    obtain ⟨n, hn⟩ := runL_iff.1 h
    exact runL_of (n := n) (by simp only [exec, ht, if_pos hb, hn])
   ·rename_i hb
    obtain ⟨n, hn⟩ := runL_iff.1 h
    exact runL_of (n := n) (by simp only [exec, ht, if_neg hb, hn])
  ·cases h
theorem runL_block (id : Nat) (a : ACode) (st : St) : runL AP (.block id a) st = match runL AP a st with
  | some (.exit j, st') => if j = id then some (.normal, st') else some (.exit j, st')
  | r => r := by
 refine opt_ext fun r => ⟨fun h => ?_, fun h => ?_⟩
 ·obtain ⟨n, hn⟩ := runL_iff.1 h
  simp only [exec] at hn
  split at hn
  ·rename_i j st1 h1
   rw [runL_of h1]
   exact hn
  ·rename_i hne
   rw [runL_of hn]
   split
   ·rename_i j st1 heq
    exact absurd (hn.trans heq) (hne _ _)
   ·rfl
 ·split at h
  ·rename_i j st1 h1
   obtain ⟨n1, e1⟩ := runL_iff.1 h1
   refine runL_of (n := n1) ?_
   simp only [exec, e1]
   exact h
  ·rename_i hne
   obtain ⟨n, hn⟩ := runL_iff.1 h
   refine runL_of (n := n) ?_
   simp only [exec, hn]
   split
   ·rename_i j st1 heq
    exact absurd (h.trans heq) (hne _ _)
   ·rfl
theorem runL_loop (a : ACode) (st : St) : runL AP (.loop a) st = match runL AP a st with
  | some (.normal, st') => runL AP (.loop a) st'
  | r => r := by
 refine opt_ext fun r => ⟨fun h => ?_, fun h => ?_⟩
 ·obtain ⟨n, hn⟩ := runL_iff.1 h
  simp only [exec] at hn
  obtain ⟨m, rfl⟩ : ∃ m, n = m + 1 := by
   cases n with
   | zero => simp [loopN] at hn
   | succ m => exact ⟨m, rfl⟩
  rw [loopN] at hn
  split at hn
  ·rename_i st1 h1
   rw [runL_of h1]
   refine runL_of (n := m + 1) ?_
   simp only [exec]
   exact loopN_mono (fun _ _ e => e) (Nat.le_succ m) hn
  ·rename_i hne
   rw [runL_of hn]
   split
   ·rename_i st1 heq
    exact absurd (hn.trans heq) (hne _)
   ·rfl
 ·split at h
  ·rename_i st1 h1
   obtain ⟨n1, e1⟩ := runL_iff.1 h1
   obtain ⟨n2, e2⟩ := runL_iff.1 h
   refine runL_of (n := max n1 n2 + 1) ?_
   simp only [exec, loopN]
   rw [execN_mono (by omega) e1]
   simp only [exec] at e2
   exact loopN_mono (fun st r e => execN_mono (by omega) e) (by omega) e2
  ·rename_i hne
   obtain ⟨n, hn⟩ := runL_iff.1 h
   refine runL_of (n := n + 1) ?_
   simp only [exec, loopN]
   rw [execN_mono (Nat.le_succ n) hn]
   split
   ·rename_i st1 heq
    exact absurd (h.trans heq) (hne _)
   ·rfl
theorem runL_rangeFunc (f : AOpd) (ps : List Nat) (a b : ACode) (st : St) : runL AP (.rangeFunc f ps a b) st = match evalT st.tmps f with
  | .fn g first caps => match callL AP (.fn g) (first ++ .yield st.sig.loops.length :: caps) (enterLoop st.sig ⟨true, none, st.tmps, ps, a, b⟩) with
   | some (_, s) => match leaveLoop s st.sig.loops.length with
    | some (e, s1) => some (e.getD .normal, ⟨st.tmps, s1⟩)
    | none => none
   | none => none
  | _ => none := by
 refine opt_ext fun r => ⟨fun h => ?_, fun h => ?_⟩
 ·obtain ⟨n, hn⟩ := runL_iff.1 h
  simp only [exec] at hn
  split at hn
  ·rename_i g first caps hf
   rw [hf]
   simp only
   split at hn
   ·rename_i x s hc
    rw [callL_iff.2 ⟨n, hc⟩]
    exact hn
   ·cases hn
  ·cases hn
 ·split at h
  ·rename_i g first caps hf
   split at h
   ·rename_i x s hc
    obtain ⟨n, hn⟩ := callL_iff.1 hc
    refine runL_of (n := n) ?_
    simp only [exec, hf, hn]
    exact h
   ·cases h
  ·cases h
theorem callL_of {t : Target} {as : List AV} {s : Sig} {r : AV × Sig} {n : Nat} (h : callStep AP (callN AP n) n t as s = some r) : callL AP t as s = some r := callL_iff.2 ⟨n + 1, h⟩
theorem callL_cases {t : Target} {as : List AV} {s : Sig} {r : AV × Sig} (h : callL AP t as s = some r) : ∃ n, callStep AP (callN AP n) n t as s = some r := by
 obtain ⟨n, hn⟩ := callL_iff.1 h
 cases n with
 | zero => simp [callN] at hn
 | succ n => exact ⟨n, hn⟩
theorem callL_fn {f : FuncId} {np nt : Nat} {b : ACode} {rs : List ARes} {own : Bool} (hf : AP f = some (.code np nt b rs own)) (as : List AV) (s : Sig) : callL AP (.fn f) as s = if as.length = np then
      match runL AP b ⟨argsT as, s.push ⟨[], []⟩⟩ with
      | some (.normal, st) | some (.ret, st) => finish rs own st
      | _ => none
    else none := by
  refine opt_ext fun r => ⟨fun h => ?_, fun h => ?_⟩
  · obtain ⟨n, hn⟩ := callL_cases h
    simp only [callStep, hf] at hn
    split at hn
    · rename_i hl
      rw [if_pos hl]
      split at hn
      · rename_i st h1; rw [runL_of h1]; exact hn
      · rename_i st h1; rw [runL_of h1]; exact hn
      · cases hn
    · cases hn
  · split at h
    · rename_i hl
      split at h
      · rename_i st h1
        obtain ⟨n, hn⟩ := runL_iff.1 h1
        exact callL_of (n := n) (by simp only [callStep, hf, if_pos hl, hn]; exact h)
      · rename_i st h1
        obtain ⟨n, hn⟩ := runL_iff.1 h1
        exact callL_of (n := n) (by simp only [callStep, hf, if_pos hl, hn]; exact h)
      · cases h
    · cases h
theorem callL_prim {f : FuncId} {F : List AV → Option AV} (hf : AP f = some (.prim F)) (as : List AV) (s : Sig) : callL AP (.fn f) as s = (closeAll as).bind fun bs => (F bs).map (·, s) := by
 refine opt_ext fun r => ⟨fun h => ?_, fun h => ?_⟩
 ·obtain ⟨n, hn⟩ := callL_cases h
  simpa only [callStep, hf] using hn
 ·exact callL_of (n := 0) (by simpa only [callStep, hf] using h)
def endRound (l : Nat) : Option (AExit × St) → Option (AV × Sig)
 | some (.normal, st') => some (AV.bool true, (setLoop st'.sig l fun p => { p with ready := true, pend := none }).pop)
 | some (e, st') => some (AV.bool false, (setLoop st'.sig l fun p => { p with ready := false, pend := some e }).pop)
 | none => none
theorem callL_yield (l : Nat) (as : List AV) (s : Sig) : callL AP (.yield l) as s = match s.loops[l]? with
  | some lp =>
   if lp.ready = true ∧ s.lro ≤ l ∧ as.length = lp.params.length then
    match runL AP lp.assign ⟨setParams lp.tmps lp.params as, s.push ⟨[], []⟩⟩ with
    | some (.normal, st) => if loopReady st.sig l = true then endRound l (runL AP lp.body ⟨st.tmps, setLoop st.sig l fun p => { p with ready := false }⟩) else none
    | _ => none
   else none
  | none => none := by
 refine opt_ext fun r => ⟨fun h => ?_, fun h => ?_⟩
 ·obtain ⟨n, hn⟩ := callL_cases h
  simp only [callStep] at hn
  split at hn
  ·rename_i lp hlp
   split at hn
   ·rename_i hcond
    rw [hlp]
    simp only
    rw [if_pos hcond]
    split at hn
    ·rename_i st h1
     rw [runL_of h1]
     simp only
     split at hn
     ·rename_i hr
      rw [if_pos hr]
      split at hn
      ·rename_i st' h2
       rw [runL_of h2]
       exact hn
      ·rename_i e st' hne h2
       rw [runL_of h2]
       cases e with
       | normal => exact absurd rfl hne
       | exit id => exact hn
       | ret => exact hn
      ·cases hn
     ·cases hn
    ·cases hn
   ·cases hn
  ·cases hn
 ·split at h
  ·rename_i lp hlp
   split at h
   ·rename_i hcond
    split at h
    ·rename_i st h1
     split at h
     ·rename_i hr
      obtain ⟨n1, e1⟩ := runL_iff.1 h1
      cases hb : runL AP lp.body ⟨st.tmps, setLoop st.sig l fun p => { p with ready := false }⟩ with
      | none => rw [hb] at h; cases h
      | some q =>
       obtain ⟨e, st'⟩ := q
       obtain ⟨n2, e2⟩ := runL_iff.1 hb
       rw [hb] at h
       refine callL_of (n := max n1 n2) ?_
       simp only [callStep, hlp, if_pos hcond, execN_mono (Nat.le_max_left n1 n2) e1, if_pos hr, execN_mono (Nat.le_max_right n1 n2) e2]
       cases e <;> exact h
     ·cases h
    ·cases h
   ·cases h
  ·cases h
end
end Go.Ax

/-
  A call's arguments as the executor has them: from the row's reading.
-/
namespace Go.Ax
open Go.ChangeShapes Go.WideShapes
def tileT (P : Program) (ok : TypeId → Bool) (size : Nat) : Nat → List Field → Bool
 | off, [] => decide (off = size)
 | off, f :: r => decide (f.offset = off) && ok f.type && tileT P ok size (off + P.cellsOf f.type) r
def okT (P : Program) : Nat → TypeId → Bool
 | 0, _ => false
 | d + 1, t => match P.underlying t with
  | some .bool | some (.int _) | some .string => decide (P.cellsOf t = 1)
  | some (.slice e) => decide (P.cellsOf t = 1) && decide (0 < P.cellsOf e) && okT P d e
  | some (.struct fs) => tileT P (okT P d) (P.cellsOf t) 0 fs.toList
  | some (.array n e) => decide (n * P.cellsOf e = P.cellsOf t) && okT P d e
  | _ => false
def Shp (P : Program) : Nat → TypeId → List AV → Prop
 | 0, _, _ => False
 | d + 1, t, avs => match P.underlying t with
  | some .bool => ∃ b, avs = [.v (.bool b)]
  | some (.int k) => ∃ x, avs = [.v (.int k x)] ∧ (Lit.int k x).wf = true
  | some .string => ∃ s : ByteArray, avs = [.v (.string s)] ∧ s.size ≤ maxLen
  | some (.slice e) => ∃ o rows, avs = [.slice o (P.cellsOf e) rows] ∧ (o = .any ∨ (o = .nilS ∧ rows = [])) ∧ rows.length ≤ maxLen ∧ ∀ r ∈ rows, r.length = P.cellsOf e ∧ Shp P d e r
  | some (.struct fs) => ∃ ps : List (List AV), avs = ps.flatten ∧ ps.length = fs.size ∧ ∀ (i : Nat) (f : Field) (p : List AV), fs[i]? = some f → ps[i]? = some p → p.length = P.cellsOf f.type ∧ Shp P d f.type p
  | some (.array n e) => ∃ ps : List (List AV), avs = ps.flatten ∧ ps.length = n ∧ ∀ p ∈ ps, p.length = P.cellsOf e ∧ Shp P d e p
  | _ => False
structure RL (w : World) (avs : List AV) (cs : List Value) : Prop where
 len : avs.length = cs.length
 get : ∀ (i : Nat) (a : AV) (c : Value), avs[i]? = some a → cs[i]? = some c → Reads w a c ∧ a.isCell = true
theorem RL.nil {w : World} : RL w [] [] := ⟨rfl, fun i a c h => by simp at h⟩
theorem RL.one {w : World} {a : AV} {c : Value} (h : Reads w a c) (hc : a.isCell = true) : RL w [a] [c] := ⟨rfl, fun i x y h1 h2 => by
 cases i with
 | zero => simp at h1 h2; subst h1 h2; exact ⟨h, hc⟩
 | succ i => simp at h1⟩
theorem RL.append {w : World} {a b : List AV} {c d : List Value} (h : RL w a c) (k : RL w b d) : RL w (a ++ b) (c ++ d) := ⟨by simp [h.len, k.len], fun i x y h1 h2 => by
 by_cases hi : i < a.length
 ·rw [List.getElem?_append_left hi] at h1
  rw [List.getElem?_append_left (by rw [← h.len]; exact hi)] at h2
  exact h.get i x y h1 h2
 ·rw [List.getElem?_append_right (by omega)] at h1
  rw [List.getElem?_append_right (by rw [← h.len]; omega), ← h.len] at h2
  exact k.get _ x y h1 h2⟩
section
variable {H : Type} {enc : TypeId × Value → H} {P : Program} {w : World}
theorem take_app_drop {α : Type} (l : List α) (off n : Nat) : (l.drop off).take n ++ l.drop (off + n) = l.drop off := by
 rw [← List.drop_drop]; exact List.take_append_drop _ _
theorem open_fields {d size : Nat} {cs : List Value} {n : Nat} (ih : ∀ (t : TypeId) (fuel : Nat) (cs : List Value) (x : DataW H × List MemPlace), okT P d t = true → DataW.trod enc P w 0 (fun _ => true) true fuel t cs = some x → ∃ avs, RL w avs cs ∧ cs.length = P.cellsOf t ∧ Shp P d t avs) (hl : cs.length = size) :
  ∀ (fs : List Field) (off : Nat), tileT P (okT P d) size off fs = true → (∀ f ∈ fs, ∃ y, DataW.trod enc P w 0 (fun _ => true) true n f.type ((cs.drop f.offset).take (P.cellsOf f.type)) = some y) →
   ∃ ps : List (List AV), RL w ps.flatten (cs.drop off) ∧ ps.length = fs.length ∧ ∀ (i : Nat) (f : Field) (p : List AV), fs[i]? = some f → ps[i]? = some p → p.length = P.cellsOf f.type ∧ Shp P d f.type p
 | [], off, ht, _ => by
  have : off = size := by simpa [tileT] using ht
  subst this
  refine ⟨[], ?_, rfl, fun i f p h => by simp at h⟩
  rw [← hl, List.drop_length]; exact .nil
 | f :: r, off, ht, hf => by
  simp only [tileT, Bool.and_eq_true, decide_eq_true_eq] at ht
  obtain ⟨⟨rfl, hok⟩, hr⟩ := ht
  obtain ⟨y, hy⟩ := hf f (List.mem_cons_self ..)
  obtain ⟨avs, h1, h2, h3⟩ := ih _ _ _ _ hok hy
  obtain ⟨ps, k1, k2, k3⟩ := open_fields ih hl r _ hr (fun g hg => hf g (List.mem_cons_of_mem _ hg))
  refine ⟨avs :: ps, ?_, by simp [k2], fun i g p hg hp => ?_⟩
  ·rw [List.flatten_cons, ← take_app_drop cs f.offset (P.cellsOf f.type)]
   exact h1.append k1
  ·cases i with
   | zero => simp at hg hp; subst hg hp; exact ⟨by rw [h1.len, h2], h3⟩
   | succ i => simp at hg hp; exact k3 i g p hg hp
theorem open_elems {d : Nat} {cs : List Value} {n : Nat} {e : TypeId} (ih : ∀ (t : TypeId) (fuel : Nat) (cs : List Value) (x : DataW H × List MemPlace), okT P d t = true → DataW.trod enc P w 0 (fun _ => true) true fuel t cs = some x → ∃ avs, RL w avs cs ∧ cs.length = P.cellsOf t ∧ Shp P d t avs) (hok : okT P d e = true) :
  ∀ (k i : Nat), cs.length = (i + k) * P.cellsOf e → (∀ j, i ≤ j → j < i + k → ∃ y, DataW.trod enc P w 0 (fun _ => true) true n e ((cs.drop (j * P.cellsOf e)).take (P.cellsOf e)) = some y) →
   ∃ ps : List (List AV), RL w ps.flatten (cs.drop (i * P.cellsOf e)) ∧ ps.length = k ∧ ∀ p ∈ ps, p.length = P.cellsOf e ∧ Shp P d e p
 | 0, i, hl, _ => by
  refine ⟨[], ?_, rfl, fun p h => by simp at h⟩
  rw [show i * P.cellsOf e = cs.length by rw [hl]; simp, List.drop_length]; exact .nil
 | k + 1, i, hl, hf => by
  obtain ⟨y, hy⟩ := hf i (Nat.le_refl _) (by omega)
  obtain ⟨avs, h1, h2, h3⟩ := ih _ _ _ _ hok hy
  obtain ⟨ps, k1, k2, k3⟩ := open_elems ih hok k (i + 1) (by rw [hl]; congr 1; omega) (fun j h1 h2 => hf j (by omega) (by omega))
  refine ⟨avs :: ps, ?_, by simp [k2], fun p hp => ?_⟩
  ·rw [List.flatten_cons, ← take_app_drop cs (i * P.cellsOf e) (P.cellsOf e)]
   rw [Nat.succ_mul] at k1
   exact h1.append k1
  ·rcases List.mem_cons.1 hp with rfl | hp
   ·exact ⟨by rw [h1.len, h2], h3⟩
   ·exact k3 p hp
theorem open_type : ∀ (d : Nat) (t : TypeId) (fuel : Nat) (cs : List Value) (x : DataW H × List MemPlace), okT P d t = true → DataW.trod enc P w 0 (fun _ => true) true fuel t cs = some x →
    ∃ avs, RL w avs cs ∧ cs.length = P.cellsOf t ∧ Shp P d t avs
  | 0, t, fuel, cs, x, h, _ => by simp [okT] at h
  | d + 1, t, fuel, cs, x, hok, h => by
    have ih := open_type d
    unfold okT at hok
    cases hu : P.underlying t with
    | none => rw [hu] at hok; cases hok
    | some u =>
      rw [hu] at hok
      cases u with
      | bool =>
        obtain ⟨b, rfl, _⟩ := DataW.trod_bool hu h
        exact ⟨[.v (.bool b)], .one (.v rfl) rfl, by simp only [decide_eq_true_eq] at hok; simp [hok], by simp only [Shp, hu]; exact ⟨b, rfl⟩⟩
      | int k =>
        obtain ⟨n, rfl, _, hw⟩ := DataW.trod_int hu h
        exact ⟨[.v (.int k n)], .one (.v rfl) rfl, by simp only [decide_eq_true_eq] at hok; simp [hok], by simp only [Shp, hu]; exact ⟨n, rfl, hw⟩⟩
      | string =>
        obtain ⟨s, rfl, _, hw⟩ := DataW.trod_string hu h
        exact ⟨[.v (.string s)], .one (.v rfl) rfl, by simp only [decide_eq_true_eq] at hok; simp [hok], by simp only [Shp, hu]; exact ⟨s, rfl, hw⟩⟩
      | struct fs =>
        obtain ⟨xs, n, _, _, hl, hxl, hget⟩ := DataW.trod_struct hu h
        obtain ⟨ps, k1, k2, k3⟩ := open_fields ih hl fs.toList 0 hok (fun f hf => by
          obtain ⟨i, hi⟩ := List.getElem?_of_mem hf
          have hi' : fs[i]? = some f := by simpa using hi
          have hlt : i < xs.length := by
            have := (List.getElem?_eq_some_iff.1 hi).1
            rw [hxl]; simpa using this
          exact ⟨xs[i], by rw [hget i f hi', List.getElem?_eq_getElem hlt]⟩)
        exact ⟨ps.flatten, by simpa using k1, hl, by simp only [Shp, hu]; exact ⟨ps, rfl, by simpa using k2, fun i f p hf hp => k3 i f p (by simpa using hf) hp⟩⟩
      | array n e =>
        simp only [Bool.and_eq_true, decide_eq_true_eq] at hok
        obtain ⟨xs, m, _, _, hl, hxl, hget⟩ := DataW.trod_array hu h
        obtain ⟨ps, k1, k2, k3⟩ := open_elems (n := m) (cs := cs) ih hok.2 n 0 (by rw [hl, ← hok.1, Nat.zero_add]) (fun j _ hj => by
          have hlt : j < xs.length := by omega
          exact ⟨xs[j], by rw [hget j (by omega), List.getElem?_eq_getElem hlt]⟩)
        exact ⟨ps.flatten, by simpa using k1, hl, by simp only [Shp, hu]; exact ⟨ps, rfl, k2, k3⟩⟩
      | slice e =>
        simp only [Bool.and_eq_true, decide_eq_true_eq] at hok
        obtain ⟨⟨hc1, hpos⟩, hoke⟩ := hok
        rcases Deep.open_slice hu h with ⟨rfl, _⟩ | ⟨a, len, cap, m, n, D, Pl, rfl, _, hlc, hcm, hm, _, hx⟩
        · exact ⟨[.slice .nilS (P.cellsOf e) []], .one .nilS rfl, by simp [hc1], by simp only [Shp, hu]; exact ⟨_, _, rfl, .inr ⟨rfl, rfl⟩, by simp, fun r hr => by simp at hr⟩⟩
        · simp only [if_true] at hm
          have hm' : cap = m := hm.symm
          subst hm'
          by_cases h0 : cap = 0
          · subst h0
            have : len = 0 := by omega
            subst this
            exact ⟨[.slice .any (P.cellsOf e) []], .one (.empty (.inl rfl)) rfl, by simp [hc1], by simp only [Shp, hu]; exact ⟨_, _, rfl, .inl rfl, by simp, fun r hr => by simp at hr⟩⟩
          · obtain ⟨blk, off, spot⟩ := a
            have hspot : spot = none := by
              obtain ⟨cs', h1, _⟩ := hx 0 (by omega)
              obtain ⟨_, hl', hg⟩ := World.cells?_some h1
              have := hg 0 hpos
              rw [List.getElem?_eq_getElem (by omega)] at this
              simpa [Addr.add] using World.cell?_spot this
            subst hspot
            obtain ⟨F, hF⟩ := Deep.choose_lt (α := List AV × List Value) (n := len) (p := fun i q => w.cells? 0 ((⟨blk, off, none⟩ : Addr).add (i * P.cellsOf e)) (P.cellsOf e) = some q.2 ∧ RL w q.1 q.2 ∧ q.2.length = P.cellsOf e ∧ Shp P d e q.1) (fun i hi => by
              obtain ⟨cs', h1, h2⟩ := hx i (by omega)
              obtain ⟨avs, k1, k2, k3⟩ := ih _ _ _ _ hoke h2
              exact ⟨(avs, cs'), h1, k1, k2, k3⟩)
            have hrows : ∀ i (hi : i < ((List.range len).map fun i => (F i).1).length), ((List.range len).map fun i => (F i).1)[i] = (F i).1 := fun i hi => by simp
            have hcell : ∀ i, i < len → ∀ j, j < P.cellsOf e → w.cell? ⟨blk, off + i * P.cellsOf e + j, none⟩ = (F i).2[j]? := by
              intro i hi j hj
              obtain ⟨_, _, hg⟩ := World.cells?_some (hF i hi).1
              have := hg j hj
              rw [add_plain, add_plain] at this
              exact this
            refine ⟨[.slice .any (P.cellsOf e) ((List.range len).map fun i => (F i).1)], .one ?_ rfl, by simp [hc1], ?_⟩
            · have hlen : ((List.range len).map fun i => (F i).1).length = len := by simp
              have := RelC.slice (I := fun b i => w.cell? ⟨b, i, none⟩) (o := .any) (es := P.cellsOf e) (xs := (List.range len).map fun i => (F i).1) (blk := blk) (off := off) (cap := cap) (fun i j => ((F i).2).getD j Go.undef) (.inl rfl) (by rw [hlen]; exact hlc)
                (fun r hr => by
                  obtain ⟨i, hi, rfl⟩ := List.mem_map.1 hr
                  have := hF i (by simpa using hi)
                  rw [this.2.1.len, this.2.2.1])
                (fun r hr c hc => by
                  obtain ⟨i, hi, rfl⟩ := List.mem_map.1 hr
                  have hFi := hF i (by simpa using hi)
                  obtain ⟨j, hj⟩ := List.getElem?_of_mem hc
                  have hjl := (List.getElem?_eq_some_iff.1 hj).1
                  exact (hFi.2.1.get j c ((F i).2[j]'(by rw [← hFi.2.1.len]; exact hjl)) hj (List.getElem?_eq_getElem _)).2)
                (fun i hi j hj => by
                  have hi' : i < len := by simpa using hi
                  have hFi := hF i hi'
                  rw [hrows i hi] at hj
                  have hj' : j < (F i).2.length := by rw [← hFi.2.1.len]; exact hj
                  rw [hcell i hi' j (by rw [← hFi.2.2.1]; exact hj'), List.getElem?_eq_getElem hj']
                  simp [List.getD, List.getElem?_eq_getElem hj'])
                (fun i hi j hj => by
                  have hi' : i < len := by simpa using hi
                  have hFi := hF i hi'
                  have hj2 : j < (F i).1.length := by rw [hrows i hi] at hj; exact hj
                  have hj' : j < (F i).2.length := by rw [← hFi.2.1.len]; exact hj2
                  have hg := (hFi.2.1.get j ((F i).1[j]) ((F i).2[j]) (List.getElem?_eq_getElem hj2) (List.getElem?_eq_getElem hj')).1
                  have e1 : ((List.range len).map fun i => (F i).1)[i][j] = (F i).1[j] := by simp
                  rw [e1, show ((F i).2).getD j Go.undef = (F i).2[j] by simp [List.getD, List.getElem?_eq_getElem hj']]
                  exact hg)
              rw [hlen] at this
              exact this
            · simp only [Shp, hu]
              exact ⟨_, _, rfl, .inl rfl, by simp; omega, fun r hr => by
                obtain ⟨i, hi, rfl⟩ := List.mem_map.1 hr
                have hFi := hF i (by simpa using hi)
                exact ⟨by rw [hFi.2.1.len, hFi.2.2.1], hFi.2.2.2⟩⟩
      | _ => cases hok
end
end Go.Ax

/-
  Computing with the executor: the steps, one by one.
-/
namespace Go.Ax.Sx
structure Ok (s : Sig) : Prop where
 ro : s.ro ≤ s.acts.length
 lro : s.lro ≤ s.loops.length
theorem Ok.push {s : Sig} (h : Ok s) (r : Rec) : Ok (s.push r) := ⟨by have := h.ro; simp [Sig.push]; omega, h.lro⟩
@[simp] theorem pop_push (s : Sig) (r : Rec) : (s.push r).pop = s := by simp [Sig.push, Sig.pop]
@[simp] theorem cur_push (s : Sig) (r : Rec) : (s.push r).cur = s.acts.length := by simp [Sig.push, Sig.cur]
theorem box_push (s : Sig) (r : Rec) (b : Nat) : (s.push r).box s.acts.length b = r.boxes[b]? := by simp [Sig.push, Sig.box]
theorem nbox_push (s : Sig) (r : Rec) : (s.push r).nbox s.acts.length = r.boxes.length := by simp [Sig.push, Sig.nbox]
theorem tok_push (s : Sig) (r : Rec) (g : Nat) : (s.push r).tok s.acts.length g = (r.toks[g]?).join := by simp [Sig.push, Sig.tok]
theorem ntok_push (s : Sig) (r : Rec) : (s.push r).ntok s.acts.length = r.toks.length := by simp [Sig.push, Sig.ntok]
theorem onRec_push (s : Sig) (r : Rec) (f : Rec → Rec) : (s.push r).onRec s.acts.length f = s.push (f r) := by
 simp only [Sig.push, Sig.onRec, Sig.mk.injEq, and_true]
 apply List.ext_getElem?
 intro i
 rw [List.getElem?_modify]
 by_cases h : i < s.acts.length
 ·rw [List.getElem?_append_left h, List.getElem?_append_left h]
  have : ¬ s.acts.length = i := by omega
  simp [this]
 ·rw [List.getElem?_append_right (by omega), List.getElem?_append_right (by omega)]
  by_cases h' : s.acts.length = i
  ·subst h'; simp
  ·have e : i - s.acts.length = (i - s.acts.length - 1) + 1 := by omega
   rw [e]; simp
theorem addBox_push (s : Sig) (r : Rec) (cs : List AV) : (s.push r).addBox s.acts.length cs = s.push ⟨r.boxes ++ [cs], r.toks⟩ := by rw [Sig.addBox, onRec_push]
theorem setBox_push (s : Sig) (r : Rec) (b : Nat) (cs : List AV) : (s.push r).setBox s.acts.length b cs = s.push ⟨r.boxes.set b cs, r.toks⟩ := by rw [Sig.setBox, onRec_push]
theorem addTok_push (s : Sig) (r : Rec) (n : Nat) : (s.push r).addTok s.acts.length n = s.push ⟨r.boxes, r.toks ++ [some n]⟩ := by rw [Sig.addTok, onRec_push]
theorem setTok_push (s : Sig) (r : Rec) (g : Nat) (n : Option Nat) : (s.push r).setTok s.acts.length g n = s.push ⟨r.boxes, r.toks.set g n⟩ := by rw [Sig.setTok, onRec_push]
theorem ro_push (s : Sig) (r : Rec) : (s.push r).ro = s.ro := rfl
section
variable {call : CallF} {ρ : Nat → AV} {m : Sig} {t : Nat} {rest : List AOper}
noncomputable def andThen (call : CallF) (d : Option Nat) (rest : List AOper) (ρ : Nat → AV) (r : Option (AV × Sig)) : Option St :=
 r.bind fun p => ops call rest ⟨putT ρ d p.1, p.2⟩
theorem ops_step {d : Option Nat} {op : AOp} : ops call (⟨d, none, op⟩ :: rest) ⟨ρ, m⟩ = andThen call d rest ρ (opv call (evalT ρ) m op) := by
 simp only [ops, wantedT, andThen, if_true]
 cases opv call (evalT ρ) m op <;> rfl
def onBool {β : Type} (x : AV) (f : Bool → β) (d : β) : β :=
 match x with
 | .v (.bool b) => f b
 | _ => d
theorem onBool_mk {β : Type} {b : Bool} {f : Bool → β} {d : β} : onBool (.v (.bool b)) f d = f b := rfl
theorem onBool_congr {β : Type} {x x' : AV} {f : Bool → β} {d : β} (h : x = x') : onBool x f d = onBool x' f d := by rw [h]
theorem put_self : put t (ρ t) ρ = ρ := by
 funext u; unfold put; split
 ·rename_i h; rw [h]
 ·rfl
theorem ops_guard {d : Option Nat} {op : AOp} {b : Bool} : ops call (⟨d, some (t, b), op⟩ :: rest) ⟨ρ, m⟩ =
  onBool (ρ t) (fun c => cond c
   (cond b (andThen call d rest (put t (.v (.bool true)) ρ) (opv call (evalT (put t (.v (.bool true)) ρ)) m op)) (ops call rest ⟨putT (put t (.v (.bool true)) ρ) d AV.undef, m⟩))
   (cond b (ops call rest ⟨putT (put t (.v (.bool false)) ρ) d AV.undef, m⟩) (andThen call d rest (put t (.v (.bool false)) ρ) (opv call (evalT (put t (.v (.bool false)) ρ)) m op))))
   (ops call rest ⟨putT ρ d AV.undef, m⟩) := by
 have hw : ∀ b', wantedV b (.v (.bool b')) = (b' == b) := fun _ => rfl
 by_cases h : ∃ c, ρ t = .v (.bool c)
 ·obtain ⟨c, h⟩ := h
  have e : put t (.v (.bool c)) ρ = ρ := by rw [← h]; exact put_self
  simp only [ops, wantedT, andThen, h, hw, onBool]
  cases c <;> cases b <;> simp [e] <;> (cases opv call (evalT ρ) m op <;> rfl)
 ·have h1 : wantedV b (ρ t) = false := by
   cases hx : ρ t with
   | v x => cases x with
    | bool c => exact absurd ⟨c, hx⟩ h
    | _ => rfl
   | _ => rfl
  have h2 : ∀ {β : Type} (f : Bool → β) (d : β), onBool (ρ t) f d = d := by
   intro β f d
   cases hx : ρ t with
   | v x => cases x with
    | bool c => exact absurd ⟨c, hx⟩ h
    | _ => rfl
   | _ => rfl
  simp [ops, wantedT, h1, h2]
end
inductive K where
 | c (a : ACode)
 | blk (id : Nat)
 | lp (a : ACode)
section
variable (AP : FuncId → Option AFn) (Fin : AExit → St → Option (AV × Sig))
noncomputable def goE : List K → AExit → St → Option (AV × Sig)
 | [], e, st => Fin e st
 | .c a :: ks, e, st => match e with
  | .normal => (runL AP a st).bind fun p => goE ks p.1 p.2
  | e => goE ks e st
 | .blk id :: ks, e, st => match e with
  | .exit j => if j = id then goE ks .normal st else goE ks (.exit j) st
  | e => goE ks e st
 | .lp a :: ks, e, st => match e with
  | .normal => (runL AP (.loop a) st).bind fun p => goE ks p.1 p.2
  | e => goE ks e st
noncomputable def go (ks : List K) (st : St) : Option (AV × Sig) := goE AP Fin ks .normal st
noncomputable def goO (l : List AOper) (ks : List K) (st : St) : Option (AV × Sig) := (ops (callL AP) l st).bind fun st' => go AP Fin ks st'
noncomputable def goX (id : Nat) (ks : List K) (st : St) : Option (AV × Sig) := goE AP Fin ks (.exit id) st
noncomputable def goR (ks : List K) (st : St) : Option (AV × Sig) := goE AP Fin ks .ret st
noncomputable def goV (d : Option Nat) (l : List AOper) (ks : List K) (ρ : Nat → AV) (r : Option (AV × Sig)) : Option (AV × Sig) := r.bind fun p => goO AP Fin l ks ⟨putT ρ d p.1, p.2⟩
def finF (rs : List ARes) (own : Bool) : AExit → St → Option (AV × Sig)
 | .exit _, _ => none
 | _, st => finish rs own st
def finR (l : Nat) (e : AExit) (st : St) : Option (AV × Sig) := endRound l (some (e, st))
variable {AP Fin} {ks : List K} {st : St} {a b : ACode} {ρ : Nat → AV} {m : Sig} {rest : List AOper}
theorem go_nil : go AP Fin [] st = Fin .normal st := rfl
theorem goX_nil {id : Nat} : goX AP Fin id [] st = Fin (.exit id) st := rfl
theorem goR_any : ∀ {ks : List K}, goR AP Fin ks st = Fin .ret st
 | [] => rfl
 | .c _ :: ks => (goR_any (ks := ks) : _)
 | .blk _ :: ks => (goR_any (ks := ks) : _)
 | .lp _ :: ks => (goR_any (ks := ks) : _)
theorem goX_c {id : Nat} : goX AP Fin id (.c a :: ks) st = goX AP Fin id ks st := rfl
theorem goX_lp {id : Nat} : goX AP Fin id (.lp a :: ks) st = goX AP Fin id ks st := rfl
theorem goX_blk {id j : Nat} : goX AP Fin id (.blk j :: ks) st = if id = j then go AP Fin ks st else goX AP Fin id ks st := rfl
theorem go_skip : go AP Fin (.c .skip :: ks) st = go AP Fin ks st := by simp [go, goE, runL_skip]
theorem go_exit {id : Nat} : go AP Fin (.c (.exit id) :: ks) st = goX AP Fin id ks st := by simp [go, goE, runL_exit, goX]
theorem go_ret : go AP Fin (.c .ret :: ks) st = Fin .ret st := by
 rw [← goR_any (AP := AP) (Fin := Fin) (ks := ks) (st := st)]; simp [go, goE, runL_ret, goR]
theorem go_blk {id : Nat} : go AP Fin (.blk id :: ks) st = go AP Fin ks st := rfl
theorem go_lp : go AP Fin (.lp a :: ks) st = go AP Fin (.c (.loop a) :: ks) st := rfl
theorem go_region {d : Bool} {l : List AOper} : go AP Fin (.c (.region d l) :: ks) st = goO AP Fin l ks st := by
 simp only [go, goE, runL_region, goO, Option.bind_map]; rfl
theorem go_seq : go AP Fin (.c (.seq a b) :: ks) st = go AP Fin (.c a :: .c b :: ks) st := by
 simp only [go, goE, runL_seq]
 cases h : runL AP a st with
 | none => rfl
 | some p => obtain ⟨e, st'⟩ := p; cases e <;> rfl
theorem go_block {id : Nat} : go AP Fin (.c (.block id a) :: ks) st = go AP Fin (.c a :: .blk id :: ks) st := by
 simp only [go, goE, runL_block]
 cases h : runL AP a st with
 | none => rfl
 | some p =>
  obtain ⟨e, st'⟩ := p
  cases e with
  | exit j => by_cases hj : j = id <;> simp [hj]
  | _ => rfl
theorem go_loop : go AP Fin (.c (.loop a) :: ks) st = go AP Fin (.c a :: .lp a :: ks) st := by
 simp only [go, goE]
 rw [runL_loop]
 cases h : runL AP a st with
 | none => rfl
 | some p => obtain ⟨e, st'⟩ := p; cases e <;> rfl
theorem go_cond {x : AOpd} : go AP Fin (.c (.cond x a b) :: ks) ⟨ρ, m⟩ = onBool (evalT ρ x) (fun t => cond t (go AP Fin (.c a :: ks) ⟨ρ, m⟩) (go AP Fin (.c b :: ks) ⟨ρ, m⟩)) none := by
 simp only [go, goE, runL_cond, onBool]
 cases evalT ρ x with
 | v y => cases y with
  | bool t => cases t <;> rfl
  | _ => rfl
 | _ => rfl
theorem goO_nil : goO AP Fin [] ks st = go AP Fin ks st := rfl
theorem goO_step {d : Option Nat} {op : AOp} : goO AP Fin (⟨d, none, op⟩ :: rest) ks ⟨ρ, m⟩ = goV AP Fin d rest ks ρ (opv (callL AP) (evalT ρ) m op) := by
 simp only [goO, ops_step, andThen, goV]
 cases opv (callL AP) (evalT ρ) m op <;> rfl
theorem goO_guard {d : Option Nat} {op : AOp} {t : Nat} {b : Bool} : goO AP Fin (⟨d, some (t, b), op⟩ :: rest) ks ⟨ρ, m⟩ =
  onBool (ρ t) (fun c => cond c
   (cond b (goO AP Fin (⟨d, none, op⟩ :: rest) ks ⟨put t (.v (.bool true)) ρ, m⟩) (goO AP Fin rest ks ⟨putT (put t (.v (.bool true)) ρ) d AV.undef, m⟩))
   (cond b (goO AP Fin rest ks ⟨putT (put t (.v (.bool false)) ρ) d AV.undef, m⟩) (goO AP Fin (⟨d, none, op⟩ :: rest) ks ⟨put t (.v (.bool false)) ρ, m⟩)))
   (goO AP Fin rest ks ⟨putT ρ d AV.undef, m⟩) := by
 simp only [goO, ops_guard, ops_step]
 have : ∀ (x : AV) (f : Bool → Option St) (d : Option St) (g : St → Option (AV × Sig)), (onBool x f d).bind g = onBool x (fun c => (f c).bind g) (d.bind g) := by
  intro x f d g
  cases x with
  | v y => cases y <;> rfl
  | _ => rfl
 rw [this]
 congr 1
 funext c
 cases c <;> cases b <;> rfl
theorem goO_guardTn {op : AOp} {t : Nat} : goO AP Fin (⟨none, some (t, true), op⟩ :: rest) ks ⟨ρ, m⟩ =
  onBool (ρ t) (fun c => cond c (goO AP Fin (⟨none, none, op⟩ :: rest) ks ⟨put t (.v (.bool true)) ρ, m⟩) (goO AP Fin rest ks ⟨put t (.v (.bool false)) ρ, m⟩)) (goO AP Fin rest ks ⟨ρ, m⟩) := by
 rw [goO_guard]; rfl
theorem goO_guardFn {op : AOp} {t : Nat} : goO AP Fin (⟨none, some (t, false), op⟩ :: rest) ks ⟨ρ, m⟩ =
  onBool (ρ t) (fun c => cond c (goO AP Fin rest ks ⟨put t (.v (.bool true)) ρ, m⟩) (goO AP Fin (⟨none, none, op⟩ :: rest) ks ⟨put t (.v (.bool false)) ρ, m⟩)) (goO AP Fin rest ks ⟨ρ, m⟩) := by
 rw [goO_guard]; rfl
def puts : List (Nat × AV) → (Nat → AV) → Nat → AV
 | [], ρ => ρ
 | (d, x) :: ws, ρ => put d x (puts ws ρ)
def undefs : List (Nat × AV) → List (Nat × AV)
 | [] => []
 | (d, _) :: ws => (d, AV.undef) :: undefs ws
noncomputable def ent (AP : FuncId → Option AFn) (Fin : AExit → St → Option (AV × Sig)) (c : Bool) (t : Nat) (b : Bool) (d : Nat) (op : AOp) (l : List AOper) (ks : List K) (ρ : Nat → AV) (m : Sig) : Option (AV × Sig) :=
 cond (c == b) (goO AP Fin (⟨some d, none, op⟩ :: l) ks ⟨put t (.v (.bool b)) ρ, m⟩) (goO AP Fin l ks ⟨put d AV.undef (put t (.v (.bool !b)) ρ), m⟩)
theorem goO_ent {d : Nat} {op : AOp} {t : Nat} {b : Bool} : goO AP Fin (⟨some d, some (t, b), op⟩ :: rest) ks ⟨ρ, m⟩ =
  onBool (ρ t) (fun c => ent AP Fin c t b d op rest ks ρ m) (goO AP Fin rest ks ⟨put d AV.undef ρ, m⟩) := by
 rw [goO_guard]
 congr 1
 funext c
 cases c <;> cases b <;> rfl
theorem ent_yT {d t : Nat} {op : AOp} : ent AP Fin true t true d op rest ks ρ m = goO AP Fin (⟨some d, none, op⟩ :: rest) ks ⟨put t (.v (.bool true)) ρ, m⟩ := rfl
theorem ent_yF {d t : Nat} {op : AOp} : ent AP Fin false t false d op rest ks ρ m = goO AP Fin (⟨some d, none, op⟩ :: rest) ks ⟨put t (.v (.bool false)) ρ, m⟩ := rfl
theorem ent_nT {d t : Nat} {op : AOp} : ent AP Fin false t true d op rest ks ρ m = goO AP Fin rest ks ⟨put d AV.undef (put t (.v (.bool false)) ρ), m⟩ := rfl
theorem ent_nF {d t : Nat} {op : AOp} : ent AP Fin true t false d op rest ks ρ m = goO AP Fin rest ks ⟨put d AV.undef (put t (.v (.bool true)) ρ), m⟩ := rfl
theorem goV_ts {t : Nat} {x : AV} {m' : Sig} : goV AP Fin (some t) rest ks ρ (some (x, m')) = goO AP Fin rest ks ⟨put t x ρ, m'⟩ := rfl
theorem put_put {t : Nat} {x y : AV} : put t x (put t y ρ) = put t x ρ := by
 funext u; unfold put; by_cases h : u = t <;> simp [h]
theorem put_swap {d t : Nat} {x y : AV} (h : (d == t) = false) : put d x (put t y ρ) = put t y (put d x ρ) := by
 have h : d ≠ t := by simpa using h
 funext u
 unfold put
 by_cases h1 : u = d
 ·subst h1; simp [h]
 ·by_cases h2 : u = t
  ·subst h2; simp [h1]
  ·simp [h1, h2]
def muxs (c b : Bool) : List (Nat × AV) → List (Nat × AV)
 | [] => []
 | (d, x) :: ws => (d, cond b (cond c x AV.undef) (cond c AV.undef x)) :: muxs c b ws
theorem muxs_eq (c b : Bool) : ∀ ws : List (Nat × AV), muxs c b ws = cond (c == b) ws (undefs ws)
 | [] => by cases c <;> cases b <;> rfl
 | (d, x) :: ws => by rw [muxs, muxs_eq c b ws]; cases c <;> cases b <;> rfl
structure GF where
 c : Bool
 t : Nat
 b : Bool
 ws : List (Nat × AV)
def actT : List GF → (Nat → AV) → Nat → AV
 | [], ρ => ρ
 | f :: fs, ρ => put f.t (.v (.bool f.b)) (puts f.ws (actT fs ρ))
def onAll : List GF → Bool
 | [] => true
 | f :: fs => onAll fs && (f.c == f.b)
def denT : List GF → (Nat → AV) → Nat → AV
 | [], ρ => ρ
 | f :: fs, ρ => cond (onAll fs) (cond (f.c == f.b) (put f.t (.v (.bool f.b)) (puts f.ws (denT fs ρ))) (put f.t (.v (.bool !f.b)) (puts (undefs f.ws) (denT fs ρ)))) (puts (undefs f.ws) (denT fs ρ))
def hasW (t : Nat) : List (Nat × AV) → Bool
 | [] => false
 | (d, _) :: ws => decide (t = d) || hasW t ws
def lookW (t : Nat) : List (Nat × AV) → AV
 | [] => AV.undef
 | (d, x) :: ws => if t = d then x else lookW t ws
def okF : List GF → Bool
 | [] => true
 | [_] => true
 | f :: g :: fs => hasW f.t g.ws && !decide (f.t = g.t) && okF (g :: fs)
theorem act_den : ∀ {fs : List GF} {ρ : Nat → AV}, onAll fs = true → denT fs ρ = actT fs ρ
 | [], _, _ => rfl
 | f :: fs, ρ, h => by
  simp only [onAll, Bool.and_eq_true] at h
  simp only [denT, actT, h.1, h.2, cond_true, act_den h.1]
theorem look_puts {t : Nat} : ∀ {ws : List (Nat × AV)} {ρ : Nat → AV}, hasW t ws = true → puts ws ρ t = lookW t ws
 | [], _, h => by simp [hasW] at h
 | (d, x) :: ws, ρ, h => by
  simp only [puts, put, lookW]
  by_cases e : t = d
  ·rw [if_pos e, if_pos e]
  ·rw [if_neg e, if_neg e]
   simp only [hasW, e, decide_false, Bool.false_or] at h
   exact look_puts h
theorem undef_puts {t : Nat} : ∀ {ws : List (Nat × AV)} {ρ : Nat → AV}, hasW t ws = true → puts (undefs ws) ρ t = AV.undef
 | [], _, h => by simp [hasW] at h
 | (d, x) :: ws, ρ, h => by
  simp only [undefs, puts, put]
  by_cases e : t = d
  ·rw [if_pos e]
  ·rw [if_neg e]
   simp only [hasW, e, decide_false, Bool.false_or] at h
   exact undef_puts h
theorem undef_keep {t : Nat} : ∀ {ws : List (Nat × AV)} {ρ : Nat → AV}, ρ t = AV.undef → puts (undefs ws) ρ t = AV.undef
 | [], _, h => h
 | (d, x) :: ws, ρ, h => by
  simp only [undefs, puts, put]
  by_cases e : t = d
  ·rw [if_pos e]
  ·rw [if_neg e]; exact undef_keep h
theorem off_undef {f g : GF} {fs : List GF} {ρ : Nat → AV} (h : okF (f :: g :: fs) = true) (ho : onAll (g :: fs) = false) : denT (g :: fs) ρ f.t = AV.undef := by
 simp only [okF, Bool.and_eq_true, Bool.not_eq_true', decide_eq_false_iff_not] at h
 simp only [onAll] at ho
 simp only [denT]
 cases h1 : onAll fs with
 | true =>
  rw [h1] at ho
  simp only [Bool.true_and] at ho
  simp only [ho, cond_true, cond_false, put]
  rw [if_neg h.1.2]
  exact undef_puts h.1.1
 | false =>
  simp only [cond_false]
  exact undef_puts h.1.1
noncomputable def goF (AP : FuncId → Option AFn) (Fin : AExit → St → Option (AV × Sig)) (fs : List GF) (l : List AOper) (ks : List K) (ρ : Nat → AV) (m : Sig) : Option (AV × Sig) := goO AP Fin l ks ⟨denT fs ρ, m⟩
noncomputable def goFV (AP : FuncId → Option AFn) (Fin : AExit → St → Option (AV × Sig)) (f : GF) (fs : List GF) (d : Nat) (l : List AOper) (ks : List K) (ρ : Nat → AV) (m : Sig) (r : Option (AV × Sig)) : Option (AV × Sig) :=
 cond (onAll (f :: fs)) (goV AP Fin (some d) l ks (actT (f :: fs) ρ) r) (goO AP Fin l ks ⟨put d AV.undef (denT (f :: fs) ρ), m⟩)
theorem goF_same {f : GF} {fs : List GF} {d : Nat} {op : AOp} (h : okF (f :: fs) = true) : goF AP Fin (f :: fs) (⟨some d, some (f.t, f.b), op⟩ :: rest) ks ρ m = goFV AP Fin f fs d rest ks ρ m (opv (callL AP) (evalT (actT (f :: fs) ρ)) m op) := by
 unfold goF goFV
 cases ha : onAll (f :: fs) with
 | true =>
  rw [act_den ha, goO_guard]
  have hg : actT (f :: fs) ρ f.t = .v (.bool f.b) := by simp [actT, put]
  have hp : put f.t (.v (.bool f.b)) (actT (f :: fs) ρ) = actT (f :: fs) ρ := by
   funext u; unfold put; by_cases e : u = f.t
   ·subst e; rw [if_pos rfl, hg]
   ·rw [if_neg e]
  rw [hg, onBool_mk]
  cases hb : f.b <;> rw [hb] at hp <;> simp only [cond_true, cond_false, goO_step] <;> rw [hp]
 | false =>
  simp only [cond_false]
  rw [goO_guard]
  have hg : denT (f :: fs) ρ f.t = AV.undef ∨ denT (f :: fs) ρ f.t = .v (.bool !f.b) := by
   cases h1 : onAll fs with
   | true =>
    simp only [onAll, h1, Bool.true_and] at ha
    right
    simp [denT, h1, ha, put]
   | false =>
    left
    simp only [denT, h1, cond_false]
    cases fs with
    | nil => simp [onAll] at h1
    | cons g fs => exact undef_keep (off_undef h h1)
  rcases hg with hg | hg
  ·rw [hg]; rfl
  ·have hp : put f.t (.v (.bool !f.b)) (denT (f :: fs) ρ) = denT (f :: fs) ρ := by
    funext u; unfold put; by_cases e : u = f.t
    ·subst e; rw [if_pos rfl, hg]
    ·rw [if_neg e]
   rw [hg, onBool_mk]
   cases hb : f.b <;> rw [hb] at hp <;> simp only [Bool.not_true, Bool.not_false, cond_true, cond_false] at hp ⊢ <;> rw [hp] <;> rfl
theorem goFV_some {f : GF} {fs : List GF} {d : Nat} {x : AV} (h : (decide (d = f.t)) = false) : goFV AP Fin f fs d rest ks ρ m (some (x, m)) = goF AP Fin (⟨f.c, f.t, f.b, (d, x) :: f.ws⟩ :: fs) rest ks ρ m := by
 have h' : (d == f.t) = false := by simpa using h
 unfold goFV goF
 cases ha : onAll (f :: fs) with
 | true =>
  have ha' : onAll (⟨f.c, f.t, f.b, (d, x) :: f.ws⟩ :: fs) = true := ha
  rw [act_den ha']
  simp only [cond_true, goV_ts, actT, puts]
  rw [put_swap h']
 | false =>
  simp only [cond_false, denT]
  cases h1 : onAll fs with
  | true =>
   simp only [onAll, h1, Bool.true_and] at ha
   simp only [cond_true, ha, cond_false, undefs, puts]
   rw [put_swap h']
  | false => simp only [cond_false, undefs, puts]
theorem puts_app {ws vs : List (Nat × AV)} : puts (ws ++ vs) ρ = puts ws (puts vs ρ) := by
 induction ws with
 | nil => rfl
 | cons p ws ih => obtain ⟨d, x⟩ := p; simp only [List.cons_append, puts, ih]
theorem undefs_app {ws vs : List (Nat × AV)} : undefs (ws ++ vs) = undefs ws ++ undefs vs := by
 induction ws with
 | nil => rfl
 | cons p ws ih => obtain ⟨d, x⟩ := p; simp only [List.cons_append, undefs, ih]
theorem undefs_muxs {c b : Bool} : ∀ {ws : List (Nat × AV)}, undefs (muxs c b ws) = undefs ws
 | [] => rfl
 | (d, x) :: ws => by simp only [muxs, undefs, undefs_muxs]
theorem puts_swap {t : Nat} {x : AV} : ∀ {ws : List (Nat × AV)} {ρ : Nat → AV}, hasW t ws = false → put t x (puts ws ρ) = puts ws (put t x ρ)
 | [], _, _ => rfl
 | (d, y) :: ws, ρ, h => by
  simp only [hasW, Bool.or_eq_false_iff, decide_eq_false_iff_not] at h
  simp only [puts]
  rw [put_swap (by simpa using h.1), puts_swap h.2]
theorem hasW_undefs {t : Nat} : ∀ {ws : List (Nat × AV)}, hasW t (undefs ws) = hasW t ws
 | [] => rfl
 | (d, y) :: ws => by simp only [undefs, hasW, hasW_undefs]
theorem put_same {t : Nat} {x : AV} (h : ρ t = x) : put t x ρ = ρ := by
 funext u; unfold put; by_cases e : u = t
 ·subst e; rw [if_pos rfl, h]
 ·rw [if_neg e]
theorem goF_pop {f g : GF} {fs : List GF} (l : List AOper) (h : okF (f :: g :: fs) = true) (hw : hasW f.t f.ws = false) (hv : hasW g.t f.ws = false) :
  goF AP Fin (f :: g :: fs) l ks ρ m = goF AP Fin (⟨g.c, g.t, g.b, muxs f.c f.b f.ws ++ (f.t, .v (.bool f.c)) :: g.ws⟩ :: fs) l ks ρ m := by
 simp only [okF, Bool.and_eq_true, Bool.not_eq_true', decide_eq_false_iff_not] at h
 have hne : (f.t == g.t) = false := by simpa using h.1.2
 have hu := undef_puts (t := f.t) (ws := g.ws) (ρ := denT fs ρ) h.1.1
 have hp : put f.t AV.undef (puts (undefs g.ws) (denT fs ρ)) = puts (undefs g.ws) (denT fs ρ) := put_same hu
 unfold goF
 congr 2
 simp only [denT, onAll, undefs_app, puts_app, undefs, puts, undefs_muxs, hp]
 cases h1 : onAll fs with
 | false => simp only [Bool.false_and, cond_false]
 | true =>
  simp only [Bool.true_and, cond_true]
  cases h2 : g.c == g.b with
  | false =>
   simp only [cond_false]
   exact (puts_swap (ws := undefs f.ws) (by rw [hasW_undefs]; exact hv)).symm
  | true =>
   simp only [cond_true, muxs_eq]
   cases h3 : f.c == f.b with
   | true =>
    simp only [cond_true]
    have e : f.c = f.b := by simpa using h3
    rw [e, ← puts_swap (ws := f.ws) hv, put_swap hne, puts_swap (ws := f.ws) hw]
   | false =>
    simp only [cond_false]
    have e : f.c = !f.b := by cases hc : f.c <;> cases hb : f.b <;> simp_all
    rw [e, ← puts_swap (ws := undefs f.ws) (by rw [hasW_undefs]; exact hv), put_swap hne, puts_swap (ws := undefs f.ws) (by rw [hasW_undefs]; exact hw)]
theorem goF_end {f : GF} (l : List AOper) : goF AP Fin [f] l ks ρ m = goO AP Fin l ks ⟨put f.t (.v (.bool f.c)) (puts (muxs f.c f.b f.ws) ρ), m⟩ := by
 unfold goF
 congr 2
 simp only [denT, onAll, cond_true, muxs_eq]
 cases hc : f.c <;> cases hb : f.b <;> rfl
theorem goF_push {f : GF} {fs : List GF} {c : Bool} {t : Nat} {b : Bool} (l : List AOper) (ht : hasW t f.ws = true) (hne : decide (t = f.t) = false) (hc : lookW t f.ws = .v (.bool c)) :
    goF AP Fin (f :: fs) l ks ρ m = goF AP Fin (⟨c, t, b, []⟩ :: f :: fs) l ks ρ m := by
  have hne : t ≠ f.t := by simpa using hne
  unfold goF
  congr 2
  simp only [denT.eq_2 ρ ⟨c, t, b, []⟩, puts, undefs]
  cases ha : onAll (f :: fs) with
  | false => rfl
  | true =>
    have hv : denT (f :: fs) ρ t = .v (.bool c) := by
      rw [act_den ha]
      simp only [actT, put]
      rw [if_neg hne, look_puts ht, hc]
    simp only [cond_true]
    cases hb : c == b with
    | true => have e : c = b := by simpa using hb
              subst e; exact (put_same hv).symm
    | false => have e : c = !b := by cases c <;> cases b <;> simp_all
               subst e; exact (put_same hv).symm
noncomputable def goS (AP : FuncId → Option AFn) (Fin : AExit → St → Option (AV × Sig)) (fs : List GF) (l : List AOper) (ks : List K) (ρ : Nat → AV) (m : Sig) : Option (AV × Sig) :=
 match fs with
 | f :: g :: r => goF AP Fin (⟨g.c, g.t, g.b, muxs f.c f.b f.ws ++ (f.t, .v (.bool f.c)) :: g.ws⟩ :: r) l ks ρ m
 | [f] => goO AP Fin l ks ⟨put f.t (.v (.bool f.c)) (puts (muxs f.c f.b f.ws) ρ), m⟩
 | [] => goO AP Fin l ks ⟨ρ, m⟩
def okP : List GF → Bool
 | f :: g :: _ => !hasW f.t f.ws && !hasW g.t f.ws
 | _ => true
theorem goF_goS {fs : List GF} (l : List AOper) (h : (okF fs && okP fs) = true) : goF AP Fin fs l ks ρ m = goS AP Fin fs l ks ρ m := by
 rw [Bool.and_eq_true] at h
 match fs with
 | [] => rfl
 | [f] => exact goF_end l
 | f :: g :: r =>
  have hp := h.2
  simp only [okP, Bool.and_eq_true, Bool.not_eq_true'] at hp
  exact goF_pop l h.1 hp.1 hp.2
theorem goF_guard {c : Bool} {t : Nat} {b : Bool} {ws : List (Nat × AV)} {fs : List GF} {d t' : Nat} {b' : Bool} {op : AOp} (h : (okF (⟨c, t, b, ws⟩ :: fs) && okP (⟨c, t, b, ws⟩ :: fs)) = true) :
  goF AP Fin (⟨c, t, b, ws⟩ :: fs) (⟨some d, some (t', b'), op⟩ :: rest) ks ρ m =
   if t' = t ∧ b' = b then goFV AP Fin ⟨c, t, b, ws⟩ fs d rest ks ρ m (opv (callL AP) (evalT (actT (⟨c, t, b, ws⟩ :: fs) ρ)) m op)
   else if t' ≠ t ∧ hasW t' ws = true then onBool (lookW t' ws) (fun c' => goF AP Fin (⟨c', t', b', []⟩ :: ⟨c, t, b, ws⟩ :: fs) (⟨some d, some (t', b'), op⟩ :: rest) ks ρ m) (goS AP Fin (⟨c, t, b, ws⟩ :: fs) (⟨some d, some (t', b'), op⟩ :: rest) ks ρ m)
   else goS AP Fin (⟨c, t, b, ws⟩ :: fs) (⟨some d, some (t', b'), op⟩ :: rest) ks ρ m := by
 by_cases h1 : t' = t ∧ b' = b
 ·rw [if_pos h1]
  obtain ⟨rfl, rfl⟩ := h1
  exact goF_same (f := ⟨c, t', b', ws⟩) (by rw [Bool.and_eq_true] at h; exact h.1)
 ·rw [if_neg h1]
  by_cases h2 : t' ≠ t ∧ hasW t' ws = true
  ·rw [if_pos h2]
   unfold onBool
   split
   ·rename_i c' hc
    exact goF_push _ h2.2 (by simpa using h2.1) hc
   ·exact goF_goS _ h
  ·rw [if_neg h2]
   exact goF_goS _ h
theorem goF_guard' {c : Bool} {t : Nat} {b : Bool} {ws : List (Nat × AV)} {fs : List GF} {d t' : Nat} {b' : Bool} {op : AOp} (h : (okF (⟨c, t, b, ws⟩ :: fs) && okP (⟨c, t, b, ws⟩ :: fs)) = true) :
  goF AP Fin (⟨c, t, b, ws⟩ :: fs) (⟨some d, some (t', b'), op⟩ :: rest) ks ρ m =
   if t' = t ∧ b' = b then goFV AP Fin ⟨c, t, b, ws⟩ fs d rest ks ρ m (opv (callL AP) (evalT (actT (⟨c, t, b, ws⟩ :: fs) ρ)) m op)
   else if t' = t then goS AP Fin (⟨c, t, b, ws⟩ :: fs) (⟨some d, some (t', b'), op⟩ :: rest) ks ρ m
   else cond (hasW t' ws) (onBool (lookW t' ws) (fun c' => goF AP Fin (⟨c', t', b', []⟩ :: ⟨c, t, b, ws⟩ :: fs) (⟨some d, some (t', b'), op⟩ :: rest) ks ρ m) (goS AP Fin (⟨c, t, b, ws⟩ :: fs) (⟨some d, some (t', b'), op⟩ :: rest) ks ρ m))
    (goS AP Fin (⟨c, t, b, ws⟩ :: fs) (⟨some d, some (t', b'), op⟩ :: rest) ks ρ m) := by
 rw [goF_guard h]
 by_cases h1 : t' = t ∧ b' = b
 ·rw [if_pos h1, if_pos h1]
 ·rw [if_neg h1, if_neg h1]
  by_cases h2 : t' = t
  ·rw [if_pos h2, if_neg (fun e => e.1 h2)]
  ·rw [if_neg h2]
   cases h3 : hasW t' ws
   ·simp [h2]
   ·simp [h2]
theorem goFV_off {f : GF} {fs : List GF} {d : Nat} {r r' : Option (AV × Sig)} (h : (f.c == f.b) = false) : goFV AP Fin f fs d rest ks ρ m r = goFV AP Fin f fs d rest ks ρ m r' := by
 unfold goFV
 have : onAll (f :: fs) = false := by simp only [onAll, h, Bool.and_false]
 rw [this]; rfl
theorem goF_off {f : GF} {fs : List GF} {d t' : Nat} {b' : Bool} {op : AOp} (h : (okF (f :: fs) && okP (f :: fs)) = true) (hd : decide (d = f.t) = false) (ho : (f.c == f.b) = false) :
  goF AP Fin (f :: fs) (⟨some d, some (t', b'), op⟩ :: rest) ks ρ m =
   if t' = f.t ∧ b' = f.b then goF AP Fin (⟨f.c, f.t, f.b, (d, AV.undef) :: f.ws⟩ :: fs) rest ks ρ m else goS AP Fin (f :: fs) (⟨some d, some (t', b'), op⟩ :: rest) ks ρ m := by
 by_cases h1 : t' = f.t ∧ b' = f.b
 ·rw [if_pos h1]
  obtain ⟨rfl, rfl⟩ := h1
  rw [goF_same (by rw [Bool.and_eq_true] at h; exact h.1), goFV_off ho (r' := some (AV.undef, m)), goFV_some hd]
 ·rw [if_neg h1]
  exact goF_goS _ h
theorem goF_offT {t : Nat} {ws : List (Nat × AV)} {fs : List GF} {d t' : Nat} {b' : Bool} {op : AOp} (h : (okF (⟨false, t, true, ws⟩ :: fs) && okP (⟨false, t, true, ws⟩ :: fs)) = true) (hd : decide (d = t) = false) :
  goF AP Fin (⟨false, t, true, ws⟩ :: fs) (⟨some d, some (t', b'), op⟩ :: rest) ks ρ m =
   if t' = t ∧ b' = true then goF AP Fin (⟨false, t, true, (d, AV.undef) :: ws⟩ :: fs) rest ks ρ m else goS AP Fin (⟨false, t, true, ws⟩ :: fs) (⟨some d, some (t', b'), op⟩ :: rest) ks ρ m := goF_off (f := ⟨false, t, true, ws⟩) h hd rfl
theorem goF_offF {t : Nat} {ws : List (Nat × AV)} {fs : List GF} {d t' : Nat} {b' : Bool} {op : AOp} (h : (okF (⟨true, t, false, ws⟩ :: fs) && okP (⟨true, t, false, ws⟩ :: fs)) = true) (hd : decide (d = t) = false) :
  goF AP Fin (⟨true, t, false, ws⟩ :: fs) (⟨some d, some (t', b'), op⟩ :: rest) ks ρ m =
   if t' = t ∧ b' = false then goF AP Fin (⟨true, t, false, (d, AV.undef) :: ws⟩ :: fs) rest ks ρ m else goS AP Fin (⟨true, t, false, ws⟩ :: fs) (⟨some d, some (t', b'), op⟩ :: rest) ks ρ m := goF_off (f := ⟨true, t, false, ws⟩) h hd rfl
theorem hasW_nil {t : Nat} : hasW t [] = false := rfl
theorem hasW_cons {t d : Nat} {x : AV} {ws : List (Nat × AV)} : hasW t ((d, x) :: ws) = if t = d then true else hasW t ws := by
 rw [hasW.eq_2]; by_cases h : t = d <;> simp [h]
theorem lookW_cons {t d : Nat} {x : AV} {ws : List (Nat × AV)} : lookW t ((d, x) :: ws) = if t = d then x else lookW t ws := .trans rfl rfl
theorem okF_1 {f : GF} : okF [f] = true := rfl
theorem okF_2 {c c' : Bool} {t t' : Nat} {b b' : Bool} {ws ws' : List (Nat × AV)} {fs : List GF} : okF (⟨c, t, b, ws⟩ :: ⟨c', t', b', ws'⟩ :: fs) = cond (hasW t ws') (if t = t' then false else okF (⟨c', t', b', ws'⟩ :: fs)) false := by
 rw [okF.eq_3]; simp only; cases hasW t ws' <;> by_cases h : t = t' <;> simp [h]
theorem okP_1 {f : GF} : okP [f] = true := rfl
theorem okP_2 {c c' : Bool} {t t' : Nat} {b b' : Bool} {ws ws' : List (Nat × AV)} {fs : List GF} : okP (⟨c, t, b, ws⟩ :: ⟨c', t', b', ws'⟩ :: fs) = cond (hasW t ws) false (cond (hasW t' ws) false true) := by
 show (!hasW t ws && !hasW t' ws) = _; cases hasW t ws <;> cases hasW t' ws <;> rfl
theorem actT_nil : actT [] ρ = ρ := rfl
theorem actT_cons {c : Bool} {t : Nat} {b : Bool} {ws : List (Nat × AV)} {fs : List GF} : actT (⟨c, t, b, ws⟩ :: fs) ρ = put t (.v (.bool b)) (puts ws (actT fs ρ)) := rfl
theorem goF_nod1 {c : Bool} {t : Nat} {b : Bool} {ws : List (Nat × AV)} {t' : Nat} {b' : Bool} {op : AOp} : goF AP Fin [⟨c, t, b, ws⟩] (⟨none, some (t', b'), op⟩ :: rest) ks ρ m =
  cond (c == b) (goO AP Fin (⟨none, some (t', b'), op⟩ :: rest) ks ⟨put t (.v (.bool b)) (puts ws ρ), m⟩) (goO AP Fin (⟨none, some (t', b'), op⟩ :: rest) ks ⟨put t (.v (.bool !b)) (puts (undefs ws) ρ), m⟩) := by
 unfold goF
 simp only [denT, onAll, cond_true]
 cases c == b <;> rfl
theorem goFV_other {c : Bool} {t : Nat} {b : Bool} {ws : List (Nat × AV)} {d : Nat} {x : AV} {m' : Sig} : goFV AP Fin ⟨c, t, b, ws⟩ [] d rest ks ρ m (some (x, m')) = cond (c == b) (goO AP Fin rest ks ⟨put d x (put t (.v (.bool b)) (puts ws ρ)), m'⟩) (goO AP Fin rest ks ⟨put d AV.undef (put t (.v (.bool !b)) (puts (undefs ws) ρ)), m⟩) := by
 unfold goFV
 simp only [onAll, Bool.true_and, denT, actT, cond_true]
 cases c == b <;> rfl
theorem ent_F {c : Bool} {d t : Nat} {b : Bool} {op : AOp} : ent AP Fin c t b d op rest ks ρ m = goF AP Fin [⟨c, t, b, []⟩] (⟨some d, some (t, b), op⟩ :: rest) ks ρ m := by
 unfold ent
 rw [goF_end]
 simp only [muxs, puts]
 rw [goO_ent]
 have e : put t (.v (.bool c)) ρ t = .v (.bool c) := by simp [put]
 rw [e, onBool_mk]
 unfold ent
 cases c <;> cases b <;> simp [put_put]
section
variable {c : Bool} {t : Nat} {b : Bool} {ws : List (Nat × AV)} {fs : List GF} {d t' : Nat} {b' : Bool} {op : AOp}
noncomputable def goK (AP : FuncId → Option AFn) (Fin : AExit → St → Option (AV × Sig)) (c : Bool) (t : Nat) (b : Bool) (ws : List (Nat × AV)) (fs : List GF) (l : List AOper) (ks : List K) (ρ : Nat → AV) (m : Sig) : Option (AV × Sig) := goF AP Fin (⟨c, t, b, ws⟩ :: fs) l ks ρ m
noncomputable def goKV (AP : FuncId → Option AFn) (Fin : AExit → St → Option (AV × Sig)) (c : Bool) (t : Nat) (b : Bool) (ws : List (Nat × AV)) (fs : List GF) (d : Nat) (l : List AOper) (ks : List K) (ρ : Nat → AV) (m : Sig) (r : Option (AV × Sig)) : Option (AV × Sig) := goFV AP Fin ⟨c, t, b, ws⟩ fs d l ks ρ m r
noncomputable def goKS (AP : FuncId → Option AFn) (Fin : AExit → St → Option (AV × Sig)) (c : Bool) (t : Nat) (b : Bool) (ws : List (Nat × AV)) (fs : List GF) (l : List AOper) (ks : List K) (ρ : Nat → AV) (m : Sig) : Option (AV × Sig) := goS AP Fin (⟨c, t, b, ws⟩ :: fs) l ks ρ m
theorem goK_congr {c' : Bool} {l : List AOper} (h : c = c') : goK AP Fin c t b ws fs l ks ρ m = goK AP Fin c' t b ws fs l ks ρ m := by rw [h]
theorem goKV_congr {r r' : Option (AV × Sig)} (h : r = r') : goKV AP Fin c t b ws fs d rest ks ρ m r = goKV AP Fin c t b ws fs d rest ks ρ m r' := by rw [h]
theorem goKS_congr {l : List AOper} : goKS AP Fin c t b ws fs l ks ρ m = goKS AP Fin c t b ws fs l ks ρ m := rfl
theorem ent_K : ent AP Fin c t b d op rest ks ρ m = goK AP Fin c t b [] [] (⟨some d, some (t, b), op⟩ :: rest) ks ρ m := ent_F
noncomputable def pushK (AP : FuncId → Option AFn) (Fin : AExit → St → Option (AV × Sig)) (x : AV) (t' : Nat) (b' : Bool) (c : Bool) (t : Nat) (b : Bool) (ws : List (Nat × AV)) (fs : List GF) (l : List AOper) (ks : List K) (ρ : Nat → AV) (m : Sig) : Option (AV × Sig) :=
 onBool x (fun c' => goK AP Fin c' t' b' [] (⟨c, t, b, ws⟩ :: fs) l ks ρ m) (goKS AP Fin c t b ws fs l ks ρ m)
theorem pushK_mk {c' : Bool} {l : List AOper} : pushK AP Fin (.v (.bool c')) t' b' c t b ws fs l ks ρ m = goK AP Fin c' t' b' [] (⟨c, t, b, ws⟩ :: fs) l ks ρ m := rfl
theorem pushK_undef {l : List AOper} : pushK AP Fin AV.undef t' b' c t b ws fs l ks ρ m = goKS AP Fin c t b ws fs l ks ρ m := rfl
theorem pushK_congr {x x' : AV} {l : List AOper} (h : x = x') : pushK AP Fin x t' b' c t b ws fs l ks ρ m = pushK AP Fin x' t' b' c t b ws fs l ks ρ m := by rw [h]
theorem goK_guard (h : (okF (⟨c, t, b, ws⟩ :: fs) && okP (⟨c, t, b, ws⟩ :: fs)) = true) :
  goK AP Fin c t b ws fs (⟨some d, some (t', b'), op⟩ :: rest) ks ρ m =
   if t' = t ∧ b' = b then goKV AP Fin c t b ws fs d rest ks ρ m (opv (callL AP) (evalT (actT (⟨c, t, b, ws⟩ :: fs) ρ)) m op)
   else if t' = t then goKS AP Fin c t b ws fs (⟨some d, some (t', b'), op⟩ :: rest) ks ρ m
   else if hasW t' ws = true then pushK AP Fin (lookW t' ws) t' b' c t b ws fs (⟨some d, some (t', b'), op⟩ :: rest) ks ρ m
   else goKS AP Fin c t b ws fs (⟨some d, some (t', b'), op⟩ :: rest) ks ρ m := by
 refine (goF_guard' h).trans ?_
 by_cases h1 : t' = t ∧ b' = b
 ·rw [if_pos h1, if_pos h1]; rfl
 ·rw [if_neg h1, if_neg h1]
  by_cases h2 : t' = t
  ·rw [if_pos h2, if_pos h2]; rfl
  ·rw [if_neg h2, if_neg h2]
   cases h3 : hasW t' ws
   ·rw [if_neg (by simp)]; rfl
   ·rw [if_pos rfl]; rfl
theorem goK_offT (h : (okF (⟨false, t, true, ws⟩ :: fs) && okP (⟨false, t, true, ws⟩ :: fs)) = true) (hd : decide (d = t) = false) :
  goK AP Fin false t true ws fs (⟨some d, some (t', b'), op⟩ :: rest) ks ρ m =
   if t' = t ∧ b' = true then goK AP Fin false t true ((d, AV.undef) :: ws) fs rest ks ρ m else goKS AP Fin false t true ws fs (⟨some d, some (t', b'), op⟩ :: rest) ks ρ m := goF_offT h hd
theorem goK_offF (h : (okF (⟨true, t, false, ws⟩ :: fs) && okP (⟨true, t, false, ws⟩ :: fs)) = true) (hd : decide (d = t) = false) :
  goK AP Fin true t false ws fs (⟨some d, some (t', b'), op⟩ :: rest) ks ρ m =
   if t' = t ∧ b' = false then goK AP Fin true t false ((d, AV.undef) :: ws) fs rest ks ρ m else goKS AP Fin true t false ws fs (⟨some d, some (t', b'), op⟩ :: rest) ks ρ m := goF_offF h hd
theorem goK_none {d : Option Nat} (h : (okF (⟨c, t, b, ws⟩ :: fs) && okP (⟨c, t, b, ws⟩ :: fs)) = true) : goK AP Fin c t b ws fs (⟨d, none, op⟩ :: rest) ks ρ m = goKS AP Fin c t b ws fs (⟨d, none, op⟩ :: rest) ks ρ m := goF_goS _ h
theorem goK_nod {g : GF} (h : (okF (⟨c, t, b, ws⟩ :: g :: fs) && okP (⟨c, t, b, ws⟩ :: g :: fs)) = true) : goK AP Fin c t b ws (g :: fs) (⟨none, some (t', b'), op⟩ :: rest) ks ρ m = goKS AP Fin c t b ws (g :: fs) (⟨none, some (t', b'), op⟩ :: rest) ks ρ m := goF_goS _ h
theorem goK_nod1 : goK AP Fin c t b ws [] (⟨none, some (t', b'), op⟩ :: rest) ks ρ m =
  cond (c == b) (goO AP Fin (⟨none, some (t', b'), op⟩ :: rest) ks ⟨put t (.v (.bool b)) (puts ws ρ), m⟩) (goO AP Fin (⟨none, some (t', b'), op⟩ :: rest) ks ⟨put t (.v (.bool !b)) (puts (undefs ws) ρ), m⟩) := goF_nod1
theorem goK_nil (h : (okF (⟨c, t, b, ws⟩ :: fs) && okP (⟨c, t, b, ws⟩ :: fs)) = true) : goK AP Fin c t b ws fs [] ks ρ m = goKS AP Fin c t b ws fs [] ks ρ m := goF_goS _ h
theorem goKS_1 {l : List AOper} : goKS AP Fin c t b ws [] l ks ρ m = goO AP Fin l ks ⟨put t (.v (.bool c)) (puts (muxs c b ws) ρ), m⟩ := rfl
theorem goKS_2 {c' : Bool} {ws' : List (Nat × AV)} {l : List AOper} : goKS AP Fin c t b ws (⟨c', t', b', ws'⟩ :: fs) l ks ρ m = goK AP Fin c' t' b' (muxs c b ws ++ (t, .v (.bool c)) :: ws') fs l ks ρ m := rfl
theorem goKV_same {x : AV} (h : (decide (d = t)) = false) : goKV AP Fin c t b ws fs d rest ks ρ m (some (x, m)) = goK AP Fin c t b ((d, x) :: ws) fs rest ks ρ m := goFV_some h
theorem goKV_other {x : AV} {m' : Sig} : goKV AP Fin c t b ws [] d rest ks ρ m (some (x, m')) = cond (c == b) (goO AP Fin rest ks ⟨put d x (put t (.v (.bool b)) (puts ws ρ)), m'⟩) (goO AP Fin rest ks ⟨put d AV.undef (put t (.v (.bool !b)) (puts (undefs ws) ρ)), m⟩) := goFV_other
end
theorem goV_t {t : Nat} {x : AV} {m' : Sig} : goV AP Fin (some t) rest ks ρ (some (x, m')) = goO AP Fin rest ks ⟨put t x ρ, m'⟩ := rfl
theorem goV_n {x : AV} {m' : Sig} : goV AP Fin none rest ks ρ (some (x, m')) = goO AP Fin rest ks ⟨ρ, m'⟩ := rfl
theorem goV_none {d : Option Nat} : goV AP Fin d rest ks ρ none = none := rfl
theorem goV_cond {d : Option Nat} {c : Bool} {x y : Option (AV × Sig)} : goV AP Fin d rest ks ρ (cond c x y) = cond c (goV AP Fin d rest ks ρ x) (goV AP Fin d rest ks ρ y) := by cases c <;> rfl
theorem goV_congr {d : Option Nat} {r r' : Option (AV × Sig)} (h : r = r') : goV AP Fin d rest ks ρ r = goV AP Fin d rest ks ρ r' := by rw [h]
theorem goO_congr : goO AP Fin rest ks st = goO AP Fin rest ks st := rfl
theorem go_congr : go AP Fin ks st = go AP Fin ks st := rfl
theorem callL_go {f : FuncId} {np nt : Nat} {b : ACode} {rs : List ARes} {own : Bool} (hf : AP f = some (.code np nt b rs own)) {as : List AV} {s : Sig} (hl : as.length = np) :
  callL AP (.fn f) as s = go AP (finF rs own) [.c b] ⟨argsT as, s.push ⟨[], []⟩⟩ := by
 rw [callL_fn hf, if_pos hl]
 simp only [go, goE]
 cases h : runL AP b ⟨argsT as, s.push ⟨[], []⟩⟩ with
 | none => rfl
 | some p => obtain ⟨e, st'⟩ := p; cases e <;> rfl
end
section
variable {ρ : Nat → AV} {m : Sig} {s : Sig} {call : CallF}
theorem evalT_tmp {t : Nat} : evalT ρ (.tmp t) = ρ t := .trans rfl rfl
theorem evalT_const {x : AV} : evalT ρ (.const x) = x := .trans rfl rfl
theorem put_lit {t u : Nat} {x : AV} : put t x ρ u = if u = t then x else ρ u := .trans rfl rfl
theorem argsT_0 {x : AV} {r : List AV} : argsT (x :: r) 0 = x := .trans rfl rfl
theorem argsT_s {x : AV} {r : List AV} {n : Nat} : argsT (x :: r) (n + 1) = argsT r n := .trans rfl rfl
theorem opv_move {x : AOpd} : opv call (evalT ρ) m (.move x) = some (evalT ρ x, m) := .trans rfl rfl
theorem opv_pick {c a b : AOpd} : opv call (evalT ρ) m (.pick c a b) = (pickOp (evalT ρ c) (evalT ρ a) (evalT ρ b)).map (·, m) := .trans rfl rfl
theorem opv_alloc {z : AV} {zs : List AV} : opv call (evalT ρ) m (.alloc (z :: zs)) = some (m.newBox (z :: zs)) := .trans rfl rfl
theorem opv_reserve {n : Nat} : opv call (evalT ρ) m (.reserve n) = some (AV.undef, m.reserve n) := .trans rfl rfl
theorem opv_loadr {q : Nat} {g : Bool} {n : Nat} {x : AOpd} : opv call (evalT ρ) m (.loadr q g n x) = (loadrOp m q g n (evalT ρ x)).map (·, m) := .trans rfl rfl
theorem opv_fill {q n : Nat} {x y : AOpd} : opv call (evalT ρ) m (.fill q n x y) = (fillOp m q n (evalT ρ x) (evalT ρ y)).map (AV.undef, ·) := .trans rfl rfl
theorem opv_slot {b : Nat} {zs : List AV} : opv call (evalT ρ) m (.slot b zs) = slotOp m b zs := .trans rfl rfl
theorem opv_box {n : Nat} {x : AOpd} : opv call (evalT ρ) m (.box n x) = boxOp m n (evalT ρ x) := .trans rfl rfl
theorem opv_build {zs : List AV} {ps : List (Nat × Nat × AOpd)} : opv call (evalT ρ) m (.build zs ps) = (buildCells zs (evalT ρ) ps).map fun cs => (.agg cs, m) := .trans rfl rfl
theorem opv_buildSlice {es : Nat} {rows : List (List AV)} {ps : List (Nat × AOpd)} : opv call (evalT ρ) m (.buildSlice es rows ps) = (buildRows rows (evalT ρ) ps).map fun rs => (.slice .full es rs, m) := .trans rfl rfl
theorem opv_load {g : Bool} {n : Nat} {x : AOpd} : opv call (evalT ρ) m (.load g n x) = (m.load g n (evalT ρ x)).map (·, m) := .trans rfl rfl
theorem opv_store {n : Nat} {x y : AOpd} : opv call (evalT ρ) m (.store n x y) = (m.store n (evalT ρ x) (evalT ρ y)).map (AV.undef, ·) := .trans rfl rfl
theorem opv_nilCheck {x : AOpd} : opv call (evalT ρ) m (.nilCheck x) = (nilCheckOp (evalT ρ x)).map (·, m) := .trans rfl rfl
theorem opv_arith {op : BinOp} {x y : AOpd} : opv call (evalT ρ) m (.arith op x y) = (arithOp op (evalT ρ x) (evalT ρ y)).map (·, m) := .trans rfl rfl
theorem opv_eqv {neg : Bool} {k : EqKind} {x y : AOpd} : opv call (evalT ρ) m (.eqv neg k x y) = (eqOp k (evalT ρ x) (evalT ρ y)).map fun t => (.v (.bool (if neg then !t else t)), m) := .trans rfl rfl
theorem opv_un {op : UnOp} {x : AOpd} : opv call (evalT ρ) m (.un op x) = (unOp op (evalT ρ x)).map (·, m) := .trans rfl rfl
theorem opv_conv {k : ConvKind} {x : AOpd} : opv call (evalT ρ) m (.conv k x) = (convOp k (evalT ρ x)).map (·, m) := .trans rfl rfl
theorem opv_mkIface {t : TypeId} {x : AOpd} : opv call (evalT ρ) m (.mkIface t x) = (ifaceOp t (evalT ρ x)).map (·, m) := .trans rfl rfl
theorem opv_mkFn {f : FuncId} {first caps : List AOpd} : opv call (evalT ρ) m (.mkFn f first caps) = if (first.map (evalT ρ)).all AV.isClosedV then some (.fn f (first.map (evalT ρ)) (caps.map (evalT ρ)), m) else none := .trans rfl rfl
theorem opv_mkSlice {es : Nat} {zs : List AV} {len cap : AOpd} : opv call (evalT ρ) m (.mkSlice es zs len cap) = mkSliceOp m es zs (evalT ρ len) (evalT ρ cap) := .trans rfl rfl
theorem opv_slice {k : SlKind} {x : AOpd} {lo hi mx : Option AOpd} : opv call (evalT ρ) m (.slice k x lo hi mx) = (sliceOp k (evalT ρ x) (evalOpt (evalT ρ) lo) (evalOpt (evalT ρ) hi) (evalOpt (evalT ρ) mx)).map (·, m) := .trans rfl rfl
theorem opv_fieldAddr {off : Nat} {x : AOpd} : opv call (evalT ρ) m (.fieldAddr off x) = (ptrAdd off (evalT ρ x)).map (·, m) := .trans rfl rfl
theorem opv_indexAddr {arr : Option Nat} {es : Nat} {x i : AOpd} : opv call (evalT ρ) m (.indexAddr arr es x i) = (indexAddrOp arr es (evalT ρ x) (evalT ρ i)).map (·, m) := .trans rfl rfl
theorem opv_indexStr {x i : AOpd} : opv call (evalT ρ) m (.indexStr x i) = (indexStrOp (evalT ρ x) (evalT ρ i)).map (·, m) := .trans rfl rfl
theorem opv_index {n es : Nat} {g : Bool} {x i : AOpd} : opv call (evalT ρ) m (.index n es g x i) = (indexOp n es g (evalT ρ x) (evalT ρ i)).map (·, m) := .trans rfl rfl
theorem opv_field {g : Bool} {n off : Nat} {x : AOpd} : opv call (evalT ρ) m (.field g n off x) = (fieldOp g n off (evalT ρ x)).map (·, m) := .trans rfl rfl
theorem opv_extract {i : Nat} {x : AOpd} : opv call (evalT ρ) m (.extract i x) = (extractOp i (evalT ρ x)).map (·, m) := .trans rfl rfl
theorem opv_call {ro : Bool} {f : FuncId} {as : List AOpd} : opv call (evalT ρ) m (.call ro f as) = doCall call ro m (.fn f) (as.map (evalT ρ)) := .trans rfl rfl
theorem opv_fcall {ro : Bool} {zs : List AV} {f : FuncId} {as : List AOpd} : opv call (evalT ρ) m (.fcall ro zs f as) = fcallOp call ro m zs (.fn f) (as.map (evalT ρ)) := .trans rfl rfl
theorem opv_callo {f : FuncId} {as : List AOpd} : opv call (evalT ρ) m (.callo f as) = calloOp call m f (as.map (evalT ρ)) := .trans rfl rfl
theorem opv_callv {ro : Bool} {x : AOpd} {as : List AOpd} : opv call (evalT ρ) m (.callv ro x as) = callvOp call ro m (evalT ρ x) (as.map (evalT ρ)) := .trans rfl rfl
theorem opv_appendm {es : Nat} {x y : AOpd} : opv call (evalT ρ) m (.appendm es x y) = appendmOp m es (evalT ρ x) (evalT ρ y) := .trans rfl rfl
theorem opv_copy {x y : AOpd} : opv call (evalT ρ) m (.copy x y) = copyOp m (evalT ρ x) (evalT ρ y) := .trans rfl rfl
theorem opv_buildFz {es : Nat} {row : List AV} {t : Nat} : opv call (evalT ρ) m (.buildFz es row t) = buildFzOp m es row (ρ t) := .trans rfl rfl
theorem opv_append {es : Nat} {x y : AOpd} : opv call (evalT ρ) m (.append es x y) = appendOp m es (evalT ρ x) (evalT ρ y) := .trans rfl rfl
theorem opv_len {b : Bool} {x : AOpd} : opv call (evalT ρ) m (.len b x) = (lenOp b (evalT ρ x)).map (·, m) := .trans rfl rfl
theorem opv_lenArr {n : Nat} : opv call (evalT ρ) m (.lenArr n) = some (.v (.int .i64 n), m) := .trans rfl rfl
theorem opv_minmax {mx : Bool} {xs : List AOpd} : opv call (evalT ρ) m (.minmax mx xs) = (minmaxOp mx (xs.map (evalT ρ))).map (·, m) := .trans rfl rfl
theorem doCall_f {t : Target} {as : List AV} : doCall call false m t as = call t as m := .trans rfl rfl
def roS (m : Sig) : Sig := { m with ro := m.acts.length, lro := m.loops.length }
theorem ok_roS : Ok (roS m) := ⟨Nat.le_refl _, Nat.le_refl _⟩
theorem doCall_t {t : Target} {as : List AV} : doCall call true m t as = (call t as (roS m)).map fun p => (p.1, m) := .trans rfl rfl
theorem callv_fn {f : FuncId} {a b as : List AV} {ro : Bool} : callvOp call ro m (.fn f a b) as = doCall call ro m (.fn f) (a ++ as ++ b) := .trans rfl rfl
theorem callv_yield {l : Nat} {as : List AV} {ro : Bool} : callvOp call ro m (.yield l) as = doCall call ro m (.yield l) as := .trans rfl rfl
theorem pick_b {c : Bool} {a b : AV} : pickOp (.v (.bool c)) a b = some (cond c a b) := by cases c <;> rfl
theorem newBox_push {r : Rec} {cs : List AV} : (s.push r).newBox cs = (.ptr s.acts.length r.boxes.length 0, s.push ⟨r.boxes ++ [cs], r.toks⟩) := by
 rw [Sig.newBox, cur_push, nbox_push, addBox_push]
def fitN : Nat → List AV → Bool
 | 0, [] => true
 | n + 1, x :: r => x.isCell && fitN n r
 | _, _ => false
theorem fitN_iff : ∀ {n : Nat} {l : List AV}, fitN n l = true ↔ l.length = n ∧ l.all AV.isCell = true
 | 0, [] => by simp [fitN]
 | 0, _ :: _ => by simp [fitN]
 | n + 1, [] => by simp [fitN]
 | n + 1, x :: r => by simp only [fitN, Bool.and_eq_true, fitN_iff (n := n) (l := r), List.length_cons, List.all_cons]; constructor <;> (rintro ⟨h1, h2, h3⟩; exact ⟨by omega, by simp_all⟩)
theorem boxOp_eq {n : Nat} {y : AV} : boxOp m (n + 1) y = cond (fitN (n + 1) y.cells) (some (m.newBox y.cells)) none := by
 unfold boxOp
 cases h : fitN (n + 1) y.cells with
 | true => rw [if_pos ⟨(fitN_iff.1 h).1, (fitN_iff.1 h).2, Nat.succ_pos n⟩]; rfl
 | false => rw [if_neg (fun e => by rw [fitN_iff.2 ⟨e.1, e.2.1⟩] at h; cases h)]; rfl
theorem reserve_push {r : Rec} {n : Nat} : (s.push r).reserve n = s.push ⟨r.boxes ++ List.replicate n [], r.toks⟩ := by
 rw [Sig.reserve, cur_push, onRec_push]
def slotL (bs : List (List AV)) (tk : List (Option Nat)) (back : Nat) (zs : List AV) : Option (Nat × List (List AV)) :=
 if tk.any Option.isNone then none else
 match bs[bs.length - back]? with
 | some [] => if zs.isEmpty then none else some (bs.length - back, bs.set (bs.length - back) zs)
 | _ => none
theorem noneTok_push (s : Sig) (r : Rec) : (s.push r).noneTok s.acts.length = r.toks.any Option.isNone := by simp [Sig.push, Sig.noneTok]
theorem slotOp_eq {r : Rec} {back : Nat} {zs : List AV} : slotOp (s.push r) back zs = (slotL r.boxes r.toks back zs).map fun p => (.ptr s.acts.length p.1 0, s.push ⟨p.2, r.toks⟩) := by
 obtain ⟨bs, tk⟩ := r
 unfold slotOp slotL
 simp only [cur_push, nbox_push, box_push, setBox_push, noneTok_push]
 cases hq : tk.any Option.isNone with
 | false =>
  simp only [Bool.false_eq_true, or_false, if_false]
  split
  ·rename_i h; rw [h]; simp only; split <;> rfl
  ·rename_i h
   split
   ·rename_i h'; exact absurd h' (by simpa using h)
   ·rfl
 | true =>
  simp only [or_true, if_true]
  split <;> rfl
theorem load_any {g : Bool} {n d b off : Nat} : m.load g n (.ptr d b off) = (m.box d b).bind fun cs => part g n cs off := by
 simp only [Sig.load, Sig.row]
 cases m.box d b <;> rfl
theorem box_keep {d b : Nat} {cs : List AV} (h : m.box d b = some cs) (r : Rec) : (m.push r).box d b = some cs := by
 simp only [Sig.box, Sig.push] at h ⊢
 rw [List.getElem?_append_left]
 ·exact h
 ·apply Classical.byContradiction
  intro hn
  rw [List.getElem?_eq_none (by omega)] at h
  cases h
theorem load_eptr {g : Bool} {n off : Nat} {cs : List AV} : m.load g n (.eptr cs off) = part g n cs off := rfl
theorem part_f {n off : Nat} {cs : List AV} : part false n cs off = cs[off]? := rfl
def cutN : Nat → Nat → List AV → Option (List AV)
 | 0, 0, _ => some []
 | 0, n + 1, x :: r => (cutN 0 n r).map (x :: ·)
 | off + 1, n, _ :: r => cutN off n r
 | _, _, [] => none
theorem cutN_eq : ∀ (off n : Nat) (cs : List AV), cutN off n cs = if off + n ≤ cs.length then some ((cs.drop off).take n) else none
 | 0, 0, _ => by simp [cutN]
 | 0, n + 1, [] => by simp [cutN]
 | 0, n + 1, x :: r => by
  have := cutN_eq 0 n r
  simp only [cutN, this, List.drop_zero, List.length_cons, List.take_succ_cons, Nat.zero_add]
  by_cases h : n ≤ r.length
  ·rw [if_pos h, if_pos (by omega)]; rfl
  ·rw [if_neg h, if_neg (by omega)]; rfl
 | off + 1, n, [] => by simp [cutN]
 | off + 1, n, x :: r => by
  have := cutN_eq off n r
  simp only [cutN, this, List.length_cons, List.drop_succ_cons]
  by_cases h : off + n ≤ r.length
  ·rw [if_pos h, if_pos (by omega)]
  ·rw [if_neg h, if_neg (by omega)]
theorem part_t {n off : Nat} {cs : List AV} : part true n cs off = (cutN off n cs).map .agg := by
 rw [cutN_eq]; unfold part; by_cases h : off + n ≤ cs.length <;> simp [h]
def overN : List AV → Nat → List AV → Option (List AV)
 | row, 0, [] => some row
 | _ :: row, 0, c :: cs => (overN row 0 cs).map (c :: ·)
 | x :: row, off + 1, cs => (overN row off cs).map (x :: ·)
 | [], _, _ => none
theorem setCells_cons (x : AV) : ∀ (cs : List AV) (row : List AV) (off : Nat), setCells (x :: row) (off + 1) cs = x :: setCells row off cs
 | [], _, _ => rfl
 | c :: cs, row, off => by simp only [setCells, List.set_cons_succ]; exact setCells_cons x cs _ _
theorem overN_eq : ∀ (row : List AV) (off : Nat) (cs : List AV), overN row off cs = if off + cs.length ≤ row.length then some (setCells row off cs) else none
 | row, 0, [] => by simp [overN, setCells]
 | [], 0, c :: cs => by simp [overN]
 | x :: row, 0, c :: cs => by
  simp only [overN, overN_eq row 0 cs, setCells, List.set_cons_zero, List.length_cons, Nat.zero_add]
  by_cases h : cs.length ≤ row.length
  ·rw [if_pos h, if_pos (by omega)]; simp [setCells_cons c cs row 0]
  ·rw [if_neg h, if_neg (by omega)]; rfl
 | [], off + 1, cs => by simp [overN]
 | x :: row, off + 1, cs => by
  simp only [overN, overN_eq row off cs, List.length_cons, setCells_cons]
  by_cases h : off + cs.length ≤ row.length
  ·rw [if_pos h, if_pos (by omega)]; rfl
  ·rw [if_neg h, if_neg (by omega)]; rfl
theorem ro_le {r : Rec} (h : Ok s) : (s.push r).ro ≤ s.acts.length := h.ro
theorem store_ptr {r : Rec} {n b off : Nat} {y : AV} (h : Ok s) :
  (s.push r).store n (.ptr s.acts.length b off) y = cond (fitN n y.cells) (((r.boxes[b]?).bind fun row => overN row off y.cells).map fun row => s.push ⟨r.boxes.set b row, r.toks⟩) none := by
 cases hy : fitN n y.cells with
 | false =>
  have : ¬ (y.cells.length = n ∧ y.cells.all AV.isCell = true) := fun e => by rw [fitN_iff.2 e] at hy; cases hy
  simp only [Sig.store, cond_false]
  rw [if_neg (fun e => this e.2)]
 | true =>
  have hy := fitN_iff.1 hy
  simp only [Sig.store, cond_true]
  rw [if_pos ⟨ro_le h, hy.1, hy.2⟩, cur_push, if_pos rfl]
  simp only [box_push]
  cases r.boxes[b]? with
  | none => rfl
  | some row =>
   simp only [Option.bind_some, overN_eq, hy.1]
   by_cases hq : off + n ≤ row.length
   ·simp only [if_pos hq, setBox_push, Option.map_some]
   ·simp only [if_neg hq, Option.map_none]
theorem fillRow_eq {cs : List AV} {off size : Nat} {x : AV} : fillRow cs off size x = cond (fitN size x.cells) (overN cs off x.cells) none := by
 unfold fillRow
 cases h : fitN size x.cells with
 | true =>
  have := fitN_iff.1 h
  rw [cond_true, overN_eq, this.1]
  by_cases hq : off + size ≤ cs.length
  ·rw [if_pos ⟨rfl, hq, this.2⟩, if_pos hq]
  ·rw [if_neg (fun e => hq e.2.1), if_neg hq]
 | false => rw [if_neg (fun e => by rw [fitN_iff.2 ⟨e.1, e.2.2⟩] at h; cases h)]; rfl
theorem buildCells_nil {cs : List AV} {f : AOpd → AV} : buildCells cs f [] = some cs := rfl
theorem buildCells_cons {cs : List AV} {f : AOpd → AV} {off size : Nat} {x : AOpd} {r : List (Nat × Nat × AOpd)} : buildCells cs f ((off, size, x) :: r) = (cond (fitN size (f x).cells) (overN cs off (f x).cells) none).bind fun cs' => buildCells cs' f r := by
 rw [← fillRow_eq]; simp only [buildCells]; cases fillRow cs off size (f x) <;> rfl
theorem buildRows_nil {rows : List (List AV)} {f : AOpd → AV} : buildRows rows f [] = some rows := rfl
def sameLen : List AV → List AV → Bool
 | [], [] => true
 | _ :: a, _ :: b => sameLen a b
 | _, _ => false
theorem sameLen_eq : ∀ (a b : List AV), sameLen a b = decide (a.length = b.length)
 | [], [] => rfl
 | [], _ :: _ => rfl
 | _ :: _, [] => rfl
 | _ :: a, _ :: b => by simp [sameLen, sameLen_eq a b]
theorem buildRows_cons {rows : List (List AV)} {f : AOpd → AV} {i : Nat} {x : AOpd} {r : List (Nat × AOpd)} : buildRows rows f ((i, x) :: r) = (rows[i]?).bind fun row => (closeAll (f x).cells).bind fun cs => cond (sameLen cs row) (buildRows (rows.set i cs) f r) none := by
 simp only [buildRows, sameLen_eq]
 cases rows[i]? with
 | none => rfl
 | some row => cases closeAll (f x).cells with
  | none => rfl
  | some cs => by_cases h : cs.length = row.length <;> simp [h]
theorem closeAll_nil : closeAll [] = some [] := rfl
theorem closeAll_cons {x : AV} {r : List AV} : closeAll (x :: r) = x.close.bind fun y => (closeAll r).map fun s => y :: s := by
 simp only [closeAll]; cases x.close <;> cases closeAll r <;> rfl
theorem close_int {k : IntKind} {n : Int} : AV.close (.v (.int k n)) = some (.v (.int k n)) := rfl
theorem close_bool {b : Bool} : AV.close (.v (.bool b)) = some (.v (.bool b)) := rfl
theorem close_str {b : ByteArray} : AV.close (.v (.string b)) = some (.v (.string b)) := rfl
theorem close_nilS {es : Nat} {xs : List (List AV)} : AV.close (.slice .nilS es xs) = some (.slice .nilS es xs) := rfl
theorem close_any {es : Nat} {xs : List (List AV)} : AV.close (.slice .any es xs) = some (.slice .any es xs) := rfl
theorem close_full {es : Nat} {xs : List (List AV)} : AV.close (.slice .full es xs) = some (.slice .full es xs) := rfl
theorem close_tok {d g es : Nat} {xs : List (List AV)} : AV.close (.slice (.tok d g) es xs) = some (.slice .any es xs) := rfl
theorem ptrAdd_p {off d b o : Nat} : ptrAdd off (.ptr d b o) = some (.ptr d b (o + off)) := rfl
theorem ptrAdd_e {off o : Nat} {cs : List AV} : ptrAdd off (.eptr cs o) = some (.eptr cs (o + off)) := rfl
end
end Go.Ax.Sx

/-
  The rules to compute with, as one set.
-/
namespace Go.Ax.Sx
attribute [go_sem ↓] cond_true cond_false go_skip go_exit go_ret go_blk go_lp go_region go_seq go_block goO_nil goO_step goO_ent ent_yT ent_yF ent_nT ent_nF goO_guardTn goO_guardFn goX_c goX_lp goX_blk
attribute [go_sem] go_nil goX_nil go_cond goV_t goV_n goV_none goV_cond onBool_mk
attribute [go_sem ↓ low] ent_K
attribute [go_sem high] goK_offT goK_offF
attribute [go_sem] pushK_mk pushK_undef goK_guard goK_none goK_nod goK_nod1 goK_nil goKS_1 goKS_2 goKV_same puts undefs muxs hasW_nil hasW_cons lookW_cons okF_1 okF_2 okP_1 okP_2 actT_nil actT_cons
attribute [go_sem low] goKV_other
attribute [congr] pushK_congr goK_congr goKV_congr goKS_congr onBool_congr goV_congr goO_congr go_congr
attribute [go_sem ↓] evalT_tmp evalT_const put_lit argsT_0 argsT_s
attribute [go_sem ↓] opv_move opv_pick opv_alloc opv_reserve opv_slot opv_loadr opv_fill opv_box opv_build opv_buildSlice opv_load opv_store opv_nilCheck opv_arith opv_eqv opv_un opv_conv opv_mkIface opv_mkFn opv_mkSlice opv_slice opv_fieldAddr opv_indexAddr opv_indexStr opv_index opv_field opv_extract opv_call opv_fcall opv_callo opv_callv opv_append opv_appendm opv_copy opv_buildFz opv_len opv_lenArr opv_minmax
attribute [go_sem] doCall_t ok_roS Ok.push doCall_f callv_fn callv_yield pick_b newBox_push reserve_push slotOp_eq load_any box_push load_eptr part_f part_t store_ptr fitN cutN overN ptrAdd_p ptrAdd_e boxOp_eq
section
variable {a b : Int} {c d : Bool}
theorem ar_add : arithOp .add (.v (.int .i64 a)) (.v (.int .i64 b)) = some (.v (.int .i64 (IntKind.i64.wrap (a + b)))) := rfl
theorem ar_sub : arithOp .sub (.v (.int .i64 a)) (.v (.int .i64 b)) = some (.v (.int .i64 (IntKind.i64.wrap (a - b)))) := rfl
theorem ar_mul : arithOp .mul (.v (.int .i64 a)) (.v (.int .i64 b)) = some (.v (.int .i64 (IntKind.i64.wrap (a * b)))) := rfl
theorem ar_quo (h : (b == 0) = false) : arithOp .quo (.v (.int .i64 a)) (.v (.int .i64 b)) = some (.v (.int .i64 (IntKind.i64.wrap (a.tdiv b)))) := by
 have : b ≠ 0 := by simpa using h
 simp [arithOp, isShift, intOp, this]
theorem ar_rem (h : (b == 0) = false) : arithOp .rem (.v (.int .i64 a)) (.v (.int .i64 b)) = some (.v (.int .i64 (a.tmod b))) := by
 have : b ≠ 0 := by simpa using h
 simp [arithOp, isShift, intOp, this]
theorem ar_eql : arithOp .eql (.v (.int .i64 a)) (.v (.int .i64 b)) = some (.v (.bool (decide (a = b)))) := by
 simp only [arithOp, isShift, intOp]; by_cases h : a = b <;> simp [h]
theorem ar_neq : arithOp .neq (.v (.int .i64 a)) (.v (.int .i64 b)) = some (.v (.bool (decide (a ≠ b)))) := by
 simp only [arithOp, isShift, intOp]; by_cases h : a = b <;> simp [h]
theorem ar_lss : arithOp .lss (.v (.int .i64 a)) (.v (.int .i64 b)) = some (.v (.bool (decide (a < b)))) := rfl
theorem ar_leq : arithOp .leq (.v (.int .i64 a)) (.v (.int .i64 b)) = some (.v (.bool (decide (a ≤ b)))) := rfl
theorem ar_gtr : arithOp .gtr (.v (.int .i64 a)) (.v (.int .i64 b)) = some (.v (.bool (decide (b < a)))) := rfl
theorem ar_geq : arithOp .geq (.v (.int .i64 a)) (.v (.int .i64 b)) = some (.v (.bool (decide (b ≤ a)))) := rfl
theorem un_not : unOp .not (.v (.bool c)) = some (.v (.bool !c)) := rfl
theorem un_neg : unOp .neg (.v (.int .i64 a)) = some (.v (.int .i64 (IntKind.i64.wrap (-a)))) := by simp [unOp]
theorem mm_max : minmaxOp true [.v (.int .i64 a), .v (.int .i64 b)] = some (.v (.int .i64 (max a b))) := by
 have : (if b > a then b else a) = max a b := by split <;> omega
 simp only [minmaxOp, maxFold, maxOp, if_true, this]
theorem mm_min : minmaxOp false [.v (.int .i64 a), .v (.int .i64 b)] = some (.v (.int .i64 (min a b))) := by
 have : (if b < a then b else a) = min a b := by split <;> omega
 simp [minmaxOp, maxFold, maxOp, this]
theorem cv_int {k k' : IntKind} : convOp (.int k) (.v (.int k' a)) = some (.v (.int k (k.wrap a))) := rfl
theorem u64_id (h : 0 ≤ a) (h2 : a < 18446744073709551616) : IntKind.u64.wrap a = a := by
 have e1 : ((2 : Int) ^ (64 : Nat)) = 18446744073709551616 := by decide
 show (if (false && decide (a % (2 : Int) ^ (64 : Nat) ≥ (2 : Int) ^ (64 - 1 : Nat))) = true then a % (2 : Int) ^ (64 : Nat) - (2 : Int) ^ (64 : Nat) else a % (2 : Int) ^ (64 : Nat)) = a
 simp only [e1, Bool.false_and]
 simp; omega
theorem ar_shr1 : arithOp .shr (.v (.int .u64 a)) (.v (.int .u64 1)) = some (.v (.int .u64 (a / 2))) := by
 have : a.fdiv 2 = a / 2 := by rw [Int.fdiv_eq_ediv_of_nonneg _ (by decide)]
 simp [arithOp, isShift, shiftOp, IntKind.bits, this]
theorem mm_max3 {c' : Int} : minmaxOp true [.v (.int .i64 a), .v (.int .i64 b), .v (.int .i64 c')] = some (.v (.int .i64 (max (max a b) c'))) := by
 have h1 : (if b > a then b else a) = max a b := by split <;> omega
 have h2 : (if c' > max a b then c' else max a b) = max (max a b) c' := by split <;> omega
 simp only [minmaxOp, maxFold, maxOp, if_true, h1, h2]
theorem ext_0 {x : AV} {r : List AV} : extractOp 0 (.tuple (x :: r)) = some x := rfl
theorem ext_1 {x y : AV} {r : List AV} : extractOp 1 (.tuple (x :: y :: r)) = some y := rfl
theorem ext_2 {x y z : AV} {r : List AV} : extractOp 2 (.tuple (x :: y :: z :: r)) = some z := rfl
theorem len_sl {o : Own} {es : Nat} {xs : List (List AV)} : lenOp false (.slice o es xs) = some (.v (.int .i64 xs.length)) := rfl
theorem len_str {x : ByteArray} : lenOp true (.v (.string x)) = some (.v (.int .i64 x.size)) := rfl
theorem finF_n {rs : List ARes} {own : Bool} {st : St} : finF rs own .normal st = finish rs own st := rfl
theorem finF_r {rs : List ARes} {own : Bool} {st : St} : finF rs own .ret st = finish rs own st := rfl
theorem finish_f {rs : List ARes} {st : St} : finish rs false st = (resultsOf st rs).map fun l => (packed l, st.sig.pop) := rfl
theorem results_nil {st : St} : resultsOf st [] = some [] := rfl
theorem results_cons {st : St} {r : ARes} {rest : List ARes} : resultsOf st (r :: rest) = (((resultRaw st r).bind (leaveVal st.sig)).bind fun x => (resultsOf st rest).map fun s => x :: s) := by
 simp only [resultsOf]
 cases (resultRaw st r).bind (leaveVal st.sig) <;> cases resultsOf st rest <;> rfl
theorem raw_tmp {ρ : Nat → AV} {m : Sig} {t : Nat} : resultRaw ⟨ρ, m⟩ (.tmp t) = some (ρ t) := rfl
theorem raw_cell {ρ : Nat → AV} {m : Sig} {g : Bool} {n t : Nat} : resultRaw ⟨ρ, m⟩ (.cell g n t) = m.load g n (ρ t) := rfl
theorem packed_0 : packed [] = .tuple [] := rfl
theorem packed_1 {x : AV} : packed [x] = x := rfl
theorem packed_2 {x y : AV} {r : List AV} : packed (x :: y :: r) = .tuple (x :: y :: r) := rfl
section
variable {m : Sig} {x : Value} {cs : List AV}
theorem leave_int {k : IntKind} {n : Int} : leaveVal m (.v (.int k n)) = some (.v (.int k n)) := rfl
theorem leave_bool {b : Bool} : leaveVal m (.v (.bool b)) = some (.v (.bool b)) := rfl
theorem leave_str {b : ByteArray} : leaveVal m (.v (.string b)) = some (.v (.string b)) := rfl
theorem leave_agg : leaveVal m (.agg cs) = (leaveCells m cs).map .agg := rfl
theorem leave_nilS {es : Nat} {xs : List (List AV)} : leaveVal m (.slice .nilS es xs) = some (.slice .nilS es xs) := rfl
theorem leave_any {es : Nat} {xs : List (List AV)} : leaveVal m (.slice .any es xs) = some (.slice .any es xs) := rfl
theorem leave_full {es : Nat} {xs : List (List AV)} : leaveVal m (.slice .full es xs) = some (.slice .full es xs) := rfl
theorem leave_tok {d g es : Nat} {xs : List (List AV)} : leaveVal m (.slice (.tok d g) es xs) = some (.slice .any es xs) := rfl
theorem leaves_nil : leaveCells m [] = some [] := rfl
theorem leaves_cons {x : AV} {r : List AV} : leaveCells m (x :: r) = (leaveCell m x).bind fun y => (leaveCells m r).map fun s => y :: s := by
 simp only [leaveCells]
 cases leaveCell m x <;> cases leaveCells m r <;> rfl
theorem leavec_int {k : IntKind} {n : Int} : leaveCell m (.v (.int k n)) = some (.v (.int k n)) := rfl
theorem leavec_bool {b : Bool} : leaveCell m (.v (.bool b)) = some (.v (.bool b)) := rfl
theorem leavec_str {b : ByteArray} : leaveCell m (.v (.string b)) = some (.v (.string b)) := rfl
theorem leavec_nilS {es : Nat} {xs : List (List AV)} : leaveCell m (.slice .nilS es xs) = some (.slice .nilS es xs) := rfl
theorem leavec_any {es : Nat} {xs : List (List AV)} : leaveCell m (.slice .any es xs) = some (.slice .any es xs) := rfl
theorem leavec_full {es : Nat} {xs : List (List AV)} : leaveCell m (.slice .full es xs) = some (.slice .full es xs) := rfl
theorem leavec_tok {d g es : Nat} {xs : List (List AV)} : leaveCell m (.slice (.tok d g) es xs) = some (.slice .any es xs) := rfl
end
end
attribute [go_sem] cv_int ar_shr1 ar_add ar_sub ar_mul ar_quo ar_rem ar_eql ar_neq ar_lss ar_leq ar_gtr ar_geq un_not un_neg mm_max mm_max3 mm_min ext_0 ext_1 ext_2 len_sl len_str
attribute [go_sem] finF_n finF_r finish_f results_nil results_cons raw_tmp raw_cell packed_0 packed_1 packed_2 leave_int leave_bool leave_str leave_agg leave_nilS leave_any leave_full leave_tok leaves_nil leaves_cons leavec_int leavec_bool leavec_str leavec_nilS leavec_any leavec_full leavec_tok
attribute [go_sem] pop_push Option.map_some Option.bind_some Option.map_none Option.bind_none List.map_cons List.map_nil List.nil_append List.cons_append AV.cells List.length_cons List.length_nil AV.isCell List.all_cons List.all_nil Bool.and_true Bool.true_and List.getElem?_cons_zero List.getElem?_cons_succ List.drop_zero List.drop_succ_cons List.take_succ_cons List.take_zero List.set_cons_zero List.set_cons_succ buildCells_nil buildCells_cons buildRows_nil buildRows_cons sameLen closeAll_nil closeAll_cons close_int close_bool close_str close_nilS close_any close_full close_tok
section
variable {o : Own} {es : Nat} {xs : List (List AV)} {k : Nat} {row : List AV}
theorem ix_sl (h : xs[k]? = some row) : indexAddrOp none es (.slice o es xs) (.v (.int .i64 (k : Int))) = some (.eptr row 0) := by
 have hk : k < xs.length := (List.getElem?_eq_some_iff.1 h).1
 have : (0 : Int) ≤ (k : Int) ∧ (k : Int) < (xs.length : Int) := by omega
 simp only [indexAddrOp, if_true, idx, if_pos this, Option.bind_some, Int.toNat_natCast, h, Option.map_some]
theorem idx_eq {k : IntKind} {n : Int} {len : Nat} : idx (.v (.int k n)) len = if 0 ≤ n ∧ n < len then some n.toNat else none := rfl
theorem indexOp_eq {n es : Nat} {g : Bool} {cs : List AV} {j : AV} : indexOp n es g (.agg cs) j = (idx j n).bind fun k => part g es cs (k * es) := rfl
theorem fieldOp_eq {n off : Nat} {g : Bool} {cs : List AV} : fieldOp g n off (.agg cs) = part g n cs off := rfl
theorem ia_ptr {n d b off es : Nat} {j : AV} : indexAddrOp (some n) es (.ptr d b off) j = (idx j n).map fun k => .ptr d b (off + k * es) := rfl
theorem ia_eptr {n off es : Nat} {cs : List AV} {j : AV} : indexAddrOp (some n) es (.eptr cs off) j = (idx j n).map fun k => .eptr cs (off + k * es) := rfl
theorem wrap_eq (x : Int) : IntKind.i64.wrap x = if 9223372036854775808 ≤ x % 18446744073709551616 then x % 18446744073709551616 - 18446744073709551616 else x % 18446744073709551616 := by
 have e1 : ((2 : Int) ^ (64 : Nat)) = 18446744073709551616 := by decide
 have e2 : ((2 : Int) ^ (64 - 1 : Nat)) = 9223372036854775808 := by decide
 show (if (true && decide (x % (2 : Int) ^ (64 : Nat) ≥ (2 : Int) ^ (64 - 1 : Nat))) = true then x % (2 : Int) ^ (64 : Nat) - (2 : Int) ^ (64 : Nat) else x % (2 : Int) ^ (64 : Nat)) = _
 simp only [e1, e2, Bool.true_and, decide_eq_true_eq, ge_iff_le]
theorem wrap_id {x : Int} (h1 : -9223372036854775808 ≤ x) (h2 : x < 9223372036854775808) : IntKind.i64.wrap x = x := by
 rw [wrap_eq]; split <;> omega
theorem wrap_succ {k n : Nat} (h : k < n) (hn : (n : Int) < 9223372036854775808) : IntKind.i64.wrap ((k : Int) + 1) = ((k + 1 : Nat) : Int) := by
 rw [wrap_id] <;> omega
end
section
variable {c : Bool} {x y z : AV} {a b : Bool} {n k : Int}
theorem cc_l : cond c (cond c x y) z = cond c x z := by cases c <;> rfl
theorem cc_r : cond c x (cond c y z) = cond c x z := by cases c <;> rfl
theorem cc_b : cond c (AV.v (.bool a)) (AV.v (.bool b)) = .v (.bool (cond c a b)) := by cases c <;> rfl
theorem cc_i : cond c (AV.v (.int .i64 n)) (AV.v (.int .i64 k)) = .v (.int .i64 (cond c n k)) := by cases c <;> rfl
theorem cc_f : cond c a false = (c && a) := by cases c <;> simp
theorem cc_t : cond c true a = (c || a) := by cases c <;> simp
end
attribute [go_sem] wrap_id idx_eq indexOp_eq fieldOp_eq ia_ptr ia_eptr and_true true_and and_self Bool.not_true Bool.not_false beq_self_eq_true Bool.cond_self decide_true decide_false cc_l cc_r cc_b cc_i cc_f cc_t
end Go.Ax.Sx
