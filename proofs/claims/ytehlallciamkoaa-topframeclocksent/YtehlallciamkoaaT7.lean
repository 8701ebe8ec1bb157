/-
  A region whose order is drawn: every order gives the same.
-/
import Derived.Test.YtehlallciamkoaaT6
namespace Go.Ax
open Go.RowKit
section
variable {P : Program} {B0 : Nat} {w0 : World} {G : Ghost} {k nl : Nat} {w : World} {s : Sig}
noncomputable def coreA (call : CallF) (o : AOper) (ρ : Nat → AV) (m : Sig) : Option (AV × Sig) :=
 if wantedT ρ o.guard then opv call (evalT ρ) m o.op else some (AV.undef, m)
theorem stepA_core (call : CallF) (o : AOper) (st : St) : stepA call o st = (coreA call o st.tmps st.sig).map fun p => ⟨putT st.tmps o.dst p.1, p.2⟩ := by
 unfold stepA coreA
 split
 ·split
  ·rename_i h; simp [h]
  ·rename_i h; simp [h]
 ·rfl
theorem coreA_agree {call : CallF} {o : AOper} {ρ ρ' : Nat → AV} (h : agreeOn (readsOf o) ρ ρ') (m : Sig) : coreA call o ρ m = coreA call o ρ' m := by
 have h1 : agreeOn (readsOp o.op) ρ ρ' := agree_left h
 have h2 : wantedT ρ o.guard = wantedT ρ' o.guard := by
  have h2 := agree_right h
  cases hg : o.guard with
  | none => rfl
  | some p =>
   obtain ⟨t, b⟩ := p
   rw [hg] at h2
   simp only [wantedT]
   rw [h2 t (by simp)]
 simp only [coreA, h2, opv_agree h1]
def mayPass (a b : OpClass) : Bool :=
 match a, b with
 | .pure, _ | _, .pure | .load, .load | .load, .soft | .soft, .load | .load, .fresh | .loadd, .loadd | .loadd, .fresh | .fresh, .loadd | .loadr _, .loadr _ | .slot _, .slot _ => true
 | .loadr r, .slot b | .slot b, .loadr r | .loadr r, .fill b | .fill b, .loadr r => decide (b ≤ r)
 | _, _ => false
theorem core_pure {call : CallF} {o : AOper} (h : classOf o.op = .pure) (ρ : Nat → AV) : ∃ r : Option AV, ∀ m, coreA call o ρ m = r.map (·, m) := by
 obtain ⟨f, hf⟩ := opv_pure (call := call) h
 by_cases hw : wantedT ρ o.guard = true
 ·exact ⟨f (evalT ρ), fun m => by simp only [coreA, if_pos hw, hf]⟩
 ·exact ⟨some AV.undef, fun m => by simp only [coreA, if_neg hw]; rfl⟩
theorem core_load {call : CallF} {o : AOper} (h : classOf o.op = .load) (ρ : Nat → AV) {m m' : Sig} (hs : SameBoxes m m') : ∃ r : Option AV, coreA call o ρ m = r.map (·, m) ∧ coreA call o ρ m' = r.map (·, m') := by
 by_cases hw : wantedT ρ o.guard = true
 ·obtain ⟨r, h1, h2⟩ := opv_load (call := call) h (ρ := evalT ρ) hs
  exact ⟨r, by simp only [coreA, if_pos hw, h1], by simp only [coreA, if_pos hw, h2]⟩
 ·exact ⟨some AV.undef, by simp only [coreA, if_neg hw]; rfl, by simp only [coreA, if_neg hw]; rfl⟩
theorem core_loadd {call : CallF} {o : AOper} (h : classOf o.op = .loadd) (ρ : Nat → AV) {m m' : Sig} (hs : FreshTo m m') : ∃ r : Option AV, coreA call o ρ m = r.map (·, m) ∧ coreA call o ρ m' = r.map (·, m') := by
 by_cases hw : wantedT ρ o.guard = true
 ·obtain ⟨r, h1, h2⟩ := opv_loadd (call := call) h (ρ := evalT ρ) hs
  exact ⟨r, by simp only [coreA, if_pos hw, h1], by simp only [coreA, if_pos hw, h2]⟩
 ·exact ⟨some AV.undef, by simp only [coreA, if_neg hw]; rfl, by simp only [coreA, if_neg hw]; rfl⟩
theorem core_freshTo {call : CallF} {o : AOper} (h : classOf o.op = .fresh) {ρ : Nat → AV} {m m' : Sig} {x : AV} (ho : coreA call o ρ m = some (x, m')) : FreshTo m m' := by
 unfold coreA at ho
 split at ho
 ·exact opv_freshTo h ho
 ·injection ho with ho
  injection ho with _ ho
  exact .inl ho.symm
theorem core_ld {call : CallF} {x y : AOper} (hx : classOf x.op = .loadd) (hy : classOf y.op = .fresh ∨ classOf y.op = .loadd) {ρ : Nat → AV} {m m1 m2 : Sig} {u v : AV} (h1 : coreA call x ρ m = some (v, m1)) (h2 : coreA call y ρ m1 = some (u, m2)) :
  ∃ m1', coreA call y ρ m = some (u, m1') ∧ coreA call x ρ m1' = some (v, m2) := by
 obtain ⟨r0, a1, _⟩ := core_loadd (call := call) hx ρ (m := m) (m' := m) (.inl rfl)
 rw [a1] at h1
 obtain ⟨q1, q2⟩ := map_pair h1
 simp only at q1 q2
 subst q2
 have hf : ∃ f : FreshTo m1 m2, True := by
  rcases hy with hy | hy
  ·exact ⟨core_freshTo hy h2, trivial⟩
  ·obtain ⟨r, b1, _⟩ := core_loadd (call := call) hy ρ (m := m1) (m' := m1) (.inl rfl)
   rw [b1] at h2
   obtain ⟨_, q⟩ := map_pair h2
   exact ⟨.inl (by first | exact q | exact q.symm), trivial⟩
 obtain ⟨hf, _⟩ := hf
 obtain ⟨r, c1, c2⟩ := core_loadd (call := call) hx ρ hf
 refine ⟨m2, h2, ?_⟩
 rw [c2]
 have e := c1.symm.trans a1
 have : r = r0 := by cases r <;> cases r0 <;> simp_all
 rw [this, q1]
 rfl
theorem core_fl {call : CallF} {x y : AOper} (hx : classOf x.op = .fresh) (hy : classOf y.op = .loadd) {ρ : Nat → AV} {m m1 m2 : Sig} {u v : AV} (h1 : coreA call x ρ m = some (v, m1)) (h2 : coreA call y ρ m1 = some (u, m2)) :
  ∃ m1', coreA call y ρ m = some (u, m1') ∧ coreA call x ρ m1' = some (v, m2) := by
 obtain ⟨r, c1, c2⟩ := core_loadd (call := call) hy ρ (core_freshTo hx h1)
 rw [c2] at h2
 obtain ⟨q1, q2⟩ := map_pair h2
 simp only at q1 q2
 subst q2
 exact ⟨m, by rw [c1, q1]; rfl, h1⟩
theorem core_soft {call : CallF} {o : AOper} (h : classOf o.op = .soft) {ρ : Nat → AV} {m m' : Sig} {x : AV} (ho : coreA call o ρ m = some (x, m')) : SameBoxes m m' := by
 unfold coreA at ho
 split at ho
 ·exact opv_soft h ho
 ·injection ho with ho
  injection ho with _ ho
  subst ho
  exact fun _ _ => rfl
theorem core_fresh {call : CallF} {o : AOper} (h : classOf o.op = .fresh) {ρ : Nat → AV} {m m' : Sig} {x : AV} (ho : coreA call o ρ m = some (x, m')) : Grows m m' := by
 unfold coreA at ho
 split at ho
 ·exact opv_fresh h ho
 ·injection ho with ho
  injection ho with _ ho
  subst ho
  exact fun _ _ cs e => ⟨cs, e, .inl rfl⟩
theorem core_slot {call : CallF} {o : AOper} {back : Nat} (h : classOf o.op = .slot back) (ρ : Nat → AV) : (∃ zs, ∀ m, coreA call o ρ m = slotOp m back zs) ∨ ∀ m, coreA call o ρ m = some (AV.undef, m) := by
 obtain ⟨zs, hb⟩ := opv_slot (call := call) h
 by_cases hw : wantedT ρ o.guard = true
 ·exact .inl ⟨zs, fun m => by simp only [coreA, if_pos hw, hb]⟩
 ·exact .inr fun m => by simp [coreA, if_neg hw]
theorem core_slots {call : CallF} {x y : AOper} {b1 b2 : Nat} (hx : classOf x.op = .slot b1) (hy : classOf y.op = .slot b2) {ρ : Nat → AV} {m m1 m2 : Sig} {u v : AV} (h1 : coreA call x ρ m = some (v, m1)) (h2 : coreA call y ρ m1 = some (u, m2)) :
  ∃ m1', coreA call y ρ m = some (u, m1') ∧ coreA call x ρ m1' = some (v, m2) := by
 rcases core_slot (call := call) hx ρ with ⟨z1, e1⟩ | e1
 ·rcases core_slot (call := call) hy ρ with ⟨z2, e2⟩ | e2
  ·rw [e1] at h1
   rw [e2] at h2
   obtain ⟨m1', c1, c2⟩ := slot_swap h1 h2
   exact ⟨m1', (e2 m).trans c1, (e1 m1').trans c2⟩
  ·rw [e2] at h2
   injection h2 with h2
   injection h2 with h3 h4
   subst h3 h4
   exact ⟨m, e2 m, h1⟩
 ·rw [e1] at h1
  injection h1 with h1
  injection h1 with h3 h4
  subst h3 h4
  exact ⟨m2, h2, e1 m2⟩
def Writes (back : Nat) (m m' : Sig) : Prop := m' = m ∨ ∃ cs, m' = m.setBox m.cur (m.nbox m.cur - back) cs
theorem core_slot_w {call : CallF} {o : AOper} {back : Nat} (h : classOf o.op = .slot back) {ρ : Nat → AV} {m m' : Sig} {x : AV} (ho : coreA call o ρ m = some (x, m')) : Writes back m m' := by
 rcases core_slot (call := call) h ρ with ⟨zs, e⟩ | e
 ·rw [e] at ho
  exact .inr ⟨_, (slotOp_spec ho).2.2.2⟩
 ·rw [e] at ho
  injection ho with ho
  injection ho with _ ho
  exact .inl ho.symm
theorem core_fill_w {call : CallF} {o : AOper} {back : Nat} (h : classOf o.op = .fill back) {ρ : Nat → AV} {m m' : Sig} {x : AV} (ho : coreA call o ρ m = some (x, m')) : Writes back m m' := by
 unfold coreA at ho
 split at ho
 ·exact .inr (opv_fill h ho)
 ·injection ho with ho
  injection ho with _ ho
  exact .inl ho.symm
theorem core_loadr {call : CallF} {o : AOper} {res back : Nat} (h : classOf o.op = .loadr res) (hb : back ≤ res) (ρ : Nat → AV) {m m' : Sig} (hw : Writes back m m') : ∃ r : Option AV, coreA call o ρ m = r.map (·, m) ∧ coreA call o ρ m' = r.map (·, m') := by
 rcases hw with rfl | ⟨cs, rfl⟩
 ·by_cases hw : wantedT ρ o.guard = true
  ·obtain ⟨r, h1, _⟩ := opv_loadr (call := call) h (Nat.zero_le _) (ρ := evalT ρ) (m := m') []
   exact ⟨r, by simp only [coreA, if_pos hw, h1], by simp only [coreA, if_pos hw, h1]⟩
  ·exact ⟨some AV.undef, by simp only [coreA, if_neg hw]; rfl, by simp only [coreA, if_neg hw]; rfl⟩
 ·by_cases hw : wantedT ρ o.guard = true
  ·obtain ⟨r, h1, h2⟩ := opv_loadr (call := call) h hb (ρ := evalT ρ) (m := m) cs
   exact ⟨r, by simp only [coreA, if_pos hw, h1], by simp only [coreA, if_pos hw, h2]⟩
  ·exact ⟨some AV.undef, by simp only [coreA, if_neg hw]; rfl, by simp only [coreA, if_neg hw]; rfl⟩
theorem core_lw {call : CallF} {x y : AOper} {res back : Nat} (hx : classOf x.op = .loadr res) (hb : back ≤ res) {ρ : Nat → AV} {m m1 m2 : Sig} {u v : AV} (hw : Writes back m1 m2) (h1 : coreA call x ρ m = some (v, m1)) (h2 : coreA call y ρ m1 = some (u, m2)) :
  ∃ m1', coreA call y ρ m = some (u, m1') ∧ coreA call x ρ m1' = some (v, m2) := by
 obtain ⟨r0, a1, _⟩ := core_loadr (call := call) hx hb ρ (m := m) (m' := m) (.inl rfl)
 rw [a1] at h1
 obtain ⟨q1, q2⟩ := map_pair h1
 simp only at q1 q2
 subst q2
 obtain ⟨r, c1, c2⟩ := core_loadr (call := call) hx hb ρ hw
 refine ⟨m2, h2, ?_⟩
 rw [c2]
 have e := c1.symm.trans a1
 have : r = r0 := by cases r <;> cases r0 <;> simp_all
 rw [this, q1]
 rfl
theorem core_wl {call : CallF} {x y : AOper} {res back : Nat} (hy : classOf y.op = .loadr res) (hb : back ≤ res) {ρ : Nat → AV} {m m1 m2 : Sig} {u v : AV} (hw : Writes back m m1) (h1 : coreA call x ρ m = some (v, m1)) (h2 : coreA call y ρ m1 = some (u, m2)) :
  ∃ m1', coreA call y ρ m = some (u, m1') ∧ coreA call x ρ m1' = some (v, m2) := by
 obtain ⟨r, c1, c2⟩ := core_loadr (call := call) hy hb ρ hw
 rw [c2] at h2
 obtain ⟨q1, q2⟩ := map_pair h2
 simp only at q1 q2
 subst q2
 exact ⟨m, by rw [c1, q1]; rfl, h1⟩
theorem core_load_grows {call : CallF} {o : AOper} (h : classOf o.op = .load) {ρ : Nat → AV} {m m1 : Sig} {v : AV} (ho : coreA call o ρ m = some (v, m1)) : m1 = m ∧ ∀ m', Grows m m' → coreA call o ρ m' = some (v, m') := by
 unfold coreA at ho ⊢
 split at ho
 ·rename_i hw
  obtain ⟨h1, h2⟩ := opv_load_grows h ho
  exact ⟨h1, fun m' hg => by rw [if_pos hw]; exact h2 m' hg⟩
 ·rename_i hw
  injection ho with ho
  injection ho with h1 h2
  subst h1 h2
  exact ⟨rfl, fun m' _ => by rw [if_neg hw]⟩
theorem core_swap {call : CallF} {x y : AOper} (h : mayPass (classOf x.op) (classOf y.op) = true) {ρ : Nat → AV} {m m1 m2 : Sig} {u v : AV} (h1 : coreA call x ρ m = some (v, m1)) (h2 : coreA call y ρ m1 = some (u, m2)) :
  ∃ m1', coreA call y ρ m = some (u, m1') ∧ coreA call x ρ m1' = some (v, m2) := by
 have xp : classOf x.op = .pure → ∃ m1', coreA call y ρ m = some (u, m1') ∧ coreA call x ρ m1' = some (v, m2) := fun hx => by
  obtain ⟨r, hr⟩ := core_pure (call := call) hx ρ
  rw [hr] at h1
  obtain ⟨q1, q2⟩ := map_pair h1
  simp only at q1 q2
  subst q2
  exact ⟨m2, h2, by rw [hr, q1]; rfl⟩
 have yp : classOf y.op = .pure → ∃ m1', coreA call y ρ m = some (u, m1') ∧ coreA call x ρ m1' = some (v, m2) := fun hy => by
  obtain ⟨r, hr⟩ := core_pure (call := call) hy ρ
  rw [hr] at h2
  obtain ⟨q1, q2⟩ := map_pair h2
  simp only at q1 q2
  subst q2
  exact ⟨m, by rw [hr, q1]; rfl, h1⟩
 have ly : classOf y.op = .load → SameBoxes m m1 → ∃ m1', coreA call y ρ m = some (u, m1') ∧ coreA call x ρ m1' = some (v, m2) := fun hy hs => by
  obtain ⟨r, r1, r2⟩ := core_load (call := call) hy ρ hs
  rw [r2] at h2
  obtain ⟨q1, q2⟩ := map_pair h2
  simp only at q1 q2
  subst q2
  exact ⟨m, by rw [r1, q1]; rfl, h1⟩
 have lx : classOf x.op = .load → m1 = m ∧ (SameBoxes m m2 → ∃ m1', coreA call y ρ m = some (u, m1') ∧ coreA call x ρ m1' = some (v, m2)) := fun hx => by
  obtain ⟨r, r1, _⟩ := core_load (call := call) (m' := m) hx ρ (fun _ _ => rfl)
  rw [r1] at h1
  obtain ⟨q1, q2⟩ := map_pair h1
  simp only at q1 q2
  subst q2
  refine ⟨rfl, fun hs => ?_⟩
  obtain ⟨r', r1', r2'⟩ := core_load (call := call) hx ρ hs
  refine ⟨m2, h2, ?_⟩
  rw [r2']
  rw [r1'] at r1
  have : r' = r := by
   cases r <;> cases r' <;> simp_all
  rw [this, q1]
  rfl
 cases hx : classOf x.op <;> cases hy : classOf y.op <;> rw [hx, hy] at h <;> first
  | exact xp hx
  | exact yp hy
  | (simp [mayPass] at h; done)
  | skip
 ·exact ly hy (by rw [(lx hx).1]; exact fun _ _ => rfl)
 ·have := lx hx
  obtain ⟨rfl, f⟩ := this
  exact f (core_soft hy h2)
 ·obtain ⟨rfl, f⟩ := core_load_grows hx h1
  exact ⟨m2, h2, f _ (core_fresh hy h2)⟩
 ·exact ly hy (core_soft hx h1)
 ·exact core_fl hx hy h1 h2
 ·exact core_slots hx hy h1 h2
 ·exact core_wl hy (by simpa [mayPass] using h) (core_slot_w hx h1) h1 h2
 ·exact core_lw hx (by simpa [mayPass] using h) (core_slot_w hy h2) h1 h2
 ·exact core_wl hy (Nat.zero_le _) (by
   obtain ⟨r, a1, _⟩ := core_loadr (call := call) hx (Nat.zero_le _) ρ (m := m) (m' := m) (.inl rfl)
   rw [a1] at h1
   obtain ⟨_, q2⟩ := map_pair h1
   exact .inl (by first | exact q2 | exact q2.symm)) h1 h2
 ·exact core_lw hx (by simpa [mayPass] using h) (core_fill_w hy h2) h1 h2
 ·exact core_wl hy (by simpa [mayPass] using h) (core_fill_w hx h1) h1 h2
 ·exact core_ld hx (.inl hy) h1 h2
 ·exact core_ld hx (.inr hy) h1 h2
theorem zKey_eq {x : AV} {y : AV} {k : ZK} (h : zKey x = some k) (h' : zKey y = some k) : x = y := by
 unfold zKey at h h'
 split at h <;> first | (cases h; done) | skip
 all_goals (injection h with h; subst h; split at h' <;> first | (cases h'; done) | (injection h' with h'; injection h' with e1 e2; subst e1 e2; rfl) | (injection h' with h'; injection h' with e1; subst e1; rfl) | rfl)
theorem zInts_eq : ∀ {a b : List AV} {p : List ZK}, zInts a = some p → zInts b = some p → a = b
 | [], [], _, _, _ => rfl
 | [], y :: r, p, h, h' => by
  injection h with h
  subst h
  simp only [zInts] at h'
  split at h' <;> cases h'
 | x :: r, [], p, h, h' => by
  injection h' with h'
  subst h'
  simp only [zInts] at h
  split at h <;> cases h
 | x :: r, y :: q, p, h, h' => by
  simp only [zInts] at h h'
  split at h
  ·rename_i k1 s1 e1 e2
   injection h with h
   subst h
   split at h'
   ·rename_i k2 s2 e3 e4
    injection h' with h'
    injection h' with q1 q2
    subst q1 q2
    rw [zKey_eq e1 e3, zInts_eq e2 e4]
   ·cases h'
  ·cases h
theorem sameZ_eq {a b : List AV} (h : sameZ a b = true) : a = b := by
 unfold sameZ at h
 split at h
 ·rename_i p q h1 h2
  rw [decide_eq_true_eq] at h
  subst h
  exact zInts_eq h1 h2
 ·cases h
theorem mem_fills : ∀ {zss bx : List (List AV)}, bx ∈ fills zss ↔ bx.length = zss.length ∧ ∀ i (h1 : i < bx.length) (h2 : i < zss.length), bx[i] = [] ∨ bx[i] = zss[i]
 | [], bx => by
  simp only [fills, List.mem_singleton, List.length_nil]
  constructor
  ·rintro rfl; exact ⟨rfl, fun i h => absurd h (Nat.not_lt_zero _)⟩
  ·rintro ⟨h, _⟩; exact List.eq_nil_of_length_eq_zero h
 | z :: r, [] => by simp [fills]
 | z :: r, b :: bx => by
  have ih := mem_fills (zss := r) (bx := bx)
  simp only [fills, List.mem_append, List.mem_map, List.cons.injEq, List.length_cons]
  constructor
  ·rintro (⟨x, hx, rfl, rfl⟩ | ⟨x, hx, rfl, rfl⟩)
   ·obtain ⟨h1, h2⟩ := ih.1 hx
    refine ⟨by omega, fun i q1 q2 => ?_⟩
    cases i with
    | zero => exact .inl rfl
    | succ i => exact h2 i (by simpa using q1) (by simpa using q2)
   ·obtain ⟨h1, h2⟩ := ih.1 hx
    refine ⟨by omega, fun i q1 q2 => ?_⟩
    cases i with
    | zero => exact .inr rfl
    | succ i => exact h2 i (by simpa using q1) (by simpa using q2)
  ·rintro ⟨h1, h2⟩
   have hm : bx ∈ fills r := ih.2 ⟨by omega, fun i q1 q2 => h2 (i + 1) (by omega) (by omega)⟩
   rcases h2 0 (by omega) (by omega) with e | e
   ·exact .inl ⟨bx, hm, by simpa using e.symm, rfl⟩
   ·exact .inr ⟨bx, hm, by simpa using e.symm, rfl⟩
section
variable {m : Sig} {r : Nat} {a b : List (List AV)}
theorem tail_rec (h : 0 < r) (hr : r ≤ m.nbox m.cur) : ∃ q, m.acts[m.cur]? = some q ∧ r ≤ q.boxes.length ∧ m.nbox m.cur = q.boxes.length ∧ m.tail r = q.boxes.drop (q.boxes.length - r) := by
 unfold Sig.nbox at hr
 split at hr
 ·rename_i q hq
  exact ⟨q, hq, hr, by simp [Sig.nbox, hq], by simp [Sig.tail, hq]⟩
 ·omega
theorem cur_setTail : (m.setTail r a).cur = m.cur := by simp [Sig.cur, Sig.setTail, Sig.onRec]
theorem alen_setTail : (m.setTail r a).acts.length = m.acts.length := by simp [Sig.setTail, Sig.onRec]
theorem get_setTail : (m.setTail r a).acts[m.cur]? = (m.acts[m.cur]?).map fun q => { q with boxes := q.boxes.take (q.boxes.length - r) ++ a } := by
 simp only [Sig.setTail, Sig.onRec, modify_get, if_true]
theorem tail_setTail (h : 0 < r) (hr : r ≤ m.nbox m.cur) (ha : a.length = r) : (m.setTail r a).tail r = a := by
 obtain ⟨q, hq, hl, _, _⟩ := tail_rec h hr
 unfold Sig.tail
 rw [cur_setTail, get_setTail, hq]
 simp only [Option.map_some, List.length_append, List.length_take, ha]
 rw [List.drop_append_of_le_length (by rw [List.length_take]; omega)]
 rw [List.drop_eq_nil_of_le (by rw [List.length_take]; omega)]; rfl
theorem nbox_setTail (h : 0 < r) (hr : r ≤ m.nbox m.cur) (ha : a.length = r) : (m.setTail r a).nbox m.cur = m.nbox m.cur := by
 obtain ⟨q, hq, hl, hn, _⟩ := tail_rec h hr
 rw [hn]
 unfold Sig.nbox
 rw [get_setTail, hq]
 simp only [Option.map_some, List.length_append, List.length_take, ha]; omega
theorem noneTok_setTail {d : Nat} : (m.setTail r a).noneTok d = m.noneTok d := by
 simp only [Sig.noneTok, Sig.setTail, Sig.onRec, List.getElem?_modify]
 by_cases h : m.cur = d
 ·cases m.acts[d]? <;> simp [h]
 ·cases m.acts[d]? <;> simp [h]
theorem setTail_twice (h : 0 < r) (hr : r ≤ m.nbox m.cur) (ha : a.length = r) : (m.setTail r a).setTail r b = m.setTail r b := by
 obtain ⟨q, hq, hl, _, _⟩ := tail_rec h hr
 have hc : (m.setTail r a).cur = m.cur := cur_setTail
 show (m.setTail r a).onRec (m.setTail r a).cur _ = _
 rw [hc]
 simp only [Sig.setTail, Sig.onRec]
 congr 1
 apply List.ext_getElem?
 intro i
 simp only [modify_get]
 by_cases hi : m.cur = i
 ·subst hi
  rw [if_pos rfl, if_pos rfl, if_pos rfl, hq]
  simp only [Option.map_some, List.length_append, List.length_take, ha]
  congr 2
  rw [List.take_append_of_le_length (by rw [List.length_take]; omega), List.take_take]
  congr 1
  congr 1
  omega
 ·rw [if_neg hi, if_neg hi, if_neg hi]
theorem setBox_tail {zs : List AV} {k : Nat} (hk : 0 < k) (hkr : k ≤ r) (hr : r ≤ m.nbox m.cur) : m.setBox m.cur (m.nbox m.cur - k) zs = m.setTail r ((m.tail r).set (r - k) zs) := by
 obtain ⟨q, hq, hl, hn, ht⟩ := tail_rec (by omega) hr
 rw [hn, ht]
 simp only [Sig.setBox, Sig.setTail, Sig.onRec]
 congr 1
 apply List.ext_getElem?
 intro i
 simp only [modify_get]
 by_cases hi : m.cur = i
 ·subst hi
  rw [if_pos rfl, if_pos rfl, hq]
  simp only [Option.map_some]
  congr 2
  have e : q.boxes = q.boxes.take (q.boxes.length - r) ++ q.boxes.drop (q.boxes.length - r) := (List.take_append_drop _ _).symm
  conv => lhs; rw [e]
  rw [List.set_append_right _ _ (by rw [List.length_take]; simp; omega)]
  congr 2
  rw [List.length_take]; simp; omega
 ·rw [if_neg hi, if_neg hi]
theorem box_tail {k : Nat} (hk : 0 < k) (hkr : k ≤ r) (hr : r ≤ m.nbox m.cur) : m.box m.cur (m.nbox m.cur - k) = (m.tail r)[r - k]? := by
 obtain ⟨q, hq, hl, hn, ht⟩ := tail_rec (by omega) hr
 rw [hn, ht]
 simp only [Sig.box, hq, Option.bind_some, List.getElem?_drop]
 congr 1; omega
end
theorem fcall_slot {call : CallF} {ro : Bool} {m m1 m2 : Sig} {zss : List (List AV)} {k : Nat} {zs : List AV} {t : Target} {args : List AV} {u v : AV} (hk : 0 < k) (hkl : k ≤ zss.length) (hz : zss[zss.length - k]? = some zs)
  (h1 : fcallOp call ro m zss t args = some (v, m1)) (h2 : slotOp m1 k zs = some (u, m2)) :
  ∃ m1', slotOp m k zs = some (u, m1') ∧ fcallOp call ro m1' zss t args = some (v, m2) := by
 have hd := fcall_call h1
 unfold fcallOp at h1
 rw [hd] at h1
 simp only at h1
 split at h1
 ·rename_i hc
  obtain ⟨c0, c1, c3, c4, c5, c6, c7⟩ := hc
  have hr0 : 0 < zss.length := by omega
  obtain ⟨hT, hTi⟩ := mem_fills.1 c0
  have hr : zss.length ≤ m.nbox m.cur := by
   unfold Sig.tail at hT
   split at hT
   ·rename_i q hq
    have : m.nbox m.cur = q.boxes.length := by unfold Sig.nbox; rw [hq]
    rw [List.length_drop] at hT
    rw [this]
    omega
   ·simp at hT; omega
  have hcur : m1.cur = m.cur := by unfold Sig.cur; rw [c3]
  have hr1 : zss.length ≤ m1.nbox m1.cur := by rw [hcur, c4]; exact hr
  obtain ⟨b1, b2, rfl, rfl⟩ := slotOp_spec h2
  rw [box_tail hk hkl hr1, c5, ← box_tail hk hkl hr] at b1
  rw [hcur] at b2
  have hsb := setBox_tail (m := m) (zs := zs) hk hkl hr
  have hsb1 := setBox_tail (m := m1) (zs := zs) hk hkl hr1
  rw [c5] at hsb1
  rw [hsb1]
  have hTl : ((m.tail zss.length).set (zss.length - k) zs).length = zss.length := by rw [List.length_set]; exact hT
  have hmem : (m.tail zss.length).set (zss.length - k) zs ∈ fills zss := by
   refine mem_fills.2 ⟨hTl, fun i q1 q2 => ?_⟩
   rw [List.getElem_set]
   split
   ·rename_i e
    subst e
    right
    have := (List.getElem?_eq_some_iff.1 hz).2
    exact this.symm
   ·rw [List.length_set] at q1
    exact hTi i q1 q2
  refine ⟨m.setTail zss.length ((m.tail zss.length).set (zss.length - k) zs), ?_, ?_⟩
  ·rw [slotOp_of b1 ⟨b2.1, b2.2.imp c7 id⟩, hsb, hcur, c4]
  ·unfold fcallOp
   rw [c1 _ hmem]
   simp only
   rw [if_pos]
   have hcm : (m.setTail zss.length ((m.tail zss.length).set (zss.length - k) zs)).cur = m.cur := cur_setTail
   have hr1' : zss.length ≤ m1.nbox m1.cur := hr1
   refine ⟨by rw [tail_setTail hr0 hr hTl]; exact hmem, fun bx hbx => by rw [setTail_twice hr0 hr hTl, setTail_twice hr0 hr1 hTl]; exact c1 bx hbx, by rw [alen_setTail, alen_setTail]; exact c3, ?_, by rw [tail_setTail hr0 hr hTl, tail_setTail hr0 hr1 hTl], fun h => by rw [c6 h], fun h => ?_⟩
   ·rw [hcm, nbox_setTail hr0 hr hTl]
    have := nbox_setTail (m := m1) hr0 hr1 hTl
    rw [hcur] at this
    rw [this]; exact c4
   ·rw [hcm, noneTok_setTail] at h ⊢
    exact c7 h
 ·cases h1
theorem callq_load {call : CallF} {f : FuncId} {as : List AOpd} {ws : List (Bool × Nat × Nat)} {ρ : AOpd → AV} {m m' : Sig} {v : AV} (h : opv call ρ m (.callq f as ws) = some (v, m')) {q : Bool × Nat × Nat} (hq : q ∈ ws) :
  m'.load q.1 q.2.1 (ρ (.tmp q.2.2)) = m.load q.1 q.2.1 (ρ (.tmp q.2.2)) := by
 simp only [opv, callqOp] at h
 split at h
 ·split at h
  ·rename_i hall
   injection h with h
   injection h with _ h
   subst h
   exact hall _ (List.mem_map.2 ⟨q, hq, rfl⟩)
  ·cases h
 ·cases h
theorem calliq_load {call : CallF} {f : FuncId} {as : List AOpd} {ws : List (Bool × Nat × Nat)} {ρ : AOpd → AV} {m m' : Sig} {v : AV} (h : opv call ρ m (.calliq f as ws) = some (v, m')) {q : Bool × Nat × Nat} (hq : q ∈ ws) :
  m'.load q.1 q.2.1 (ρ (.tmp q.2.2)) = m.load q.1 q.2.1 (ρ (.tmp q.2.2)) := by
 simp only [opv, callqOp] at h
 split at h
 ·split at h
  ·rename_i hall
   injection h with h
   injection h with _ h
   subst h
   exact hall _ (List.mem_map.2 ⟨q, hq, rfl⟩)
  ·cases h
 ·cases h
theorem setCells_get : ∀ {xs cs : List AV} {off i : Nat}, (i < off ∨ off + xs.length ≤ i) → (setCells cs off xs)[i]? = cs[i]?
 | [], _, _, _, _ => rfl
 | x :: xs, cs, off, i, h => by
  simp only [setCells]
  rw [setCells_get (by simp only [List.length_cons] at h; omega), List.getElem?_set, if_neg (by simp only [List.length_cons] at h; omega)]
theorem part_apart {agg : Bool} {n n0 off off' : Nat} {cs xs : List AV} (hl : xs.length = n0) (h : off + n0 ≤ off' ∨ off' + max 1 n ≤ off) : part agg n (setCells cs off xs) off' = part agg n cs off' := by
 have hg : ∀ i, off' ≤ i → i < off' + max 1 n → (setCells cs off xs)[i]? = cs[i]? := fun i h1 h2 => setCells_get (by omega)
 unfold part
 split
 ·rw [setCells_length]
  split
  ·congr 2
   refine List.ext_getElem? fun i => ?_
   rw [List.getElem?_take, List.getElem?_take]
   split
   ·rw [List.getElem?_drop, List.getElem?_drop, hg _ (by omega) (by omega)]
   ·rfl
  ·rfl
 ·exact hg _ (Nat.le_refl _) (by omega)
theorem fit_boxes {m m' : Sig} {d : Nat} {x y : AV} (h : m.fit d x = some (y, m')) : SameBoxes m m' := by
 unfold Sig.fit at h
 split at h
 ·split at h
  ·injection h with h; injection h with _ h; subst h; exact fun _ _ => rfl
  ·split at h
   ·injection h with h; injection h with _ h; subst h
    intro d b
    unfold Sig.setTok Sig.addTok
    refine Eq.trans (box_toks ?_ d b) (box_toks ?_ d b)
    ·exact fun r => rfl
    ·exact fun r => rfl
   ·injection h with h; injection h with _ h; subst h; exact fun _ _ => rfl
 ·split at h
  ·injection h with h; injection h with _ h; subst h; exact fun _ _ => rfl
  ·cases h
 ·split at h
  ·injection h with h; injection h with _ h; subst h; exact fun _ _ => rfl
  ·cases h
 ·obtain ⟨_, _, h⟩ := Option.map_eq_some_iff.1 h
  injection h with _ h; subst h; exact fun _ _ => rfl
theorem fitAll_boxes {d : Nat} : ∀ {xs ys : List AV} {m m' : Sig}, m.fitAll d xs = some (ys, m') → SameBoxes m m' ∧ ys.length = xs.length
 | [], ys, m, m', h => by
  simp only [Sig.fitAll] at h
  injection h with h; injection h with h1 h2; subst h1 h2
  exact ⟨fun _ _ => rfl, rfl⟩
 | x :: xs, ys, m, m', h => by
  simp only [Sig.fitAll] at h
  split at h
  ·cases h
  rename_i y m1 h1
  split at h
  ·cases h
  rename_i s m2 h2
  injection h with h; injection h with e1 e2; subst e1 e2
  obtain ⟨k1, k2⟩ := fitAll_boxes h2
  exact ⟨fun d b => (k1 d b).trans (fit_boxes h1 d b), by simp [k2]⟩
theorem store_apart {m m' : Sig} {n : Nat} {x y : AV} {q : Bool × Nat × AV} (h : m.store n x y = some m') (ha : apart n x q = true) : m'.load q.1 q.2.1 q.2.2 = m.load q.1 q.2.1 q.2.2 := by
 unfold Sig.store at h
 split at h
 case h_2 => cases h
 rename_i d b off
 split at h
 case isFalse => cases h
 rename_i hcond
 split at h
 ·cases h
 rename_i cs m1 hfit
 have hb1 : SameBoxes m m1 ∧ cs.length = n := by
  split at hfit
  ·injection hfit with hfit; injection hfit with e1 e2; subst e1 e2; exact ⟨fun _ _ => rfl, hcond.2.1⟩
  ·obtain ⟨k1, k2⟩ := fitAll_boxes hfit; exact ⟨k1, k2.trans hcond.2.1⟩
 obtain ⟨hb1, hlen⟩ := hb1
 split at h
 ·cases h
 rename_i row hrow
 split at h
 case isFalse => cases h
 injection h with h
 subst h
 unfold apart at ha
 split at ha
 ·rename_i d' b' off' e1 e2
  rename_i dd bb oo
  injection e1 with e1 e3 e4
  subst e1 e3 e4
  rw [e2]
  simp only [Sig.load, Sig.row, box_setBox]
  by_cases hdb : d = d' ∧ b = b'
  ·obtain ⟨rfl, rfl⟩ := hdb
   rw [if_pos ⟨rfl, rfl⟩, hrow, ← hb1, hrow]
   simp only [Option.map_some, Option.bind_some]
   refine part_apart hlen ?_
   simpa using ha
  ·rw [if_neg hdb, hb1]
 ·rename_i e1 e2
  rw [e2]; rfl
 ·cases ha
theorem storeq_loadq {m m' : Sig} {n : Nat} {x y : AV} {ws : List (Bool × Nat × AV)} (h : storeqOp m n x y ws = some m') {agg : Bool} {k off : Nat} {a t : AV} (hq : (agg, k, (ptrAdd off t).getD AV.undef) ∈ ws) :
  loadqOp m' agg k a off t = loadqOp m agg k a off t := by
 unfold storeqOp at h
 split at h
 case isFalse => cases h
 rename_i hall
 have hl := store_apart h (List.all_eq_true.1 hall _ hq)
 unfold loadqOp
 split
 ·rfl
 ·split
  ·rename_i hc
   obtain ⟨rfl, rfl, rfl⟩ := hc
   exact hl
  ·rfl
 ·rfl
theorem core_frame {call : CallF} {x y : AOper} (h : frameOk x.op y.op = true) {ρ : Nat → AV} {m m1 m2 : Sig} {u v : AV} (h1 : coreA call x ρ m = some (v, m1)) (h2 : coreA call y ρ m1 = some (u, m2)) :
  ∃ m1', coreA call y ρ m = some (u, m1') ∧ coreA call x ρ m1' = some (v, m2) := by
 by_cases hx : wantedT ρ x.guard = true
 ·by_cases hy : wantedT ρ y.guard = true
  ·simp only [coreA, if_pos hx] at h1 ⊢
   simp only [coreA, if_pos hy] at h2 ⊢
   unfold frameOk at h
   split at h
   ·rename_i ro zss f as b zs' ex ey
    rw [Bool.and_eq_true, decide_eq_true_eq] at h
    obtain ⟨hb, hz⟩ := h
    split at hz
    ·rename_i z hzs
     have hz := sameZ_eq hz
     subst hz
     rw [ex] at h1 ⊢
     rw [ey] at h2 ⊢
     exact fcall_slot hb.1 hb.2 hzs h1 h2
    ·cases hz
   ·rename_i ro zs f as r g n a ex ey
    subst h
    rw [ex] at h1 ⊢
    rw [ey] at h2 ⊢
    have hm : m1 = m := by
     simp only [opv, fcallOp] at h1
     split at h1
     ·split at h1
      ·rename_i hc
       injection h1 with h1
       injection h1 with _ h1
       rw [← h1]
       exact hc.2.2.2.2.2.1 rfl
      ·cases h1
     ·cases h1
    subst hm
    have hm2 : m2 = m1 := by
     simp only [opv] at h2
     obtain ⟨_, _, h2⟩ := Option.map_eq_some_iff.1 h2
     injection h2 with _ h2
     exact h2.symm
    subst hm2
    exact ⟨m2, h2, h1⟩
   ·rename_i r g n a ro zs f as ex ey
    subst h
    rw [ex] at h1 ⊢
    rw [ey] at h2 ⊢
    have hm : m1 = m := by
     simp only [opv] at h1
     obtain ⟨_, _, h1⟩ := Option.map_eq_some_iff.1 h1
     injection h1 with _ h1
     exact h1.symm
    subst hm
    have hm2 : m2 = m1 := by
     simp only [opv, fcallOp] at h2
     split at h2
     ·split at h2
      ·rename_i hc
       injection h2 with h2
       injection h2 with _ h2
       rw [← h2]
       exact hc.2.2.2.2.2.1 rfl
      ·cases h2
     ·cases h2
    subst hm2
    exact ⟨m2, h2, h1⟩
   ·rename_i f as ws g n t ex ey
    rw [ex] at h1 ⊢
    rw [ey] at h2 ⊢
    obtain ⟨q, hq, hqe⟩ := List.any_eq_true.1 h
    simp only [Bool.and_eq_true, beq_iff_eq] at hqe
    obtain ⟨⟨rfl, rfl⟩, rfl⟩ := hqe
    have hl := callq_load (call := call) (f := f) h1 hq
    simp only [opv] at h2 ⊢
    rw [hl] at h2
    obtain ⟨u', hu, h2⟩ := Option.map_eq_some_iff.1 h2
    injection h2 with h2 h3
    subst h2 h3
    exact ⟨m, by rw [hu]; rfl, h1⟩
   ·rename_i g n t f as ws ex ey
    rw [ex] at h1 ⊢
    rw [ey] at h2 ⊢
    obtain ⟨q, hq, hqe⟩ := List.any_eq_true.1 h
    simp only [Bool.and_eq_true, beq_iff_eq] at hqe
    obtain ⟨⟨rfl, rfl⟩, rfl⟩ := hqe
    simp only [opv] at h1
    obtain ⟨u', hu, h1⟩ := Option.map_eq_some_iff.1 h1
    injection h1 with h1 h3
    subst h1 h3
    have hl := callq_load (call := call) (f := f) h2 hq
    refine ⟨m2, h2, ?_⟩
    simp only [opv]
    rw [hl, hu]
    rfl
   ·rename_i f as ws g n t ex ey
    rw [ex] at h1 ⊢
    rw [ey] at h2 ⊢
    obtain ⟨q, hq, hqe⟩ := List.any_eq_true.1 h
    simp only [Bool.and_eq_true, beq_iff_eq] at hqe
    obtain ⟨⟨rfl, rfl⟩, rfl⟩ := hqe
    have hl := calliq_load (call := call) (f := f) h1 hq
    simp only [opv] at h2 ⊢
    rw [hl] at h2
    obtain ⟨u', hu, h2⟩ := Option.map_eq_some_iff.1 h2
    injection h2 with h2 h3
    subst h2 h3
    exact ⟨m, by rw [hu]; rfl, h1⟩
   ·rename_i g n t f as ws ex ey
    rw [ex] at h1 ⊢
    rw [ey] at h2 ⊢
    obtain ⟨q, hq, hqe⟩ := List.any_eq_true.1 h
    simp only [Bool.and_eq_true, beq_iff_eq] at hqe
    obtain ⟨⟨rfl, rfl⟩, rfl⟩ := hqe
    simp only [opv] at h1
    obtain ⟨u', hu, h1⟩ := Option.map_eq_some_iff.1 h1
    injection h1 with h1 h3
    subst h1 h3
    have hl := calliq_load (call := call) (f := f) h2 hq
    refine ⟨m2, h2, ?_⟩
    simp only [opv]
    rw [hl, hu]
    rfl
   ·rename_i n0 x0 y0 ws g n a0 o t ex ey
    rw [ex] at h1 ⊢
    rw [ey] at h2 ⊢
    obtain ⟨q, hq, hqe⟩ := List.any_eq_true.1 h
    simp only [Bool.and_eq_true, beq_iff_eq] at hqe
    obtain ⟨⟨⟨rfl, rfl⟩, rfl⟩, rfl⟩ := hqe
    have h1' := h1
    simp only [opv] at h1'
    obtain ⟨mm, hm, h1'⟩ := Option.map_eq_some_iff.1 h1'
    injection h1' with _ h1'
    subst h1'
    simp only [opv] at h2 ⊢
    rw [storeq_loadq hm (List.mem_map.2 ⟨q, hq, rfl⟩)] at h2
    obtain ⟨u', hu, h2⟩ := Option.map_eq_some_iff.1 h2
    injection h2 with h2 h3
    subst h2 h3
    exact ⟨m, by rw [hu]; rfl, h1⟩
   ·rename_i g n a0 o t n0 x0 y0 ws ex ey
    rw [ex] at h1 ⊢
    rw [ey] at h2 ⊢
    obtain ⟨q, hq, hqe⟩ := List.any_eq_true.1 h
    simp only [Bool.and_eq_true, beq_iff_eq] at hqe
    obtain ⟨⟨⟨rfl, rfl⟩, rfl⟩, rfl⟩ := hqe
    simp only [opv] at h1
    obtain ⟨u', hu, h1⟩ := Option.map_eq_some_iff.1 h1
    injection h1 with h1 h3
    subst h1 h3
    have h2' := h2
    simp only [opv] at h2'
    obtain ⟨mm, hm, h2'⟩ := Option.map_eq_some_iff.1 h2'
    injection h2' with _ h2'
    subst h2'
    refine ⟨_, h2, ?_⟩
    simp only [opv]
    rw [storeq_loadq hm (List.mem_map.2 ⟨q, hq, rfl⟩), hu]
    rfl
   ·cases h
  ·simp only [coreA, if_neg hy] at h2 ⊢
   injection h2 with h2
   injection h2 with h2 h3
   subst h2 h3
   exact ⟨m, rfl, h1⟩
 ·simp only [coreA, if_neg hx] at h1 ⊢
  injection h1 with h1
  injection h1 with h1 h3
  subst h1 h3
  exact ⟨m2, h2, rfl⟩
theorem step_swap {call : CallF} {x y : AOper} (h : mayPass (classOf x.op) (classOf y.op) = true ∨ frameOk x.op y.op = true) (hd : ∀ t, x.dst = some t → y.dst ≠ some t) (hx : ∀ t, x.dst = some t → t ∉ readsOf y) (hy : ∀ t, y.dst = some t → t ∉ readsOf x)
  {st st1 st2 : St} (h1 : stepA call x st = some st1) (h2 : stepA call y st1 = some st2) : ∃ st1', stepA call y st = some st1' ∧ stepA call x st1' = some st2 := by
 rw [stepA_core] at h1
 obtain ⟨⟨v, m1⟩, c1, h1⟩ := Option.map_eq_some_iff.1 h1
 subst h1
 rw [stepA_core] at h2
 obtain ⟨⟨u, m2⟩, c2, h2⟩ := Option.map_eq_some_iff.1 h2
 subst h2
 simp only at c2
 have put_agree : ∀ (o o' : AOper) (ρ : Nat → AV) (z : AV), (∀ t, o.dst = some t → t ∉ readsOf o') → agreeOn (readsOf o') (putT ρ o.dst z) ρ := fun o o' ρ z ho t ht => by
  cases hdo : o.dst with
  | none => rfl
  | some d =>
   simp only [putT, put]
   rw [if_neg (fun e => ho d hdo (by rw [← e]; exact ht))]
 rw [coreA_agree (put_agree x y st.tmps v hx)] at c2
 obtain ⟨m1', c3, c4⟩ : ∃ m1', coreA call y st.tmps st.sig = some (u, m1') ∧ coreA call x st.tmps m1' = some (v, m2) := by
  rcases h with h | h
  ·exact core_swap h c1 c2
  ·exact core_frame h c1 c2
 refine ⟨⟨putT st.tmps y.dst u, m1'⟩, by rw [stepA_core, c3]; rfl, ?_⟩
 rw [stepA_core]
 simp only
 rw [coreA_agree (put_agree y x st.tmps u hy), c4]
 simp only [Option.map_some, Option.some.injEq, St.mk.injEq, and_true]
 cases hdx : x.dst with
 | none => rfl
 | some d =>
  cases hdy : y.dst with
  | none => rfl
  | some d' =>
   have hne : d' ≠ d := fun e => hd d hdx (by rw [hdy, e])
   funext t
   simp only [putT, put]
   by_cases h1 : t = d
   ·subst h1
    rw [if_pos rfl, if_neg (Ne.symm hne), if_pos rfl]
   ·rw [if_neg h1]
    split <;> rfl
noncomputable def runIx (call : CallF) (as : List AOper) : List Nat → St → Option St
 | [], st => some st
 | i :: r, st => match as[i]? with
  | some o => (stepA call o st).bind (runIx call as r)
  | none => none
theorem runIx_range' (call : CallF) (as : List AOper) : ∀ (l : List AOper) (i : Nat), (∀ j, l[j]? = as[i + j]?) → ∀ st, runIx call as (List.range' i l.length) st = ops call l st
 | [], i, _, st => rfl
 | o :: r, i, h, st => by
  have h0 : as[i]? = some o := by simpa using (h 0).symm
  simp only [List.length_cons, List.range'_succ, runIx, h0, ops_cons]
  congr 1
  funext st1
  exact runIx_range' call as r (i + 1) (fun j => by have := h (j + 1); simpa [Nat.add_assoc, Nat.add_comm 1 j] using this) st1
theorem runIx_range (call : CallF) (as : List AOper) (st : St) : runIx call as (List.range as.length) st = ops call as st := by
 rw [List.range_eq_range']
 exact runIx_range' call as as 0 (by simp) st
def unordered (pre : List Nat) (i j : Nat) : Prop := before pre i j = false ∧ before pre j i = false
theorem drawOk_spec {pre : List Nat} {l : List AOper} (h : drawOk pre l = true) {i j : Nat} {x y : AOper} (hx : l[i]? = some x) (hy : l[j]? = some y) (hlt : i < j) (hu : unordered pre i j) :
  (mayPass (classOf x.op) (classOf y.op) = true ∨ frameOk x.op y.op = true) ∧ (∀ t, x.dst = some t → y.dst ≠ some t) ∧ (∀ t, y.dst = some t → t ∉ readsOf x) ∧ (∀ t, x.dst = some t → t ∉ readsOf y) := by
 have hne : i ≠ j := by omega
 unfold drawOk at h
 rw [Bool.and_eq_true] at h
 have h1 := h.1
 unfold pairsOk at h1
 have mem : ∀ {i : Nat} {x : AOper}, l[i]? = some x → (x, i) ∈ l.zipIdx := fun e => by
  rw [List.mem_zipIdx_iff_getElem?]
  exact e
 have h2 := List.all_eq_true.1 h1 _ (mem hx)
 have h3 := List.all_eq_true.1 h2 _ (mem hy)
 have h4 := List.all_eq_true.1 (List.all_eq_true.1 h1 _ (mem hy)) _ (mem hx)
 have hne' : (i == j) = false := by simpa using hne
 have hne'' : (j == i) = false := by simpa using Ne.symm hne
 have hji : decide (j < i) = false := by simp; omega
 obtain ⟨hu1, hu2⟩ := hu
 simp only [hne', Bool.false_or, Bool.and_eq_true, hu1, hu2, Bool.or_false] at h3
 simp only [hne'', Bool.false_or, Bool.and_eq_true, hu1, hu2, Bool.or_false] at h4
 obtain ⟨⟨a1, a2⟩, a3⟩ := h3
 obtain ⟨⟨_, a4⟩, _⟩ := h4
 refine ⟨?_, fun t ht e => ?_, fun t ht hm => ?_, fun t ht hm => ?_⟩
 ·cases hcx : classOf x.op <;> cases hcy : classOf y.op <;> rw [hcx, hcy] at a3 <;> first | exact .inl rfl | (simp [hji] at a3; done) | (simp [hji, hlt] at a3; exact .inr a3) | (refine .inl ?_; simpa [mayPass] using a3)
 ·rw [ht, e] at a1
  simp at a1
 ·rw [ht] at a2
  simp at a2
  exact a2 hm
 ·rw [ht] at a4
  simp at a4
  exact a4 hm
theorem unordered.symm {pre : List Nat} {i j : Nat} (h : unordered pre i j) : unordered pre j i := ⟨h.2, h.1⟩
theorem toFront {call : CallF} {pre : List Nat} {as : List AOper} (h : drawOk pre as = true) {i : Nat} {q : List Nat} {f : St} : ∀ (p : List Nat) (st : St), (∀ j, j ∈ p → j < i ∧ unordered pre i j) → runIx call as (p ++ i :: q) st = some f →
  runIx call as (i :: (p ++ q)) st = some f
 | [], st, _, hr => hr
 | j :: p, st, hp, hr => by
  simp only [List.cons_append, runIx] at hr
  split at hr
  ·rename_i y hy
   obtain ⟨st1, s1, hr⟩ := Option.bind_eq_some_iff.1 hr
   have hr' := toFront h p st1 (fun j' hj' => hp j' (by simp [hj'])) hr
   simp only [runIx] at hr'
   split at hr'
   ·rename_i x hx
    obtain ⟨st2, s2, hr'⟩ := Option.bind_eq_some_iff.1 hr'
    obtain ⟨hlt, hu⟩ := hp j (by simp)
    obtain ⟨d1, d2, d3, d6⟩ := drawOk_spec h hy hx hlt hu.symm
    obtain ⟨st1', t1, t2⟩ := step_swap d1 d2 d6 d3 s1 s2
    simp only [runIx, List.cons_append, hx, hy, t1, Option.bind_some, t2]
    exact hr'
   ·cases hr'
  ·cases hr
def bindsOf (o : Oper) : List Edge := o.after.toList.filter (Region.binds .any)
theorem foldl_bits {acc : List Nat} {i : Nat} : ∀ (es : List Edge) (m : Nat), (es.foldl (fun m e => m ||| 1 <<< e.on ||| acc.getD e.on 0) m).testBit i = true → m.testBit i = true ∨ ∃ e, e ∈ es ∧ (e.on = i ∨ (acc.getD e.on 0).testBit i = true)
 | [], m, h => .inl h
 | e :: r, m, h => by
  simp only [List.foldl_cons] at h
  rcases foldl_bits r _ h with h | ⟨e', h1, h2⟩
  ·rw [Nat.testBit_or, Nat.testBit_or, Bool.or_eq_true, Bool.or_eq_true] at h
   rcases h with (h | h) | h
   ·exact .inl h
   ·rw [Nat.testBit_shiftLeft] at h
    simp only [Bool.and_eq_true, decide_eq_true_eq] at h
    have := h.2
    have h0 : i - e.on = 0 := by
     cases hq : i - e.on with
     | zero => rfl
     | succ n =>
      rw [hq, Nat.testBit_succ] at this
      simp at this
    exact .inr ⟨e, by simp, .inl (by omega)⟩
   ·exact .inr ⟨e, by simp, .inr h⟩
  ·exact .inr ⟨e', by simp [h1], h2⟩
theorem preds_spec : ∀ (l : List Oper) (acc pre : List Nat), predsFrom acc l = some pre → (∀ j, j < acc.length → pre.getD j 0 = acc.getD j 0) ∧ pre.length = acc.length + l.length ∧
  ∀ j o, l[j]? = some o → (∀ e, e ∈ bindsOf o → e.on < acc.length + j) ∧ ∀ i, (pre.getD (acc.length + j) 0).testBit i = true → ∃ e, e ∈ bindsOf o ∧ (e.on = i ∨ (pre.getD e.on 0).testBit i = true)
 | [], acc, pre, h => by
  simp only [predsFrom] at h
  injection h with h
  subst h
  exact ⟨fun _ _ => rfl, rfl, fun j o hj => by simp at hj⟩
 | o :: r, acc, pre, h => by
  simp only [predsFrom] at h
  split at h
  ·rename_i hall
   obtain ⟨h1, h2, h3⟩ := preds_spec r _ pre h
   simp only [List.length_append, List.length_cons, List.length_nil] at h1 h2 h3
   have hall' : ∀ e, e ∈ bindsOf o → e.on < acc.length := fun e he => by simpa using List.all_eq_true.1 hall e he
   refine ⟨fun j hj => ?_, by simp only [List.length_cons]; omega, fun j o' hj => ?_⟩
   ·rw [h1 j (by omega)]
    simp [List.getD_eq_getElem?_getD, List.getElem?_append_left hj]
   ·cases j with
    | zero =>
     simp only [List.getElem?_cons_zero, Option.some.injEq] at hj
     subst hj
     refine ⟨fun e he => by have := hall' e he; omega, fun i hi => ?_⟩
     rw [Nat.add_zero, h1 acc.length (by omega)] at hi
     have hv : (acc ++ [(bindsOf o).foldl (fun m e => m ||| 1 <<< e.on ||| acc.getD e.on 0) 0]).getD acc.length 0 = (bindsOf o).foldl (fun m e => m ||| 1 <<< e.on ||| acc.getD e.on 0) 0 := by
      simp [List.getD_eq_getElem?_getD]
     have hi' : ((bindsOf o).foldl (fun m e => m ||| 1 <<< e.on ||| acc.getD e.on 0) 0).testBit i = true := by
      rw [← hv]
      exact hi
     rcases foldl_bits _ _ hi' with h0 | ⟨e, e1, e2⟩
     ·simp at h0
     ·refine ⟨e, e1, e2.imp id fun e3 => ?_⟩
      rw [h1 e.on (by have := hall' e e1; omega)]
      have : (acc ++ [(bindsOf o).foldl (fun m e => m ||| 1 <<< e.on ||| acc.getD e.on 0) 0]).getD e.on 0 = acc.getD e.on 0 := by
       simp [List.getD_eq_getElem?_getD, List.getElem?_append_left (hall' e e1)]
      exact (congrArg (fun q => Nat.testBit q i) this).trans e3
    | succ j =>
     simp only [List.getElem?_cons_succ] at hj
     obtain ⟨g1, g2⟩ := h3 j o' hj
     refine ⟨fun e he => by have := g1 e he; omega, fun i hi => g2 i ?_⟩
     have : acc.length + 1 + j = acc.length + (j + 1) := by omega
     rw [this]
     exact hi
  ·cases h
structure PreOk (l : List Oper) (pre : List Nat) : Prop where
 len : pre.length = l.length
 edge : ∀ j o, l[j]? = some o → ∀ e, e ∈ bindsOf o → e.on < j
 why : ∀ j o, l[j]? = some o → ∀ i, before pre i j = true → ∃ e, e ∈ bindsOf o ∧ (e.on = i ∨ before pre i e.on = true)
theorem preOk_of {l : List Oper} {pre : List Nat} (h : predsFrom [] l = some pre) : PreOk l pre := by
 obtain ⟨_, h2, h3⟩ := preds_spec l [] pre h
 simp only [List.length_nil, Nat.zero_add] at h2 h3
 exact ⟨h2, fun j o hj => (h3 j o hj).1, fun j o hj i hi => (h3 j o hj).2 i hi⟩
theorem PreOk.lt {l : List Oper} {pre : List Nat} (h : PreOk l pre) : ∀ (j i : Nat), before pre i j = true → i < j := by
 intro j
 induction j using Nat.strongRecOn with
 | _ j ih =>
  intro i hi
  by_cases hj : j < l.length
  ·obtain ⟨e, e1, e2⟩ := h.why j _ (List.getElem?_eq_getElem hj) i hi
   have := h.edge j _ (List.getElem?_eq_getElem hj) e e1
   rcases e2 with e2 | e2
   ·omega
   ·have := ih e.on this i e2
    omega
  ·have : pre.getD j 0 = 0 := by
    rw [List.getD_eq_getElem?_getD, List.getElem?_eq_none (by rw [h.len]; omega)]
    rfl
   simp only [before, this, Nat.zero_testBit] at hi
   cases hi
def remIx (n : Nat) (listed : Array Bool) : List Nat := (List.range n).filter fun j => !listed.getD j true
theorem mem_remIx {n j : Nat} {listed : Array Bool} : j ∈ remIx n listed ↔ j < n ∧ listed.getD j true = false := by
 simp [remIx, List.mem_filter]
theorem remIx_split {n i : Nat} {listed : Array Bool} (hi : i ∈ remIx n listed) : ∃ p q, remIx n listed = p ++ i :: q ∧ remIx n (listed.setIfInBounds i true) = p ++ q ∧ ∀ j, j ∈ p → j < i ∧ listed.getD j true = false := by
 obtain ⟨h1, h2⟩ := mem_remIx.1 hi
 refine ⟨(List.range i).filter fun j => !listed.getD j true, (List.range' (i + 1) (n - (i + 1))).filter fun j => !listed.getD j true, ?_, ?_, fun j hj => ?_⟩
 ·have hr : List.range n = List.range i ++ i :: List.range' (i + 1) (n - (i + 1)) := by
   rw [List.range_eq_range', List.range_eq_range', show n = i + (n - (i + 1) + 1) by omega, ← List.range'_append_1]
   simp [List.range'_succ]
   omega
  rw [remIx, hr, List.filter_append, List.filter_cons]
  simp [h2]
 ·have hr : List.range n = List.range i ++ i :: List.range' (i + 1) (n - (i + 1)) := by
   rw [List.range_eq_range', List.range_eq_range', show n = i + (n - (i + 1) + 1) by omega, ← List.range'_append_1]
   simp [List.range'_succ]
   omega
  have hs : (listed.setIfInBounds i true).getD i true = true := by
   by_cases hlt : i < listed.size
   ·simp [Array.getD, hlt]
   ·simp [Array.getD, hlt]
  rw [remIx, hr, List.filter_append, List.filter_cons]
  simp only [hs, Bool.not_true, Bool.false_eq_true, if_false]
  congr 1
  ·refine List.filter_congr fun j hj => ?_
   rw [getD_set_ne true (by have := List.mem_range.1 hj; omega)]
  ·refine List.filter_congr fun j hj => ?_
   rw [getD_set_ne true (by have := List.mem_range'_1.1 hj; omega)]
 ·rw [List.mem_filter, List.mem_range] at hj
  exact ⟨hj.1, by simpa using hj.2⟩
theorem compOpers_get {all : List Oper} {md : Nat → Md} : ∀ (l : List Oper) (i : Nat) (al : List AOper), compOpers P all md i l = some al → al.length = l.length ∧ ∀ j o, l[j]? = some o → ∃ ao, al[j]? = some ao ∧ ao.dst = o.dst ∧ compGuard all o.guard = some ao.guard ∧ compOp P (md (i + j)) o.op = some ao.op
 | [], i, al, h => by
  simp only [compOpers] at h
  injection h with h
  subst h
  exact ⟨rfl, fun j o hj => by simp at hj⟩
 | o :: r, i, al, h => by
  simp only [compOpers] at h
  split at h
  ·rename_i g op rest e1 e2 e3
   injection h with h
   subst h
   obtain ⟨h1, h2⟩ := compOpers_get r (i + 1) rest e3
   refine ⟨by simp [h1], fun j o' hj => ?_⟩
   cases j with
   | zero =>
    simp only [List.getElem?_cons_zero, Option.some.injEq] at hj
    subst hj
    exact ⟨_, rfl, rfl, e1, e2⟩
   | succ j =>
    obtain ⟨ao, a1, a2, a3, a4⟩ := h2 j o' (by simpa using hj)
    exact ⟨ao, by simpa using a1, a2, a3, by rw [← a4]; congr 2; omega⟩
  ·cases h
theorem drawn_sound {call : CallF} (hcall : CallSound P B0 w0 call) (hhere : HereSound P B0 w0 call) (hro : RoOk call) {rd : Option Nat} {n : Nat} {all : Array Oper} {md : Nat → Md} {as : List AOper} {pre : List Nat} (hc : compOpers P all.toList md 0 all.toList = some as)
  (hpre : PreOk all.toList pre) (hok : drawOk pre as = true) {f : St} {Q : Exit → Act → World → Prop} : ∀ (fuel : Nat) (listed : Array Bool) (G : Ghost) (st : St) (a : Act) (w : World),
  listed.size = all.size → (remIx all.size listed).length ≤ fuel → (∀ i j, listed.getD j false = true → before pre i j = true → listed.getD i false = true) → runIx call as (remIx all.size listed) st = some f →
  At P B0 w0 G k nl st.sig w → st.sig.loops.length = nl → TmpsRel G k nl st.tmps a → (∀ o, o ∈ as → ∀ t, o.dst = some t → t < a.tmps.size) → (∀ a' w', PostTo P B0 w0 G k nl st.sig a f a' w' → Q .normal a' w') →
  wpAnyIn (fenceOf rd) n P .any all Q fuel listed a w := by
 have hnone : ∀ (listed : Array Bool), listed.size = all.size → Region.ready .any all listed = [] → remIx all.size listed = [] := fun listed hsz hr => by
  have key : ∀ j, j < all.size → listed.getD j true = true := fun j => by
   induction j using Nat.strongRecOn with
   | _ j ih =>
    intro hj
    cases hl : listed.getD j true with
    | true => rfl
    | false =>
     exfalso
     have : j ∈ Region.ready .any all listed := by
      rw [mem_ready]
      refine ⟨hl, all[j], Array.getElem?_eq_getElem hj, fun e he hb => ?_⟩
      have hlt := hpre.edge j all[j] (by simp [hj]) e (by simp [bindsOf, List.mem_filter]; exact ⟨he, hb⟩)
      have := ih e.on hlt (by omega)
      have hlt2 : e.on < listed.size := by omega
      simpa [Array.getD, hlt2] using this
     rw [hr] at this
     cases this
  rw [remIx, List.filter_eq_nil_iff]
  intro j hj
  rw [key j (List.mem_range.1 hj)]
  simp
 have done : ∀ (listed : Array Bool) (G : Ghost) (st : St) (a : Act) (w : World), listed.size = all.size → Region.ready .any all listed = [] → runIx call as (remIx all.size listed) st = some f → At P B0 w0 G k nl st.sig w → TmpsRel G k nl st.tmps a →
   (∀ a' w', PostTo P B0 w0 G k nl st.sig a f a' w' → Q .normal a' w') → Q .normal a w := fun listed G st a w hsz hr hrun h hR hQ => by
  rw [hnone listed hsz hr] at hrun
  simp only [runIx] at hrun
  injection hrun with hrun
  subst hrun
  exact hQ a w ⟨G, h, .refl _ _ _, rfl, hR, rfl, rfl⟩
 intro fuel
 induction fuel with
 | zero =>
  intro listed G st a w hsz hlen hcl hrun h hll hR hd hQ
  have hr0 : Region.ready .any all listed = [] := by
   cases hr : Region.ready .any all listed with
   | nil => rfl
   | cons i r =>
    exfalso
    have hi : i ∈ Region.ready .any all listed := by rw [hr]; simp
    obtain ⟨h1, o, h2, _⟩ := mem_ready.1 hi
    have : i ∈ remIx all.size listed := mem_remIx.2 ⟨(Array.getElem?_eq_some_iff.1 h2).1, h1⟩
    have h0 : remIx all.size listed = [] := List.eq_nil_of_length_eq_zero (by omega)
    rw [h0] at this
    cases this
  exact ⟨hr0, done listed G st a w hsz hr0 hrun h hR hQ⟩
 | succ fuel ih =>
  intro listed G st a w hsz hlen hcl hrun h hll hR hd hQ
  refine ⟨fun hr => done listed G st a w hsz hr hrun h hR hQ, fun i hi => ?_⟩
  obtain ⟨h1, o, h2, hafter⟩ := mem_ready.1 hi
  have hlt : i < all.size := (Array.getElem?_eq_some_iff.1 h2).1
  have hmem : i ∈ remIx all.size listed := mem_remIx.2 ⟨hlt, h1⟩
  obtain ⟨p, q, e1, e2, e3⟩ := remIx_split hmem
  have ho : all.toList[i]? = some o := by simpa using h2
  have hahead : ∀ j, before pre j i = true → listed.getD j false = true := fun j hj => by
   obtain ⟨e, c1, c2⟩ := hpre.why i o ho j hj
   have he : e ∈ o.after ∧ Region.binds .any e = true := by
    simp only [bindsOf, List.mem_filter] at c1
    exact ⟨by simpa using c1.1, c1.2⟩
   have hl := hafter e he.1 he.2
   rcases c2 with c2 | c2
   ·rw [← c2]; exact hl
   ·exact hcl j e.on hl c2
  have hfront : runIx call as (i :: (p ++ q)) st = some f := by
   refine toFront hok p st (fun j hj => ?_) (by rw [← e1]; exact hrun)
   obtain ⟨j1, j2⟩ := e3 j hj
   refine ⟨by omega, ?_, ?_⟩
   ·cases hb : before pre i j with
    | false => rfl
    | true => have := hpre.lt j i hb; omega
   ·cases hb : before pre j i with
    | false => rfl
    | true =>
     exfalso
     have := hahead j hb
     have hjs : j < listed.size := by omega
     simp [Array.getD, hjs] at this j2
     rw [this] at j2
     cases j2
  obtain ⟨g1, g2⟩ := compOpers_get _ 0 as hc
  obtain ⟨ao, a1, a2, a3, a4⟩ := g2 i o ho
  simp only [runIx, a1] at hfront
  obtain ⟨st1, s1, s2⟩ := Option.bind_eq_some_iff.1 hfront
  unfold wpOpIn
  simp only [h2]
  have hall : all = all.toList.toArray := by simp
  have hstep := op_step hcall hhere hro (rd := rd) (n := n) (all := all.toList) (Q := Q) h hll hR a3 a4 a2 (fun t ht => hd ao (List.mem_of_getElem? a1) t ht) s1 (K := wpAnyIn (fenceOf rd) n P .any all Q fuel (listed.setIfInBounds i true)) (fun a1' w1 hp => by
   obtain ⟨G1, k1, k2, k3, k4, k5, k6⟩ := hp
   refine ih (listed.setIfInBounds i true) G1 st1 a1' w1 (by simp [hsz]) ?_ ?_ (by rw [e2]; exact s2) k1 (k3.trans hll) k4 (fun o' ho' t ht => by rw [k5]; exact hd o' ho' t ht) (fun a' w' hp' => hQ a' w' ?_)
   ·rw [e2]
    rw [e1] at hlen
    simp at hlen ⊢
    omega
   ·intro x y hy hxy
    by_cases hyi : y = i
    ·subst hyi
     exact getD_set_true (hahead x hxy)
    ·rw [getD_set_ne false (Ne.symm hyi)] at hy
     exact getD_set_true (hcl x y hy hxy)
   ·obtain ⟨G2, q1, q2, q3, q4, q5, q6⟩ := hp'
    rw [k3] at q2 q3
    exact ⟨G2, q1, k2.trans q2, q3, q4, q5.trans k5, q6.trans k6⟩)
  simpa using hstep
theorem region_drawn {call : CallF} (hcall : CallSound P B0 w0 call) (hhere : HereSound P B0 w0 call) (hro : RoOk call) (hm : P.follows .mixedOrders = true) {rd : Option Nat} {n id : Nat} {all : Array Oper} {md : Nat → Md} {as : List AOper} {pre : List Nat} {st st' : St} {a : Act}
  (hpre : predsFrom [] all.toList = some pre) (hco : compOpers P all.toList md 0 all.toList = some as) (hok : drawOk pre as = true) (h : At P B0 w0 G k nl st.sig w) (hll : st.sig.loops.length = nl) (hR : TmpsRel G k nl st.tmps a) (hd : ∀ o, o ∈ as → ∀ t, o.dst = some t → t < a.tmps.size) (hs : ops call as st = some st')
  {Q : Exit → Act → World → Prop} (hQ : ∀ a' w', PostTo P B0 w0 G k nl st.sig a st' a' w' → Q .normal a' w') : (Code.region id all true).wpIn (fenceOf rd) n P Q a w := by
 have hlen := (compOpers_get _ 0 _ hco).1
 refine wpIn_region_any hm ?_
 have hat : At P B0 w0 G k nl st.sig w.drew := ⟨h.rel.drew, h.len, h.cur⟩
 have hrem : remIx all.size (Array.replicate all.size false) = List.range as.length := by
  rw [hlen]
  simp only [Array.length_toList, remIx]
  rw [List.filter_eq_self]
  intro j hj
  have := List.mem_range.1 hj
  simp [Array.getD, this]
 have hrun : runIx call as (remIx all.size (Array.replicate all.size false)) st = some st' := by
  rw [hrem, runIx_range]
  exact hs
 refine drawn_sound hcall hhere hro hco (preOk_of hpre) hok all.size _ G st a _ (by simp) ?_ ?_ hrun hat hll hR hd hQ
 ·rw [hrem, hlen]; simp
 ·intro i j hj
  by_cases hlt : j < all.size
  ·simp [Array.getD, hlt] at hj
  ·simp [Array.getD, hlt] at hj
theorem low_spec {mu : Mu} {pre : List Nat} {l : List Oper} {n0 : Nat} {as : List AOper} (h : compLow P mu pre l = some (n0, as)) : ∃ md, compOpers P l md 0 l = some as ∧ drawOk pre as = true := by
 unfold compLow at h
 split at h
 ·rename_i as' hco
  split at h
  ·rename_i hok
   injection h with h
   injection h with _ h
   subst h
   exact ⟨_, hco, hok⟩
  ·unfold compWst at h
   split at h
   ·rename_i as2 hco2
    split at h
    ·rename_i hok
     injection h with h
     injection h with _ h
     subst h
     exact ⟨_, hco2, hok⟩
    ·cases h
   ·cases h
 ·cases h
theorem region_sound {call : CallF} (hcall : CallSound P B0 w0 call) (hhere : HereSound P B0 w0 call) (hro : RoOk call) (hm : P.follows .mixedOrders = true) {rd : Option Nat} {n id : Nat} {all : Array Oper} {drawn : Bool} {as : List AOper} {n0 : Nat} {st st' : St} {a : Act}
  {mu : Mu} (hc : compRegion P mu all.toList drawn = some (n0, as)) (h : At P B0 w0 G k nl st.sig w) (hll : st.sig.loops.length = nl) (hR : TmpsRel G k nl st.tmps a) (hd : ∀ o, o ∈ as → ∀ t, o.dst = some t → t < a.tmps.size) (hs : ops call as st = some st')
  {Q : Exit → Act → World → Prop} (hQ : ∀ a' w', PostTo P B0 w0 G k nl st.sig a st' a' w' → Q .normal a' w') : (Code.region id all drawn).wpIn (fenceOf rd) n P Q a w := by
 cases drawn with
 | false =>
  simp only [compRegion, Bool.false_eq_true, if_false] at hc
  obtain ⟨as', hc', he⟩ := Option.map_eq_some_iff.1 hc
  injection he with _ he
  subst he
  refine wpIn_region_list ?_
  have := ops_sound hcall hhere hro (rd := rd) (n := n) (Q := Q) all.toList 0 as' G st st' a w hc' h hll hR hd hs hQ
  simpa using this
 | true =>
  simp only [compRegion, if_true] at hc
  split at hc
  ·cases hc
  rename_i pre hpre
  split at hc
  ·rename_i as' hco
   split at hc
   ·rename_i hok
    injection hc with hc
    injection hc with _ hc
    subst hc
    exact region_drawn hcall hhere hro hm hpre hco hok h hll hR hd hs hQ
   ·split at hc
    ·rename_i as2 hco2
     split at hc
     ·rename_i hok
      injection hc with hc
      injection hc with _ hc
      subst hc
      exact region_drawn hcall hhere hro hm hpre hco2 hok h hll hR hd hs hQ
     ·split at hc
      ·split at hc
       ·rename_i as3 hco3
        split at hc
        ·rename_i hok
         injection hc with hc
         injection hc with _ hc
         subst hc
         exact region_drawn hcall hhere hro hm hpre hco3 hok h hll hR hd hs hQ
        ·obtain ⟨_, hco4, hok4⟩ := low_spec hc
         exact region_drawn hcall hhere hro hm hpre hco4 hok4 h hll hR hd hs hQ
       ·cases hc
      ·obtain ⟨_, hco4, hok4⟩ := low_spec hc
       exact region_drawn hcall hhere hro hm hpre hco4 hok4 h hll hR hd hs hQ
    ·cases hc
  ·cases hc
end
end Go.Ax

/-
  Loops over functions: their records.
-/
namespace Go.Ax
open Go.RowKit
section
variable {P : Program} {B0 : Nat} {w0 : World} {G : Ghost} {k nl : Nat} {w : World} {s : Sig}
theorem alloc_imm (h : SRel P B0 w0 G s w) (o : Obj) {b i : Nat} {v : Value} (e : G.I b i = some v) : (w.alloc o).cell? ⟨b, i, none⟩ = some v := by
 have hlt := h.I_lt e
 rw [World.cell?_alloc_lt _ _ _ (by exact hlt)]
 exact h.imm b i v e
theorem mark_sound (h : At P B0 w0 G k nl s w) : ∃ G', At P B0 w0 G' k nl s (w.alloc (.deferred (some []))) ∧ GLe k s.loops.length G G' ∧ G'.loops = G.loops ∧
  ∃ gr, G.acts[k]? = some gr ∧ G'.acts[k]? = some { gr with marks := gr.marks ++ [w.heap.size] } := by
 obtain ⟨r, gr, hr, hg⟩ := h.rec_ (Nat.le_refl k)
 have hrr := h.rel.rec_ k r gr hr hg
 have hlen : G.acts.length = k + 1 := by rw [h.rel.len, h.len]
 let G' : Ghost := { G with acts := G.acts.modify k fun q => { q with marks := q.marks ++ [w.heap.size] }, own := fun b => if b = w.heap.size then some (.mark k gr.marks.length) else G.own b }
 have hga : G'.acts[k]? = some { gr with marks := gr.marks ++ [w.heap.size] } := by
  show (G.acts.modify k _)[k]? = _
  rw [modify_get, if_pos rfl, hg]; rfl
 have hold : ∀ d, d ≠ k → G'.acts[d]? = G.acts[d]? := fun d hd => by
  show (G.acts.modify k _)[d]? = _
  rw [modify_get, if_neg (Ne.symm hd)]
 have hle : ∀ k' nl', k' ≤ k → GLe k' nl' G G' := fun k' nl' hk' => ⟨fun _ _ _ e => e, fun d q hd e => by
  by_cases hdk : d = k
  ·subst hdk
   rw [hg] at e
   injection e with e
   subst e
   exact ⟨_, hga, ⟨fun _ _ e => e, fun _ T e => ⟨T, e, .refl T⟩, rfl, fun _ _ e => e, fun _ _ e => e⟩, fun hlt => by omega⟩
  ·exact ⟨q, by rw [hold d hdk]; exact e, .refl q, fun _ => rfl⟩, fun _ _ _ e => e⟩
 have hko : KeepsOwn (fun _ => False) G w G' (w.alloc (.deferred (some []))) := fun b o e _ => by
  have hlt := h.rel.ownlt b o e
  exact ⟨by simp only [G']; rw [if_neg (by omega)]; exact e, Below.heap_alloc _ _ _ hlt, fun _ e => e⟩
 have hs : SRel P B0 w0 G' s (w.alloc (.deferred (some []))) := by
  refine ⟨fun b i v e => alloc_imm h.rel _ e, by simp [G', h.rel.len], h.rel.llen, fun d q gq h1 h2 => ?_, fun l lp q h1 h2 => ?_, fun d q h1 => ?_, fun d d' q q' hd h1 h2 => ?_, h.rel.below.alloc h.rel.low _, by have := h.rel.low; simp; omega, fun b o e => ?_⟩
  ·have hdk : d ≤ k := by have := (List.getElem?_eq_some_iff.1 h1).1; rw [h.len] at this; omega
   by_cases hd : d = k
   ·subst hd
    rw [hga] at h2
    injection h2 with h2
    subst h2
    rw [hr] at h1
    injection h1 with h1
    subst h1
    have hkeep := hrr.keep (hle d gr.nl (Nat.le_refl _)) hko (fun o ho => ho.elim)
    refine ⟨hkeep.blen, hkeep.tlen, hkeep.box, hkeep.full, hkeep.tok, fun i b e => ?_, hkeep.gsl, hkeep.mp⟩
    rcases get_push e with ⟨_, e⟩ | ⟨hi, rfl⟩
    ·exact hkeep.mark i b e
    ·subst hi
     exact ⟨h.rel.low, by simp [G'], World.alloc_heap_new w _⟩
   ·rw [hold d hd] at h2
    exact (h.rel.rec_ d q gq h1 h2).keep (hle d _ hdk) hko (fun o ho => ho.elim)
  ·have hq := h.rel.loop l lp q h1 h2
   obtain ⟨k1, k2, _⟩ := hko _ _ hq.2.1 (fun x => x)
   exact hq.keep (fun k' nl' a1 _ => hle k' nl' (by omega)) (by simp [G']) k1 k2
  ·by_cases hd : d = k
   ·subst hd
    rw [hga] at h1
    injection h1 with h1
    subst h1
    exact h.rel.nls d gr hg
   ·rw [hold d hd] at h1
    exact h.rel.nls d q h1
  ·have get : ∀ (d : Nat) (q : GRec), G'.acts[d]? = some q → ∃ q0, G.acts[d]? = some q0 ∧ q.nl = q0.nl := fun d q e => by
    by_cases hd : d = k
    ·subst hd
     rw [hga] at e
     injection e with e
     subst e
     exact ⟨gr, hg, rfl⟩
    ·rw [hold d hd] at e
     exact ⟨q, e, rfl⟩
   obtain ⟨q0, a1, a2⟩ := get d q h1
   obtain ⟨q0', a1', a2'⟩ := get d' q' h2
   rw [a2, a2']
   exact h.rel.nlm d d' q0 q0' hd a1 a1'
  ·simp only [G'] at e
   split at e
   ·rename_i hb; subst hb; simp
   ·have := h.rel.ownlt b o e; simp; omega
 exact ⟨G', h.to hs (hle k nl (Nat.le_refl _)) rfl, hle k _ (Nat.le_refl _), rfl, gr, hg, hga⟩
theorem enter_sound (h : At P B0 w0 G k nl s w) (hll : s.loops.length = nl) {lp : ALoop} {rc : Loop} (h1 : rc.state = .ready ∧ lp.ready = true ∧ lp.pend = none ∧ rc.pending = none) (hp : rc.params.toList = lp.params) {mu : Mu} (ha : comp P mu rc.assign = some lp.assign)
  (hb : comp P mu rc.body = some lp.body) (ta : tmpsOk rc.tmps.size lp.assign = true) (tb : tmpsOk rc.tmps.size lp.body = true) (tp : ∀ p, p ∈ lp.params → p < rc.tmps.size) (hR : ∀ t, Rel G k nl (lp.tmps t) (rc.tmps.getD t Go.undef)) :
  ∃ G', At P B0 w0 G' k nl (enterLoop s lp) (w.alloc (.loop rc)) ∧ GLe (k + 1) nl G G' ∧ G'.acts = G.acts ∧ G'.loops = G.loops ++ [w.heap.size] := by
 let G' : Ghost := { G with loops := G.loops ++ [w.heap.size], own := fun b => if b = w.heap.size then some (.loop nl) else G.own b }
 have hgl : G.loops.length = nl := by rw [h.rel.llen, hll]
 have hle : ∀ k' nl', GLe k' nl' G G' := fun k' nl' => ⟨fun _ _ _ e => e, fun d q hd e => ⟨q, e, .refl q, fun _ => rfl⟩, fun l r _ e => get_old e⟩
 have hko : KeepsOwn (fun _ => False) G w G' (w.alloc (.loop rc)) := fun b o e _ => by
  have hlt := h.rel.ownlt b o e
  exact ⟨by simp only [G']; rw [if_neg (by omega)]; exact e, Below.heap_alloc _ _ _ hlt, fun _ e => e⟩
 have hlen : G.acts.length = k + 1 := by rw [h.rel.len, h.len]
 have hs : SRel P B0 w0 G' (enterLoop s lp) (w.alloc (.loop rc)) := by
  refine ⟨fun b i v e => alloc_imm h.rel _ e, h.rel.len, by simp [G', enterLoop, h.rel.llen], fun d q gq a1 a2 => ?_, fun l q r a1 a2 => ?_, fun d q a1 => ?_, h.rel.nlm, h.rel.below.alloc h.rel.low _, by have := h.rel.low; simp; omega, fun b o e => ?_⟩
  ·exact (h.rel.rec_ d q gq a1 a2).keep (hle d _) hko (fun o ho => ho.elim)
  ·rcases get_push a1 with ⟨hl, a1⟩ | ⟨hl, rfl⟩
   ·rcases get_push a2 with ⟨_, a2⟩ | ⟨hl2, _⟩
    ·have hq := h.rel.loop l q r a1 a2
     obtain ⟨k1, k2, _⟩ := hko _ _ hq.2.1 (fun x => x)
     exact hq.keep (fun k' nl' _ _ => hle k' nl') (Nat.le_refl _) k1 k2
    ·omega
   ·have hr : r = w.heap.size := by
     rcases get_push a2 with ⟨hl2, _⟩ | ⟨_, e⟩
     ·omega
     ·exact e
    subst hr
    have hlnl : l = nl := by omega
    subst hlnl
    refine ⟨h.rel.low, by simp [G'], rc, World.alloc_heap_new w _, fun _ => ⟨h1.1, h1.2.2.1⟩, fun e => ?_, ?_, ?_, hp, ⟨mu, ha, hb⟩, ta, tb, tp, k, l, ?_, Nat.le_refl _, fun d gq e hlt => ?_, fun t => (hR t).mono (hle _ _) (Nat.le_refl _) (Nat.le_refl _)⟩
    ·rw [h1.2.1] at e; cases e
    ·rw [h1.2.2.2, h1.2.2.1]; rfl
    ·rw [h1.2.2.1]; simp
    ·show k + 1 ≤ G.acts.length
     omega
    ·have e' : G.acts[d]? = some gq := e
     have := h.rel.nls d gq e'
     omega
  ·have := h.rel.nls d q a1
   simp [enterLoop]; omega
  ·simp only [G'] at e
   split at e
   ·rename_i hb; subst hb; simp
   ·have := h.rel.ownlt b o e; simp; omega
 obtain ⟨gr, g1, g2⟩ := h.cur
 exact ⟨G', ⟨hs, h.len, gr, g1, g2⟩, hle _ _, rfl, rfl⟩
theorem setLoop_sound (h : SRel P B0 w0 G s w) {l r : Nat} {lp lp' : ALoop} {rc rc' : Loop} (hl : s.loops[l]? = some lp) (hr : G.loops[l]? = some r) (hrc : w.heap[r]? = some (.loop rc)) {f : ALoop → ALoop} (hf : f lp = lp') (ho : LoopObj P G l lp' rc') :
  SRel P B0 w0 G (setLoop s l f) (w.putObj r (.loop rc')) := by
 obtain ⟨b1, b2, _⟩ := h.loop l lp r hl hr
 have hko : KeepsOwn (· = .loop l) G w G (w.putObj r (.loop rc')) := fun b o e ho => ⟨e, World.putObj_heap_other (fun hb => ho (by subst hb; rw [b2] at e; injection e with e; exact e.symm)), fun _ e => e⟩
 have hrl : r < w.heap.size := (Array.getElem?_eq_some_iff.1 hrc).1
 refine ⟨fun b i v e => ?_, h.len, by simp [setLoop, h.llen], fun d q gq a1 a2 => ?_, fun l' q r' a1 a2 => ?_, fun d q a1 => ?_, h.nlm, ?_, by rw [World.putObj_size]; exact h.low, fun b o e => by rw [World.putObj_size]; exact h.ownlt b o e⟩
 ·have := h.imm b i v e
  by_cases hb : b = r
  ·subst hb
   simp only [World.cell?, hrc] at this
   cases this
  ·have hh : (w.putObj r (.loop rc')).heap[b]? = w.heap[b]? := World.putObj_heap_other hb
   rw [← this]
   simp only [World.cell?, hh]
 ·exact (h.rec_ d q gq a1 a2).keep (GLe.refl _ _ _) hko (fun o ho => by subst ho; exact ⟨fun _ e => (by cases e), fun _ e => (by cases e), fun _ e => (by cases e)⟩)
 ·simp only [setLoop, modify_get] at a1
  by_cases hll : l = l'
  ·subst hll
   rw [if_pos rfl, hl] at a1
   simp only [Option.map_some, Option.some.injEq] at a1
   rw [hr] at a2
   injection a2 with a2
   subst a2
   rw [hf] at a1
   subst a1
   exact ⟨b1, b2, rc', World.putObj_heap_same hrl, ho⟩
  ·rw [if_neg hll] at a1
   have hq := h.loop l' q r' a1 a2
   obtain ⟨k1, k2, _⟩ := hko _ _ hq.2.1 (fun e => hll (by injection e with e; exact e.symm))
   exact hq.keep (fun _ _ _ _ => GLe.refl _ _ _) (Nat.le_refl _) k1 k2
 ·have := h.nls d q a1
  simp [setLoop]; omega
 ·exact h.below.trans ⟨rfl, rfl, rfl, by simp, fun c hc => World.putObj_heap_other (by omega)⟩
theorem leave_sound (h : At P B0 w0 G k nl s w) (hll : s.loops.length = nl + 1) {r : Nat} {lp : ALoop} {rc : Loop} {o' : Obj} (hl : s.loops[nl]? = some lp) (hr : G.loops[nl]? = some r) (hrc : w.heap[r]? = some (.loop rc)) :
  ∃ G', At P B0 w0 G' k nl { s with loops := s.loops.take nl } (w.putObj r o') ∧ GLe (k + 1) nl G G' ∧ G'.acts = G.acts := by
 obtain ⟨b1, b2, _⟩ := h.rel.loop nl lp r hl hr
 let G' : Ghost := { G with loops := G.loops.take nl, own := fun b => if b = r then none else G.own b }
 have hle : ∀ k' nl', nl' ≤ nl → GLe k' nl' G G' := fun k' nl' hn => ⟨fun _ _ _ e => e, fun d q hd e => ⟨q, e, .refl q, fun _ => rfl⟩, fun l r hlt e => by
  show (G.loops.take nl)[l]? = _
  rw [List.getElem?_take, if_pos (by omega)]
  exact e⟩
 have hko : KeepsOwn (· = .loop nl) G w G' (w.putObj r o') := fun b o e ho => by
  have hb : b ≠ r := fun hb => ho (by subst hb; rw [b2] at e; injection e with e; exact e.symm)
  exact ⟨by simp only [G']; rw [if_neg hb]; exact e, World.putObj_heap_other hb, fun _ e => e⟩
 have hlen : G.acts.length = k + 1 := by rw [h.rel.len, h.len]
 obtain ⟨gk, g1, g2⟩ := h.cur
 have hnls : ∀ (d : Nat) (q : GRec), G.acts[d]? = some q → q.nl ≤ nl := fun d q e => by
  have hd : d ≤ k := by have := (List.getElem?_eq_some_iff.1 e).1; omega
  rw [← g2]
  exact h.rel.nlm d k q gk hd e g1
 have hs : SRel P B0 w0 G' { s with loops := s.loops.take nl } (w.putObj r o') := by
  refine ⟨fun b i v e => ?_, h.rel.len, by simp [G', h.rel.llen], fun d q gq a1 a2 => ?_, fun l' q r' a1 a2 => ?_, fun d q a1 => ?_, h.rel.nlm, ?_, by rw [World.putObj_size]; exact h.rel.low, fun b o e => ?_⟩
  ·have := h.rel.imm b i v e
   by_cases hb : b = r
   ·subst hb
    simp only [World.cell?, hrc] at this
    cases this
   ·have hh : (w.putObj r o').heap[b]? = w.heap[b]? := World.putObj_heap_other hb
    rw [← this]
    simp only [World.cell?, hh]
  ·exact (h.rel.rec_ d q gq a1 a2).keep (hle d _ (hnls d gq a2)) hko (fun o ho => by subst ho; exact ⟨fun _ e => (by cases e), fun _ e => (by cases e), fun _ e => (by cases e)⟩)
  ·have a1' : (s.loops.take nl)[l']? = some q := a1
   have a2' : (G.loops.take nl)[l']? = some r' := a2
   rw [List.getElem?_take] at a1' a2'
   split at a1'
   ·rename_i hlt
    rw [if_pos hlt] at a2'
    have hq := h.rel.loop l' q r' a1' a2'
    obtain ⟨k1, k2, _⟩ := hko _ _ hq.2.1 (fun e => by injection e with e; omega)
    exact hq.keep (fun k' nl' _ hn => hle k' nl' (by omega)) (Nat.le_refl _) k1 k2
   ·cases a1'
  ·have a1' : G.acts[d]? = some q := a1
   have := hnls d q a1'
   simp; omega
  ·exact h.rel.below.trans ⟨rfl, rfl, rfl, by simp, fun c hc => World.putObj_heap_other (by omega)⟩
  ·rw [World.putObj_size]
   simp only [G'] at e
   split at e
   ·cases e
   ·exact h.rel.ownlt b o e
 exact ⟨G', ⟨hs, h.len, gk, g1, g2⟩, hle _ _ (Nat.le_refl _), rfl⟩
end
end Go.Ax

/-
  Code.
-/
namespace Go.Ax
open Go.RowKit
def exitOf : AExit → Exit
 | .normal => .normal
 | .exit id => .exit id
 | .ret => .ret
section
variable {P : Program} {B0 : Nat} {w0 : World} {G : Ghost} {k nl : Nat} {w : World} {s : Sig} {base : List Nat}
def RoundAt (rd : Option Nat) (G : Ghost) (nl : Nat) : Prop := ∀ r, rd = some r → ∃ l : Nat, l < nl ∧ G.loops[l]? = some r
def Defs (rd : Option Nat) (base : List Nat) (G : Ghost) (k : Nat) (a : Act) : Prop := rd = none → ∃ gr new, G.acts[k]? = some gr ∧ gr.marks = base ++ new ∧ a.defers = (new.map fun b => (⟨.collected b, #[]⟩ : Deferred)).reverse
def ExecPost (P : Program) (B0 : Nat) (w0 : World) (rd : Option Nat) (base : List Nat) (G : Ghost) (k nl : Nat) (a : Act) (e : AExit) (st' : St) : Exit → Act → World → Prop := fun x a' w' =>
 x = exitOf e ∧ ∃ G', At P B0 w0 G' k nl st'.sig w' ∧ GLe k nl G G' ∧ st'.sig.loops.length = nl ∧ TmpsRel G' k nl st'.tmps a' ∧ a'.tmps.size = a.tmps.size ∧ Defs rd base G' k a'
theorem RoundAt.mono {rd : Option Nat} {G' : Ghost} (h : RoundAt rd G nl) (hle : GLe k nl G G') : RoundAt rd G' nl := fun r e => by
 obtain ⟨l, h1, h2⟩ := h r e
 exact ⟨l, h1, hle.loops l r h1 h2⟩
theorem Defs.mono {rd : Option Nat} {G' : Ghost} {a a' : Act} (h : Defs rd base G k a) (hle : GLe (k + 1) nl G G') (hd : a'.defers = a.defers) : Defs rd base G' k a' := fun e => by
 obtain ⟨gr, new, h1, h2, h3⟩ := h e
 obtain ⟨gr', g1, _, g3⟩ := hle.acts k gr (by omega) h1
 exact ⟨gr', new, g1, by rw [g3 (by omega), h2], by rw [hd, h3]⟩
theorem entered {rd : Option Nat} {a : Act} (h : At P B0 w0 G k nl s w) (hll : s.loops.length = nl) (hrd : RoundAt rd G nl) (hdf : Defs rd base G k a) (ps : Array Tmp) (assign body : Code) :
  ∃ wm Gm mark, At P B0 w0 Gm k nl s wm ∧ GLe k nl G Gm ∧ Gm.loops = G.loops ∧ Defs rd base Gm k { a with defers := mark ++ a.defers } ∧ ∀ fn, ∃ rc : Loop, (Instr.enterLoop fn a.tmps ps assign body rd).run P w = .ok (wm.heap.size, mark) (wm.alloc (.loop rc)) ∧
   rc.state = .ready ∧ rc.pending = none ∧ rc.tmps = a.tmps ∧ rc.params = ps ∧ rc.assign = assign ∧ rc.body = body := by
 cases rd with
 | none =>
  obtain ⟨Gm, g1, g2, g3, gr, g4, g5⟩ := mark_sound h
  obtain ⟨gr', new, e1, e3, e2⟩ := hdf rfl
  rw [g4] at e1
  injection e1 with e1
  subst e1
  refine ⟨_, Gm, [{ target := .collected w.heap.size, args := #[] }], g1, by rw [hll] at g2; exact g2, g3, fun _ => ⟨_, new ++ [w.heap.size], g5, by simp [e3], ?_⟩, fun fn => ⟨{ state := .ready, pending := none, fn, tmps := a.tmps, params := ps, assign, body, defers := w.heap.size }, ?_, rfl, rfl, rfl, rfl, rfl, rfl⟩⟩
  ·simp [e2]
  ·have := run_enterLoop_outer (P := P) (w := w) fn a.tmps ps assign body
   rw [this]
   simp
 | some r0 =>
  obtain ⟨l, h1, h2⟩ := hrd r0 rfl
  have hlt : l < s.loops.length := by omega
  obtain ⟨_, _, rc0, h3, _⟩ := h.rel.loop l _ r0 (List.getElem?_eq_getElem hlt) h2
  refine ⟨w, G, [], h, .refl _ _ _, rfl, fun e => (by cases e), fun fn => ⟨{ state := .ready, pending := none, fn, tmps := a.tmps, params := ps, assign, body, defers := rc0.defers }, ?_, rfl, rfl, rfl, rfl, rfl, rfl⟩⟩
  have := run_getLoop (P := P) h3
  unfold Instr.enterLoop
  simp only [Sem.run_bind, this, run_newObj_alloc, Result.andThen, Sem.run_pure]
theorem rangeFunc_sound {call : CallF} (hcall : CallSound P B0 w0 call) {rd : Option Nat} {n : Nat} {f : Operand} {af : AOpd} {ps : Array Tmp} {assign body : Code} {aas ab : ACode} {st st' : St} {a : Act} {e : AExit} {lf : Nat}
  (h : At P B0 w0 G k nl st.sig w) (hll : st.sig.loops.length = nl) (hR : TmpsRel G k nl st.tmps a) (hrd : RoundAt rd G nl) (hdf : Defs rd base G k a) (cf : compOpd f = some af) {mu : Mu} (ca : comp P mu assign = some aas) (cb : comp P mu body = some ab)
  (tp : ∀ p, p ∈ ps.toList → p < a.tmps.size) (ta : tmpsOk a.tmps.size aas = true) (tb : tmpsOk a.tmps.size ab = true) (he : exec call lf (.rangeFunc af ps.toList aas ab) st = some (e, st')) :
  (Code.rangeFunc f ps assign body).wpIn (fenceOf rd) n P (ExecPost P B0 w0 rd base G k nl a e st') a w := by
 simp only [exec] at he
 split at he
 case h_2 => cases he
 rename_i g first caps hfn
 split at he
 case h_2 => cases he
 rename_i res s hc
 split at he
 case h_2 => cases he
 rename_i pe s1 hlv
 injection he with he
 injection he with he1 he2
 subst he1 he2
 rw [hll] at hc hlv
 have hfr := opd_rel cf hR
 rw [hfn] at hfr
 obtain ⟨a1, a2, hfv, l1, l2, r1, r2⟩ := hfr.inv_fn
 obtain ⟨wm, Gm, mark, m1, m2, m3, m4, m5⟩ := entered h hll hrd hdf ps assign body
 refine wpIn_rangeFunc fun fn _ => ?_
 obtain ⟨rc, q1, q2, q3, q4, q5, q6, q7⟩ := m5 fn
 obtain ⟨G1, e1, e2, e3, e4⟩ := enter_sound (lp := ⟨true, none, st.tmps, ps.toList, aas, ab⟩) (rc := rc) m1 hll ⟨q2, rfl, rfl, q3⟩ (by rw [q5]) (by rw [q6]; exact ca) (by rw [q7]; exact cb) (by rw [q4]; exact ta) (by rw [q4]; exact tb) (by rw [q4]; exact tp)
  (fun t => by rw [q4]; exact (hR t).mono m2 (Nat.le_refl _) (Nat.le_refl _))
 have hG1 : GLe k nl G G1 := m2.trans (e2.less (by omega) (Nat.le_refl _))
 have hgl : Gm.loops.length = nl := by rw [m1.rel.llen, hll]
 have hnew : G1.loops[nl]? = some wm.heap.size := by rw [e4, List.getElem?_append_right (by omega)]; simp [hgl]
 have hcs := hcall.fn G1 k (nl + 1) _ _ g (first ++ .yield nl :: caps) (a1 ++ #[.func (.yield wm.heap.size) #[] #[]] ++ a2) res s e1.rel (by simp [enterLoop, h.len]) (by simp [enterLoop, h.len]) (by simp [enterLoop, hll]) (by simp [l1, l2]; omega) (fun i hi => by
  rw [getD_append, getD_append]
  simp only [List.length_append, List.length_cons] at hi
  by_cases h1 : i < first.length
  ·rw [if_pos (by simp; omega), if_pos (by omega)]
   have e : (first ++ AV.yield nl :: caps)[i] = first[i] := List.getElem_append_left h1
   rw [e]
   exact .cl ((r1 i h1).mono hG1.I)
  ·by_cases h2 : i = first.length
   ·subst h2
    rw [if_pos (by simp; omega), if_neg (by omega)]
    have e : (first ++ AV.yield nl :: caps)[first.length] = .yield nl := by
     rw [List.getElem_append_right (Nat.le_refl _)]
     simp
    have e' : (#[Value.func (.yield wm.heap.size) #[] #[]] : Array Value).getD (first.length - a1.size) Go.undef = .func (.yield wm.heap.size) #[] #[] := by rw [l1, Nat.sub_self]; rfl
    rw [e, e']
    exact .yield (by omega) hnew
   ·rw [if_neg (by simp; omega)]
    have e : (first ++ AV.yield nl :: caps)[i] = caps[i - (first.length + 1)]'(by omega) := by
     rw [List.getElem_append_right (by omega)]
     have : i - first.length = (i - (first.length + 1)) + 1 := by omega
     simp only [this, List.getElem_cons_succ]
    have e' : (a1 ++ #[Value.func (.yield wm.heap.size) #[] #[]]).size = first.length + 1 := by simp [l1]
    rw [e, e']
    exact (r2 _ _).mono hG1 (Nat.le_refl _) (Nat.le_succ _)) hc
 obtain ⟨hbody, hcalls⟩ := hcs
 have hres : (resolve a.eval (rangeCall f wm.heap.size) 0).run P (wm.alloc (.loop rc)) = .ok { target := .fn (.func g) a2, args := a1 ++ #[.func (.yield wm.heap.size) #[] #[]] } (wm.alloc (.loop rc)) := by
  have hmap : (rangeCall f wm.heap.size).args.map a.eval = #[.func (.yield wm.heap.size) #[] #[]] := by simp [Act.eval]
  simp only [resolve, hfv, hmap, ofValue_run (P := P) rfl]
 refine ⟨_, mark, _, _, _, g, _, _, by rw [fenceOf_round]; exact q1, hres, fun f' _ => fenceOf_fn rd f', hbody.run _ _, (by rw [fenceOf_depth]; intro h; cases h), ?_⟩
 refine CallsIn.mono (fenceOf_calls rd hcalls) fun en w3 hen => ?_
 obtain ⟨z, rfl, G2, c1, c2, c3, c4, c5⟩ := hen
 have hat2 : At P B0 w0 G2 k nl s w3 := by
  have hl0 : (enterLoop st.sig ⟨true, none, st.tmps, ps.toList, aas, ab⟩).loops.length = nl + 1 := by simp [enterLoop, hll]
  exact e1.to c1 (c4.less (by omega) (by omega)) c2
 have hl2 : s.loops.length = nl + 1 := by rw [c3]; simp [enterLoop, hll]
 have hl0 : (enterLoop st.sig ⟨true, none, st.tmps, ps.toList, aas, ab⟩).loops.length = nl + 1 := by simp [enterLoop, hll]
 unfold leaveLoop at hlv
 rw [if_pos hl2] at hlv
 split at hlv
 case h_2 => cases hlv
 rename_i lp hlp
 split at hlv
 case isFalse => cases hlv
 rename_i hready
 injection hlv with hlv
 injection hlv with hv1 hv2
 subst hv1 hv2
 have hrec : G2.loops[nl]? = some wm.heap.size := c4.loops nl _ (by omega) hnew
 obtain ⟨b1, b2, rc2, b3, b4⟩ := c1.loop nl lp _ hlp hrec
 obtain ⟨o1, o2, o3, o4, _⟩ := b4
 have hbusy : rc2.state ≠ .busy := by
  rcases hready with hr | hr
  ·rw [(o1 hr).1]; simp
  ·cases hrr : lp.ready with
   | true => rw [(o1 hrr).1]; simp
   | false => rw [o2 hrr, if_pos hr]; simp
 have hend := run_endLoop (P := P) b3 hbusy
 obtain ⟨G3, d1, d2, d3⟩ := leave_sound (o' := .loop { rc2 with state := .exhausted }) hat2 hl2 hlp hrec b3
 have hG2 : GLe (k + 1) nl Gm G2 := e2.trans (c4.less (Nat.le_refl _) (by omega))
 have hG3 : GLe (k + 1) nl Gm G3 := hG2.trans d2
 have hGG : GLe k nl G G3 := m2.trans (hG3.less (by omega) (Nat.le_refl _))
 have hpost : ∀ ex, ex = exitOf (lp.pend.getD .normal) → ExecPost P B0 w0 rd base G k nl a (lp.pend.getD .normal) ⟨st.tmps, { s with loops := s.loops.take nl }⟩ ex { a with defers := mark ++ a.defers } (w3.putObj wm.heap.size (.loop { rc2 with state := .exhausted })) := fun ex hex =>
  ⟨hex, G3, d1, hGG, by simp [hl2], fun t => (hR t).mono hGG (Nat.le_refl _) (Nat.le_refl _), rfl, m4.mono hG3 rfl⟩
 generalize w3.putObj wm.heap.size (.loop { rc2 with state := .exhausted }) = w4 at hpost hend
 refine ⟨rc2.pending, w4, hend, ?_⟩
 rw [o3]
 cases hpd : lp.pend with
 | none =>
  rw [hpd] at hpost
  exact hpost _ rfl
 | some pe =>
  rw [hpd] at hpost
  cases pe with
  | normal => exact absurd hpd o4
  | exit id => exact wpIn_exit (hpost _ rfl)
  | ret => exact wpIn_ret (hpost _ rfl)
theorem least {p : Nat → Prop} (h : ∃ m, p m) : ∃ m, p m ∧ ∀ j, j < m → ¬ p j := by
 obtain ⟨m, hm⟩ := h
 induction m using Nat.strongRecOn with
 | _ m ih =>
  by_cases hj : ∃ j, j < m ∧ p j
  ·obtain ⟨j, h1, h2⟩ := hj
   exact ih j h1 h2
  ·exact ⟨m, hm, fun j h1 h2 => hj ⟨j, h1, h2⟩⟩
theorem wpIn_loop_nat {F : Fence} {n : Nat} {c : Code} {Q : Exit → Act → World → Prop} {a : Act} {w : World} (D : Nat → Act → World → Prop) {m : Nat} (h0 : D m a w)
  (hs : ∀ m a w, D m a w → c.wpIn F n P (Exit.then (fun a' w' => ∃ j, j < m ∧ D j a' w') Q) a w) : (Code.loop c).wpIn F n P Q a w := by
 classical
 refine wpIn_loop (fun a w => ∃ m, D m a w) (fun a w => if h : ∃ m, D m a w then (least h).choose else 0) ⟨m, h0⟩ fun a w hI => ?_
 have hc := (least hI).choose_spec
 refine wpIn_mono (hs _ a w hc.1) fun e a' w' hq => ?_
 cases e with
 | normal =>
  obtain ⟨j, h1, h2⟩ := hq
  refine ⟨⟨j, h2⟩, ?_⟩
  rw [dif_pos hI, dif_pos ⟨j, h2⟩]
  have hc' := (least (p := fun m => D m a' w') ⟨j, h2⟩).choose_spec
  have : ¬ j < (least (p := fun m => D m a' w') ⟨j, h2⟩).choose := fun hlt => hc'.2 j hlt h2
  omega
 | _ => exact hq
theorem ExecPost.trans {rd : Option Nat} {G1 : Ghost} {a a1 : Act} {e : AExit} {st' : St} {x : Exit} {a' : Act} {w' : World} (hle : GLe k nl G G1) (hs : a1.tmps.size = a.tmps.size) (h : ExecPost P B0 w0 rd base G1 k nl a1 e st' x a' w') :
  ExecPost P B0 w0 rd base G k nl a e st' x a' w' := by
 obtain ⟨h1, G', h2, h3, h4, h5, h6, h7⟩ := h
 exact ⟨h1, G', h2, hle.trans h3, h4, h5, h6.trans hs, h7⟩
theorem exec_sound {call : CallF} (hcall : CallSound P B0 w0 call) (hhere : HereSound P B0 w0 call) (hro : RoOk call) (hm : P.follows .mixedOrders = true) {rd : Option Nat} {n lf : Nat} {mu : Mu} : ∀ (c : Code) (ac : ACode) (G : Ghost) (st st' : St) (a : Act) (w : World) (e : AExit), comp P mu c = some ac →
  At P B0 w0 G k nl st.sig w → st.sig.loops.length = nl → TmpsRel G k nl st.tmps a → tmpsOk a.tmps.size ac = true → RoundAt rd G nl → Defs rd base G k a → exec call lf ac st = some (e, st') →
  c.wpIn (fenceOf rd) n P (ExecPost P B0 w0 rd base G k nl a e st') a w := by
 intro c
 induction c with
 | skip =>
  intro ac G st st' a w e hc h hll hR ht hrd hdf he
  simp only [comp] at hc
  injection hc with hc
  subst hc
  simp only [exec] at he
  injection he with he
  injection he with h1 h2
  subst h1 h2
  exact wpIn_skip ⟨rfl, G, h, .refl _ _ _, hll, hR, rfl, hdf⟩
 | region id l drawn =>
  intro ac G st st' a w e hc h hll hR ht hrd hdf he
  simp only [comp] at hc
  obtain ⟨⟨n0, as⟩, has, rfl⟩ := Option.map_eq_some_iff.1 hc
  have key : ∀ (G : Ghost) (st : St), At P B0 w0 G k nl st.sig w → st.sig.loops.length = nl → TmpsRel G k nl st.tmps a → tmpsOk a.tmps.size (.region drawn as) = true → Defs rd base G k a → exec call lf (.region drawn as) st = some (e, st') →
    (Code.region id l drawn).wpIn (fenceOf rd) n P (ExecPost P B0 w0 rd base G k nl a e st') a w := fun G st h hll hR ht hdf he => by
   simp only [exec] at he
   obtain ⟨st1, hs, he⟩ := Option.map_eq_some_iff.1 he
   injection he with h1 h2
   subst h1 h2
   simp only [tmpsOk] at ht
   refine region_sound hcall hhere hro hm has h hll hR (fun o ho t hd => ?_) hs fun a' w' hp => ?_
   ·have := List.all_eq_true.1 ht o ho
    rw [hd] at this
    simpa using this
   ·obtain ⟨G', g1, g2, g3, g4, g5, g6⟩ := hp
    rw [hll] at g2 g3
    exact ⟨rfl, G', g1, g2.less (by omega) (Nat.le_refl _), g3, g4, g5, hdf.mono g2 g6⟩
  cases n0 with
  | zero => exact key G st h hll hR ht hdf he
  | succ n0 =>
   obtain ⟨G1, r1, r2, r3, _⟩ := reserve_sound h (n0 + 1)
   simp only [reserved, tmpsOk, Bool.and_eq_true] at ht
   have he' : exec call lf (.region drawn as) ⟨st.tmps, st.sig.reserve (n0 + 1)⟩ = some (e, st') := by
    simpa [reserved, exec, ops, wantedT, opv, putT] using he
   rw [hll] at r2 r3
   have hle : GLe k nl G G1 := r2.less (by omega) (Nat.le_refl _)
   refine wpIn_mono (key G1 ⟨st.tmps, st.sig.reserve (n0 + 1)⟩ r1 r3 (fun t => (hR t).mono hle (Nat.le_refl _) (Nat.le_refl _)) ht.2 (hdf.mono r2 rfl) he') fun x a' w' hp => ?_
   obtain ⟨h1, G', h2, h3, h4, h5, h6, h7⟩ := hp
   exact ⟨h1, G', h2, hle.trans h3, h4, h5, h6, h7⟩
 | seq x y ihx ihy =>
  intro ac G st st' a w e hc h hll hR ht hrd hdf he
  simp only [comp] at hc
  split at hc
  case h_2 => cases hc
  rename_i ax ay e1 e2
  injection hc with hc
  subst hc
  simp only [tmpsOk, Bool.and_eq_true] at ht
  simp only [exec] at he
  split at he
  ·rename_i st1 hx
   refine wpIn_seq (wpIn_mono (ihx ax G st st1 a w .normal e1 h hll hR ht.1 hrd hdf hx) fun ex a1 w1 hp => ?_)
   obtain ⟨rfl, G1, g1, g2, g3, g4, g5, g6⟩ := hp
   exact wpIn_mono (ihy ay G1 st1 st' a1 w1 e e2 g1 g3 g4 (by rw [g5]; exact ht.2) (hrd.mono g2) g6 he) fun ex a2 w2 hq => hq.trans g2 g5
  ·rename_i hne
   refine wpIn_seq (wpIn_mono (ihx ax G st st' a w e e1 h hll hR ht.1 hrd hdf he) fun ex a1 w1 hp => ?_)
   have hx := hp.1
   subst hx
   cases e with
   | normal => exact absurd he (hne _)
   | exit id => exact hp
   | ret => exact hp
 | cond cc x y ihx ihy =>
  intro ac G st st' a w e hc h hll hR ht hrd hdf he
  simp only [comp] at hc
  split at hc
  case h_2 => cases hc
  rename_i z ax ay e0 e1 e2
  injection hc with hc
  subst hc
  simp only [tmpsOk, Bool.and_eq_true] at ht
  simp only [exec] at he
  split at he
  case h_2 => cases he
  rename_i t hz
  have hv := opd_rel e0 hR
  rw [hz] at hv
  refine wpIn_cond hv.inv_v ?_
  cases t with
  | true => exact ihx ax G st st' a w e e1 h hll hR ht.1 hrd hdf (by simpa using he)
  | false => exact ihy ay G st st' a w e e2 h hll hR ht.2 hrd hdf (by simpa using he)
 | block id x ih =>
  intro ac G st st' a w e hc h hll hR ht hrd hdf he
  simp only [comp] at hc
  obtain ⟨ax, e1, rfl⟩ := Option.map_eq_some_iff.1 hc
  simp only [tmpsOk] at ht
  simp only [exec] at he
  split at he
  ·rename_i j st1 hx
   refine wpIn_block (wpIn_mono (ih ax G st st1 a w (.exit j) e1 h hll hR ht hrd hdf hx) fun ex a1 w1 hp => ?_)
   obtain ⟨rfl, hp⟩ := hp
   simp only [exitOf, Exit.inBlock]
   split at he
   ·rename_i hj
    injection he with he
    injection he with h1 h2
    subst h1 h2
    rw [if_pos hj]
    exact ⟨rfl, hp⟩
   ·rename_i hj
    injection he with he
    injection he with h1 h2
    subst h1 h2
    rw [if_neg hj]
    exact ⟨rfl, hp⟩
  ·rename_i hne
   refine wpIn_block (wpIn_mono (ih ax G st st' a w e e1 h hll hR ht hrd hdf he) fun ex a1 w1 hp => ?_)
   have hx := hp.1
   subst hx
   cases e with
   | exit j => exact absurd he (hne _ _)
   | normal => exact hp
   | ret => exact hp
 | loop x ih =>
  intro ac G st st' a w e hc h hll hR ht hrd hdf he
  simp only [comp] at hc
  obtain ⟨ax, e1, rfl⟩ := Option.map_eq_some_iff.1 hc
  simp only [tmpsOk] at ht
  simp only [exec] at he
  refine wpIn_loop_nat (fun m a1 w1 => ∃ G1 st1, At P B0 w0 G1 k nl st1.sig w1 ∧ GLe k nl G G1 ∧ st1.sig.loops.length = nl ∧ TmpsRel G1 k nl st1.tmps a1 ∧ a1.tmps.size = a.tmps.size ∧ Defs rd base G1 k a1 ∧ loopN (exec call lf ax) m st1 = some (e, st'))
   (m := lf) ⟨G, st, h, .refl _ _ _, hll, hR, rfl, hdf, he⟩ fun m a1 w1 hD => ?_
  obtain ⟨G1, st1, g1, g2, g3, g4, g5, g6, hl⟩ := hD
  cases m with
  | zero => simp [loopN] at hl
  | succ m =>
   simp only [loopN] at hl
   split at hl
   ·rename_i st2 hx
    refine wpIn_mono (ih ax G1 st1 st2 a1 w1 .normal e1 g1 g3 g4 (by rw [g5]; exact ht) (hrd.mono g2) g6 hx) fun ex a2 w2 hp => ?_
    obtain ⟨rfl, G2, q1, q2, q3, q4, q5, q6⟩ := hp
    exact ⟨m, by omega, G2, st2, q1, g2.trans q2, q3, q4, q5.trans g5, q6, hl⟩
   ·rename_i hne
    refine wpIn_mono (ih ax G1 st1 st' a1 w1 e e1 g1 g3 g4 (by rw [g5]; exact ht) (hrd.mono g2) g6 hl) fun ex a2 w2 hp => ?_
    have hx := hp.1
    subst hx
    cases e with
    | normal => exact absurd hl (hne _)
    | exit j => exact hp.trans g2 g5
    | ret => exact hp.trans g2 g5
 | rangeFunc f ps x y ihx ihy =>
  intro ac G st st' a w e hc h hll hR ht hrd hdf he
  simp only [comp] at hc
  split at hc
  case h_2 => cases hc
  rename_i z ax ay e0 e1 e2
  injection hc with hc
  subst hc
  simp only [tmpsOk, Bool.and_eq_true] at ht
  exact rangeFunc_sound hcall h hll hR hrd hdf e0 e1 e2 (fun p hp => by simpa using List.all_eq_true.1 ht.1.1 p hp) ht.1.2 ht.2 he
 | exit id =>
  intro ac G st st' a w e hc h hll hR ht hrd hdf he
  simp only [comp] at hc
  injection hc with hc
  subst hc
  simp only [exec] at he
  injection he with he
  injection he with h1 h2
  subst h1 h2
  exact wpIn_exit ⟨rfl, G, h, .refl _ _ _, hll, hR, rfl, hdf⟩
 | ret =>
  intro ac G st st' a w e hc h hll hR ht hrd hdf he
  simp only [comp] at hc
  injection hc with hc
  subst hc
  simp only [exec] at he
  injection he with he
  injection he with h1 h2
  subst h1 h2
  exact wpIn_ret ⟨rfl, G, h, .refl _ _ _, hll, hR, rfl, hdf⟩
 | _ =>
  intro ac G st st' a w e hc
  simp [comp] at hc
end
end Go.Ax

/-
  What an execution may not write to.
-/
namespace Go.Ax
open Go.RowKit
theorem Fr.refl (s : Sig) : Fr s s := ⟨rfl, rfl, rfl, rfl, fun _ _ => rfl, fun _ _ => rfl⟩
theorem Fr.trans {a b c : Sig} (h : Fr a b) (k : Fr b c) : Fr a c :=
 ⟨k.alen.trans h.alen, k.llen.trans h.llen, k.ro.trans h.ro, k.lro.trans h.lro, fun d hd => (k.acts d (by rw [h.ro]; exact hd)).trans (h.acts d hd), fun l hl => (k.loops l (by rw [h.lro]; exact hl)).trans (h.loops l hl)⟩
theorem Fr.onRec (s : Sig) {d : Nat} (hd : s.ro ≤ d) (f : Rec → Rec) : Fr s (s.onRec d f) :=
 ⟨by simp [Sig.onRec], rfl, rfl, rfl, fun d' h => by simp only [Sig.onRec, modify_get]; rw [if_neg (by omega)], fun _ _ => rfl⟩
theorem Fr.fit {m m' : Sig} {d : Nat} {x y : AV} (hd : m.ro ≤ d) (hc : m.ro ≤ m.cur) (h : m.fit d x = some (y, m')) : Fr m m' := by
 unfold Sig.fit at h
 split at h
 ·split at h
  ·injection h with h; injection h with _ h; subst h; exact .refl _
  ·split at h
   ·rename_i d' g es xs _ hcond
    injection h with h
    injection h with _ h
    subst h
    have h1 : Fr m (m.setTok d' g none) := Fr.onRec m (by rw [hcond.1]; exact hc) _
    exact h1.trans (Fr.onRec _ (by rw [h1.ro]; exact hd) _)
   ·injection h with h; injection h with _ h; subst h; exact .refl _
 ·split at h
  ·injection h with h; injection h with _ h; subst h; exact .refl _
  ·cases h
 ·split at h
  ·injection h with h; injection h with _ h; subst h; exact .refl _
  ·cases h
 ·obtain ⟨z, _, h⟩ := Option.map_eq_some_iff.1 h
  injection h with _ h
  subst h
  exact .refl _
theorem Fr.cur {m m' : Sig} (h : Fr m m') : m'.cur = m.cur := by simp [Sig.cur, h.alen]
theorem Fr.fitAll {d : Nat} : ∀ {xs ys : List AV} {m m' : Sig}, m.ro ≤ d → m.ro ≤ m.cur → m.fitAll d xs = some (ys, m') → Fr m m'
 | [], ys, m, m', _, _, h => by
  simp only [Sig.fitAll] at h
  injection h with h
  injection h with _ h
  subst h
  exact .refl _
 | x :: r, ys, m, m', hd, hc, h => by
  simp only [Sig.fitAll] at h
  split at h
  ·cases h
  ·rename_i y m1 h1
   have f1 := Fr.fit hd hc h1
   split at h
   ·cases h
   ·rename_i s m2 h2
    injection h with h
    injection h with _ h
    subst h
    exact f1.trans (Fr.fitAll (by rw [f1.ro]; exact hd) (by rw [f1.ro, f1.cur]; exact hc) h2)
theorem Fr.store {m m' : Sig} {n : Nat} {x y : AV} (hc : m.ro ≤ m.cur) (h : m.store n x y = some m') : Fr m m' := by
 unfold Sig.store at h
 split at h
 ·split at h
  ·rename_i hcond
   split at h
   ·cases h
   ·rename_i cs m1 h1
    have f1 : Fr m m1 := by
     split at h1
     ·injection h1 with h1; injection h1 with _ h1; subst h1; exact .refl _
     ·exact Fr.fitAll hcond.1 hc h1
    split at h
    ·cases h
    ·split at h
     ·injection h with h
      subst h
      exact f1.trans (Fr.onRec _ (by rw [f1.ro]; exact hcond.1) _)
     ·cases h
  ·cases h
 ·cases h
theorem Fr.newBox {m : Sig} (hc : m.ro ≤ m.cur) (cs : List AV) : Fr m (m.newBox cs).2 := Fr.onRec m hc _
theorem Fr.append {m m' : Sig} {es : Nat} {x y v : AV} (hc : m.ro ≤ m.cur) (h : appendOp m es x y = some (v, m')) : Fr m m' := by
 unfold appendOp at h
 split at h
 ·split at h
  ·injection h with h; injection h with _ h; subst h; exact .refl _
  ·split at h
   ·split at h
    ·injection h with h; injection h with _ h; subst h; exact Fr.onRec m hc _
    ·injection h with h; injection h with _ h; subst h; exact Fr.onRec m hc _
    ·split at h
     ·rename_i hcond
      injection h with h; injection h with _ h; subst h; exact Fr.onRec m hcond.1 _
     ·cases h
    ·cases h
   ·cases h
 ·cases h
theorem Fr.appendm {m m' : Sig} {es : Nat} {x y v : AV} (hc : m.ro ≤ m.cur) (h : appendmOp m es x y = some (v, m')) : Fr m m' := by
 unfold appendmOp at h
 split at h
 ·split at h
  ·split at h
   ·injection h with h; injection h with _ h; subst h; exact .refl _
   ·injection h with h; injection h with _ h; subst h; exact .refl _
   ·cases h
  ·split at h
   ·split at h
    ·split at h
     ·injection h with h; injection h with _ h; subst h; exact Fr.newBox hc _
     ·cases h
    ·split at h
     ·split at h
      ·split at h
       ·injection h with h; injection h with _ h; subst h; exact Fr.onRec m hc _
       ·cases h
      ·cases h
     ·cases h
    ·cases h
   ·cases h
 ·cases h
theorem Fr.appendf {m m' : Sig} {es : Nat} {x y v : AV} (hc : m.ro ≤ m.cur) (h : appendfOp m es x y = some (v, m')) : Fr m m' := by
 unfold appendfOp at h
 split at h
 ·split at h
  ·cases h
  ·split at h
   ·injection h with h; injection h with _ h; subst h; exact Fr.newBox hc _
   ·exact Fr.appendm hc h
 ·cases h
theorem Fr.copy {m m' : Sig} {x y v : AV} (hc : m.ro ≤ m.cur) (h : copyOp m x y = some (v, m')) : Fr m m' := by
 unfold copyOp at h
 split at h
 ·obtain ⟨_, _, h⟩ := Option.map_eq_some_iff.1 h
  injection h with _ h
  subst h
  exact .refl _
 ·split at h
  ·obtain ⟨_, _, h⟩ := Option.bind_eq_some_iff.1 h
   split at h
   ·injection h with h; injection h with _ h; subst h; exact .refl _
   ·obtain ⟨_, hs, h⟩ := Option.map_eq_some_iff.1 h
    injection h with _ h
    subst h
    exact Fr.store hc hs
  ·cases h
 ·cases h
theorem Fr.freeze {m m' : Sig} {x v : AV} (hc : m.ro ≤ m.cur) (h : freezeOp m x = some (v, m')) : Fr m m' := by
 unfold freezeOp at h
 split at h
 ·split at h
  ·obtain ⟨_, _, h⟩ := Option.bind_eq_some_iff.1 h
   split at h
   ·cases h
   ·split at h
    ·obtain ⟨_, _, h⟩ := Option.map_eq_some_iff.1 h
     injection h with _ h
     subst h
     exact Fr.onRec m hc _
    ·cases h
  ·cases h
 ·injection h with h; injection h with _ h; subst h; exact .refl _
 ·cases h
theorem Fr.buildFz {m m' : Sig} {es : Nat} {row : List AV} {x v : AV} (hc : m.ro ≤ m.cur) (h : buildFzOp m es row x = some (v, m')) : Fr m m' := by
 unfold buildFzOp at h
 obtain ⟨p, h1, h⟩ := Option.bind_eq_some_iff.1 h
 obtain ⟨_, _, h⟩ := Option.map_eq_some_iff.1 h
 injection h with _ h
 subst h
 exact Fr.freeze hc h1
theorem Fr.appendh {m m' : Sig} {es : Nat} {x y h0 v : AV} (h : appendhOp m es x y h0 = some (v, m')) : Fr m m' := by
 unfold appendhOp at h
 split at h
 ·obtain ⟨p, _, h⟩ := Option.bind_eq_some_iff.1 h
  split at h
  ·split at h
   ·injection h with h; injection h with _ h; subst h; exact .refl _
   ·injection h with h; injection h with _ h; subst h; exact .refl _
   ·cases h
  ·split at h
   ·rename_i hcond
    split at h
    ·split at h
     ·injection h with h; injection h with _ h; subst h; exact Fr.onRec m hcond.1 _
     ·cases h
    ·split at h
     ·split at h
      ·split at h
       ·injection h with h; injection h with _ h; subst h; exact Fr.onRec m hcond.1 _
       ·cases h
      ·cases h
     ·cases h
    ·cases h
   ·cases h
 ·cases h
theorem Fr.rowBox {m m' : Sig} {es : Nat} {y v : AV} (hc : m.ro ≤ m.cur) (h : rowBoxOp m es y = some (v, m')) : Fr m m' := by
 unfold rowBoxOp at h
 split at h
 ·injection h with h; injection h with _ h; subst h; exact Fr.newBox hc _
 ·cases h
theorem Fr.clear {m m' : Sig} {zs : List AV} {y v : AV} (hc : m.ro ≤ m.cur) (h : clearOp m zs y = some (v, m')) : Fr m m' := by
 unfold clearOp at h
 split at h
 ·split at h
  ·injection h with h; injection h with _ h; subst h; exact .refl _
  ·cases h
 ·split at h
  ·injection h with h; injection h with _ h; subst h; exact .refl _
  ·split at h
   ·obtain ⟨_, hs, h⟩ := Option.map_eq_some_iff.1 h
    injection h with _ h
    subst h
    exact Fr.store hc hs
   ·cases h
 ·cases h
theorem Fr.appendi {m m' : Sig} {es : Nat} {x y v : AV} (hc : m.ro ≤ m.cur) (h : appendiOp m es x y = some (v, m')) : Fr m m' := by
 unfold appendiOp at h
 split at h
 case h_3 => cases h
 case h_2 =>
  obtain ⟨p, _, h⟩ := Option.bind_eq_some_iff.1 h
  split at h
  ·injection h with h; injection h with _ h; subst h; exact .refl _
  ·split at h
   ·injection h with h; injection h with _ h; subst h; exact Fr.onRec m hc _
   ·cases h
 obtain ⟨p, _, h⟩ := Option.bind_eq_some_iff.1 h
 split at h
 ·injection h with h; injection h with _ h; subst h; exact .refl _
 ·split at h
  ·obtain ⟨_, hs, h⟩ := Option.map_eq_some_iff.1 h
   injection h with _ h
   subst h
   exact Fr.store hc hs
  ·cases h
theorem Fr.appendz {m m' : Sig} {es : Nat} {zs : List AV} {x y v : AV} (hc : m.ro ≤ m.cur) (h : appendzOp m es zs x y = some (v, m')) : Fr m m' := by
 unfold appendzOp at h
 split at h
 case h_2 => cases h
 obtain ⟨p, _, h⟩ := Option.bind_eq_some_iff.1 h
 split at h
 ·cases h
 ·injection h with h; injection h with _ h; subst h; exact Fr.onRec m hc _
theorem Fr.mapAdd {m m' : Sig} {x k y : AV} (h : mapAddOp m x k y = some m') : Fr m m' := by
 unfold mapAddOp at h
 split at h
 case h_2 => cases h
 split at h
 case isFalse => cases h
 rename_i hcond
 obtain ⟨ks, _, h⟩ := Option.map_eq_some_iff.1 h
 split at h
 ·subst h; exact .refl _
 ·subst h; exact Fr.onRec m hcond.1 _
theorem Fr.doCall {call : CallF} (hro : RoOk call) {ro : Bool} {m m' : Sig} {t : Target} {args : List AV} {v : AV} (h1 : m.ro ≤ m.acts.length) (h2 : m.lro ≤ m.loops.length) (h : doCall call ro m t args = some (v, m')) : Fr m m' := by
 unfold Ax.doCall at h
 split at h
 ·obtain ⟨p, _, h⟩ := Option.map_eq_some_iff.1 h
  injection h with _ h
  subst h
  exact .refl _
 ·exact hro _ _ _ _ _ h1 h2 h
theorem Fr.opv {call : CallF} (hro : RoOk call) {ρ : AOpd → AV} {m m' : Sig} {op : AOp} {v : AV} (h0 : 0 < m.acts.length) (hc : m.ro ≤ m.cur) (h2 : m.lro ≤ m.loops.length) (h : opv call ρ m op = some (v, m')) : Fr m m' := by
 have h1 : m.ro ≤ m.acts.length := by unfold Sig.cur at hc; omega
 have mp : ∀ {o : Option AV}, o.map (·, m) = some (v, m') → Fr m m' := fun e => by
  obtain ⟨_, q⟩ := map_pair e
  simp only at q
  subst q
  exact .refl _
 cases op <;> simp only [Ax.opv] at h <;> first
  | exact mp h
  | (injection h with h; injection h with _ h; subst h; first | exact .refl _ | exact Fr.newBox hc _; done)
  | exact Fr.doCall hro h1 h2 h
  | exact Fr.append hc h
  | exact Fr.appendm hc h
  | exact Fr.appendf hc h
  | exact Fr.copy hc h
  | exact Fr.buildFz hc h
  | exact Fr.appendh h
  | exact Fr.appendi hc h
  | exact Fr.appendz hc h
  | exact Fr.rowBox hc h
  | exact Fr.clear hc h
  | skip
 case storeq n x y ws =>
  obtain ⟨_, hm, h⟩ := Option.map_eq_some_iff.1 h
  injection h with _ h
  subst h
  unfold storeqOp at hm
  split at hm
  ·exact Fr.store hc hm
  ·cases hm
 case mapAdd x k y =>
  obtain ⟨_, hm, h⟩ := Option.map_eq_some_iff.1 h
  injection h with _ h
  subst h
  exact Fr.mapAdd hm
 case box n x =>
  unfold boxOp at h
  split at h
  ·injection h with h
   have := Fr.newBox hc (ρ x).cells
   rw [h] at this
   exact this
  ·cases h
 case build => obtain ⟨_, _, h⟩ := Option.map_eq_some_iff.1 h; injection h with _ h; subst h; exact .refl _
 case buildSlice => obtain ⟨_, _, h⟩ := Option.map_eq_some_iff.1 h; injection h with _ h; subst h; exact .refl _
 case store =>
  obtain ⟨_, hs, h⟩ := Option.map_eq_some_iff.1 h
  injection h with _ h
  subst h
  exact Fr.store hc hs
 case eqv => obtain ⟨_, _, h⟩ := Option.map_eq_some_iff.1 h; injection h with _ h; subst h; exact .refl _
 case mkFn =>
  split at h
  ·injection h with h; injection h with _ h; subst h; exact .refl _
  ·cases h
 case mkSlicem =>
  unfold mkSlicemOp at h
  obtain ⟨_, _, h⟩ := Option.bind_eq_some_iff.1 h
  obtain ⟨_, _, h⟩ := Option.bind_eq_some_iff.1 h
  split at h
  ·cases h
  ·injection h with h; injection h with _ h; subst h; exact Fr.newBox hc _
 case mkSlice =>
  unfold mkSliceOp at h
  obtain ⟨_, _, h⟩ := Option.bind_eq_some_iff.1 h
  obtain ⟨_, _, h⟩ := Option.map_eq_some_iff.1 h
  split at h
  ·injection h with _ h
   subst h
   exact .refl _
  ·injection h with _ h
   subst h
   exact Fr.newBox hc _
 case alloc zs =>
  split at h
  ·cases h
  ·injection h with h
   have := Fr.newBox hc zs
   rw [h] at this
   exact this
 case reserve n =>
  injection h with h
  injection h with _ h
  subst h
  exact Fr.onRec m hc _
 case fill =>
  obtain ⟨_, hs, h⟩ := Option.map_eq_some_iff.1 h
  injection h with _ h
  subst h
  unfold fillOp at hs
  split at hs
  ·split at hs
   ·exact Fr.store hc hs
   ·cases hs
  ·cases hs
 case slot back zs =>
  obtain ⟨_, _, _, rfl⟩ := slotOp_spec h
  exact Fr.onRec m hc _
 case fcall => exact Fr.doCall hro h1 h2 (fcall_call h)
 case callo =>
  unfold calloOp at h
  split at h
  ·split at h
   ·rename_i hcond
    injection h with h
    injection h with _ h
    subst h
    exact Fr.onRec m hc _
   ·injection h with h
    injection h with _ h
    subst h
    exact .refl _
  ·cases h
  ·exact mp h
  ·cases h
 case callb =>
  unfold callbOp at h
  split at h
  ·split at h
   ·obtain ⟨_, _, h⟩ := Option.bind_eq_some_iff.1 h
    split at h
    ·obtain ⟨_, _, h⟩ := Option.map_eq_some_iff.1 h
     injection h with _ h
     subst h
     exact Fr.newBox hc _
    ·cases h
   ·exact mp h
  ·cases h
  ·exact mp h
  ·cases h
 case calliq =>
  have := callq_call h
  exact Fr.doCall hro h1 h2 this
 case callq =>
  have := callq_call h
  exact Fr.doCall hro h1 h2 this
 case callv =>
  unfold callvOp at h
  split at h
  ·exact Fr.doCall hro h1 h2 h
  ·exact Fr.doCall hro h1 h2 h
  ·cases h
structure Open (s : Sig) : Prop where
 pos : 0 < s.acts.length
 cur : s.ro ≤ s.cur
 loops : s.lro ≤ s.loops.length
theorem Open.fr {s s' : Sig} (h : Open s) (f : Fr s s') : Open s' := ⟨by rw [f.alen]; exact h.pos, by rw [f.ro, f.cur]; exact h.cur, by rw [f.lro, f.llen]; exact h.loops⟩
theorem Fr.ops {call : CallF} (hro : RoOk call) : ∀ {l : List AOper} {st st' : St}, Open st.sig → ops call l st = some st' → Fr st.sig st'.sig
 | [], st, st', _, h => by
  simp only [Ax.ops] at h
  injection h with h
  subst h
  exact .refl _
 | o :: r, st, st', hop, h => by
  rw [ops_cons] at h
  obtain ⟨st1, h1, h2⟩ := Option.bind_eq_some_iff.1 h
  have f1 : Fr st.sig st1.sig := by
   unfold stepA at h1
   split at h1
   ·split at h1
    ·rename_i hv
     injection h1 with h1
     subst h1
     exact Fr.opv hro hop.pos hop.cur hop.loops hv
    ·cases h1
   ·injection h1 with h1
    subst h1
    exact .refl _
  exact f1.trans (Fr.ops hro (hop.fr f1) h2)
theorem Fr.loopN {f : St → Option (AExit × St)} (hf : ∀ st e st', Open st.sig → f st = some (e, st') → Fr st.sig st'.sig) : ∀ {m : Nat} {st : St} {e : AExit} {st' : St}, Open st.sig → loopN f m st = some (e, st') → Fr st.sig st'.sig
 | 0, _, _, _, _, h => by simp [Ax.loopN] at h
 | m + 1, st, e, st', hop, h => by
  simp only [Ax.loopN] at h
  split at h
  ·rename_i st1 h1
   have f1 := hf _ _ _ hop h1
   exact f1.trans (Fr.loopN hf (hop.fr f1) h)
  ·exact hf _ _ _ hop h
theorem Fr.exec {call : CallF} (hro : RoOk call) {lf : Nat} : ∀ {c : ACode} {st : St} {e : AExit} {st' : St}, Open st.sig → exec call lf c st = some (e, st') → Fr st.sig st'.sig := by
 intro c
 induction c with
 | skip => intro st e st' _ h; simp only [Ax.exec] at h; injection h with h; injection h with _ h; subst h; exact .refl _
 | exit => intro st e st' _ h; simp only [Ax.exec] at h; injection h with h; injection h with _ h; subst h; exact .refl _
 | ret => intro st e st' _ h; simp only [Ax.exec] at h; injection h with h; injection h with _ h; subst h; exact .refl _
 | region d l =>
  intro st e st' hop h
  simp only [Ax.exec] at h
  obtain ⟨st1, h1, h⟩ := Option.map_eq_some_iff.1 h
  injection h with _ h
  subst h
  exact Fr.ops hro hop h1
 | seq a b iha ihb =>
  intro st e st' hop h
  simp only [Ax.exec] at h
  split at h
  ·rename_i st1 h1
   have f1 := iha hop h1
   exact f1.trans (ihb (hop.fr f1) h)
  ·exact iha hop h
 | cond c a b iha ihb =>
  intro st e st' hop h
  simp only [Ax.exec] at h
  split at h
  ·split at h
   ·exact iha hop h
   ·exact ihb hop h
  ·cases h
 | block id a ih =>
  intro st e st' hop h
  simp only [Ax.exec] at h
  split at h
  ·rename_i j st1 h1
   have f1 := ih hop h1
   split at h
   ·injection h with h; injection h with _ h; subst h; exact f1
   ·injection h with h; injection h with _ h; subst h; exact f1
  ·exact ih hop h
 | loop a ih =>
  intro st e st' hop h
  simp only [Ax.exec] at h
  exact Fr.loopN (fun st e st' h1 h2 => ih h1 h2) hop h
 | rangeFunc f ps a b _ _ =>
  intro st e st' hop h
  simp only [Ax.exec] at h
  split at h
  case h_2 => cases h
  split at h
  case h_2 => cases h
  rename_i res s hc
  split at h
  case h_2 => cases h
  rename_i pe s1 hlv
  injection h with h
  injection h with _ h
  subst h
  have f1 := hro _ _ _ _ _ (by have := hop.cur; unfold Sig.cur at this; have := hop.pos; simp [enterLoop]; omega) (by have := hop.loops; simp [enterLoop]; omega) hc
  unfold leaveLoop at hlv
  split at hlv
  ·rename_i hlen
   split at hlv
   ·split at hlv
    ·injection hlv with hlv
     injection hlv with _ hlv
     subst hlv
     refine ⟨f1.alen, by simp [hlen], f1.ro, f1.lro, fun d hd => f1.acts d hd, fun l hl => ?_⟩
     have := f1.loops l hl
     have hl2 : l < st.sig.loops.length := by have := hop.loops; omega
     simp only [enterLoop] at this
     rw [List.getElem?_append_left hl2] at this
     show (s.loops.take st.sig.loops.length)[l]? = _
     rw [List.getElem?_take, if_pos hl2]
     exact this
    ·cases hlv
   ·cases hlv
  ·cases hlv
theorem Fr.finish {rs : List ARes} {own : Bool} {s0 : Sig} {r0 : Rec} {st : St} {x : AV} {s' : Sig} (h0 : s0.ro ≤ s0.acts.length) (f : Fr (s0.push r0) st.sig) (h : finish rs own st = some (x, s')) : Fr s0 s' := by
 have hlen : st.sig.acts.length = s0.acts.length + 1 := by rw [f.alen]; simp [Sig.push]
 have hp : Fr s0 st.sig.pop := by
  refine ⟨by simp [Sig.pop, hlen], f.llen, f.ro, f.lro, fun d hd => ?_, f.loops⟩
  have hd' : d < s0.acts.length := by omega
  simp only [Sig.pop, dropLast_get hlen]
  rw [if_pos hd', f.acts d hd]
  simp only [Sig.push]
  exact List.getElem?_append_left hd'
 unfold Ax.finish at h
 split at h
 ·split at h
  ·obtain ⟨x0, _, h⟩ := Option.bind_eq_some_iff.1 h
   unfold ownResult at h
   split at h
   ·split at h
    ·rename_i hcond
     injection h with h
     injection h with _ h
     subst h
     refine hp.trans (Fr.onRec _ ?_ _)
     rw [hp.ro]
     have := hcond.2.2.1
     rw [f.ro] at this
     simp only [Sig.push] at this
     omega
    ·injection h with h; injection h with _ h; subst h; exact hp
   ·split at h
    ·rename_i hcond
     obtain ⟨cs, _, h⟩ := Option.bind_eq_some_iff.1 h
     split at h
     case isFalse => cases h
     obtain ⟨y, _, h⟩ := Option.map_eq_some_iff.1 h
     injection h with _ h
     subst h
     refine hp.trans (Fr.onRec _ ?_ _)
     rw [hp.ro]
     have := hcond.2.2.1
     rw [f.ro] at this
     simp only [Sig.push] at this
     omega
    ·obtain ⟨y, _, h⟩ := Option.map_eq_some_iff.1 h
     injection h with _ h
     subst h
     exact hp
   ·obtain ⟨y, _, h⟩ := Option.map_eq_some_iff.1 h
    injection h with _ h
    subst h
    exact hp
  ·cases h
 ·obtain ⟨l, _, h⟩ := Option.map_eq_some_iff.1 h
  injection h with _ h
  subst h
  exact hp
theorem Open.push {s : Sig} (h1 : s.ro ≤ s.acts.length) (h2 : s.lro ≤ s.loops.length) (r : Rec) : Open (s.push r) :=
 ⟨by simp [Sig.push], by simp [Sig.push, Sig.cur]; exact h1, h2⟩
theorem Fr.setLoop (s : Sig) {l : Nat} (hl : s.lro ≤ l) (f : ALoop → ALoop) : Fr s (setLoop s l f) :=
 ⟨rfl, by simp [Ax.setLoop], rfl, rfl, fun _ _ => rfl, fun l' h => by simp only [Ax.setLoop, modify_get]; rw [if_neg (by omega)]⟩
theorem Fr.popped {s0 s : Sig} {r0 : Rec} (h0 : s0.ro ≤ s0.acts.length) (f : Fr (s0.push r0) s) : Fr s0 s.pop := by
 have hlen : s.acts.length = s0.acts.length + 1 := by rw [f.alen]; simp [Sig.push]
 refine ⟨by simp [Sig.pop, hlen], f.llen, f.ro, f.lro, fun d hd => ?_, f.loops⟩
 have hd' : d < s0.acts.length := by omega
 simp only [Sig.pop, dropLast_get hlen]
 rw [if_pos hd', f.acts d hd]
 simp only [Sig.push]
 exact List.getElem?_append_left hd'
theorem RoOk.step {AP : FuncId → Option AFn} {call : CallF} (hro : RoOk call) (lf : Nat) : RoOk (callStep AP call lf) := by
 intro t args s x s' h1 h2 h
 unfold callStep at h
 cases t with
 | fn f =>
  simp only at h
  split at h
  ·split at h
   ·split at h
    ·rename_i st he
     exact Fr.finish h1 (Fr.exec hro (Open.push h1 h2 _) he) h
    ·rename_i st he
     exact Fr.finish h1 (Fr.exec hro (Open.push h1 h2 _) he) h
    ·cases h
   ·cases h
  ·obtain ⟨as, _, h⟩ := Option.bind_eq_some_iff.1 h
   obtain ⟨z, _, h⟩ := Option.map_eq_some_iff.1 h
   injection h with _ h
   subst h
   exact .refl _
  ·cases h
 | inl f =>
  simp only at h
  split at h
  ·split at h
   ·rename_i hcond
    have ho : Open s := ⟨by omega, by have := hcond.2; unfold Sig.cur; omega, h2⟩
    split at h
    ·rename_i st he
     obtain ⟨l, _, h⟩ := Option.map_eq_some_iff.1 h
     injection h with _ h
     subst h
     exact Fr.exec hro ho he
    ·rename_i st he
     obtain ⟨l, _, h⟩ := Option.map_eq_some_iff.1 h
     injection h with _ h
     subst h
     exact Fr.exec hro ho he
    ·cases h
   ·cases h
  ·cases h
 | nat f =>
  simp only at h
  split at h
  ·obtain ⟨as, _, h⟩ := Option.bind_eq_some_iff.1 h
   obtain ⟨z, _, h⟩ := Option.map_eq_some_iff.1 h
   injection h with _ h
   subst h
   exact .refl _
  ·cases h
 | yield l =>
  simp only at h
  split at h
  case h_2 => cases h
  split at h
  case isFalse => cases h
  rename_i hcond
  split at h
  case h_2 => cases h
  rename_i st he
  have f1 := Fr.exec hro (Open.push h1 h2 _) he
  have hl : st.sig.lro ≤ l := by rw [f1.lro]; exact hcond.2.1
  have f2 := f1.trans (Fr.setLoop st.sig hl fun p => { p with ready := false })
  have op2 := (Open.push h1 h2 ⟨[], []⟩).fr f2
  split at h
  case isFalse => cases h
  split at h
  ·rename_i st' hb
   injection h with h
   injection h with _ h
   subst h
   have f3 := f2.trans (Fr.exec hro op2 hb)
   exact Fr.popped h1 (f3.trans (Fr.setLoop _ (by rw [f3.lro]; exact hcond.2.1) _))
  ·rename_i e st' _ hb
   injection h with h
   injection h with _ h
   subst h
   have f3 := f2.trans (Fr.exec hro op2 hb)
   exact Fr.popped h1 (f3.trans (Fr.setLoop _ (by rw [f3.lro]; exact hcond.2.1) _))
  ·cases h
end Go.Ax
