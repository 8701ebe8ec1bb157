/-
  A region whose order is drawn: every order gives the same.
-/
import Derived.Test.YtdnpjnhpcmpikaaGreatDoorT4
namespace Go.Ax
open Go.RowKit
section
variable {P : Program} {B0 : Nat} {w0 : World} {G : Ghost} {k nl : Nat} {w : World} {s : Sig}
noncomputable def coreA (call : CallF) (o : AOper) (ρ : Nat → AV) (m : Sig) : Option (AV × Sig) :=
 if wantedT ρ o.guard then opv call (evalT ρ) m o.op else some (AV.undef, m)
theorem stepA_core (call : CallF) (o : AOper) (st : St) : stepA call o st = (coreA call o st.tmps st.sig).map fun p => ⟨putT st.tmps o.dst p.1, p.2⟩ := by
 unfold stepA coreA
 split
 ·split
  ·rename_i h; simp [h]
  ·rename_i h; simp [h]
 ·rfl
theorem coreA_agree {call : CallF} {o : AOper} {ρ ρ' : Nat → AV} (h : agreeOn (readsOf o) ρ ρ') (m : Sig) : coreA call o ρ m = coreA call o ρ' m := by
 have h1 : agreeOn (readsOp o.op) ρ ρ' := agree_left h
 have h2 : wantedT ρ o.guard = wantedT ρ' o.guard := by
  have h2 := agree_right h
  cases hg : o.guard with
  | none => rfl
  | some p =>
   obtain ⟨t, b⟩ := p
   rw [hg] at h2
   simp only [wantedT]
   rw [h2 t (by simp)]
 simp only [coreA, h2, opv_agree h1]
def mayPass (a b : OpClass) : Bool :=
 match a, b with
 | .pure, _ | _, .pure | .load, .load | .load, .soft | .soft, .load | .load, .fresh | .loadr _, .loadr _ | .slot _, .slot _ => true
 | .loadr r, .slot b | .slot b, .loadr r | .loadr r, .fill b | .fill b, .loadr r => decide (b ≤ r)
 | _, _ => false
theorem core_pure {call : CallF} {o : AOper} (h : classOf o.op = .pure) (ρ : Nat → AV) : ∃ r : Option AV, ∀ m, coreA call o ρ m = r.map (·, m) := by
 obtain ⟨f, hf⟩ := opv_pure (call := call) h
 by_cases hw : wantedT ρ o.guard = true
 ·exact ⟨f (evalT ρ), fun m => by simp only [coreA, if_pos hw, hf]⟩
 ·exact ⟨some AV.undef, fun m => by simp only [coreA, if_neg hw]; rfl⟩
theorem core_load {call : CallF} {o : AOper} (h : classOf o.op = .load) (ρ : Nat → AV) {m m' : Sig} (hs : SameBoxes m m') : ∃ r : Option AV, coreA call o ρ m = r.map (·, m) ∧ coreA call o ρ m' = r.map (·, m') := by
 by_cases hw : wantedT ρ o.guard = true
 ·obtain ⟨r, h1, h2⟩ := opv_load (call := call) h (ρ := evalT ρ) hs
  exact ⟨r, by simp only [coreA, if_pos hw, h1], by simp only [coreA, if_pos hw, h2]⟩
 ·exact ⟨some AV.undef, by simp only [coreA, if_neg hw]; rfl, by simp only [coreA, if_neg hw]; rfl⟩
theorem core_soft {call : CallF} {o : AOper} (h : classOf o.op = .soft) {ρ : Nat → AV} {m m' : Sig} {x : AV} (ho : coreA call o ρ m = some (x, m')) : SameBoxes m m' := by
 unfold coreA at ho
 split at ho
 ·exact opv_soft h ho
 ·injection ho with ho
  injection ho with _ ho
  subst ho
  exact fun _ _ => rfl
theorem core_fresh {call : CallF} {o : AOper} (h : classOf o.op = .fresh) {ρ : Nat → AV} {m m' : Sig} {x : AV} (ho : coreA call o ρ m = some (x, m')) : Grows m m' := by
 unfold coreA at ho
 split at ho
 ·exact opv_fresh h ho
 ·injection ho with ho
  injection ho with _ ho
  subst ho
  exact fun _ _ cs e => ⟨cs, e, .inl rfl⟩
theorem core_slot {call : CallF} {o : AOper} {back : Nat} (h : classOf o.op = .slot back) (ρ : Nat → AV) : (∃ zs, ∀ m, coreA call o ρ m = slotOp m back zs) ∨ ∀ m, coreA call o ρ m = some (AV.undef, m) := by
 obtain ⟨zs, hb⟩ := opv_slot (call := call) h
 by_cases hw : wantedT ρ o.guard = true
 ·exact .inl ⟨zs, fun m => by simp only [coreA, if_pos hw, hb]⟩
 ·exact .inr fun m => by simp [coreA, if_neg hw]
theorem core_slots {call : CallF} {x y : AOper} {b1 b2 : Nat} (hx : classOf x.op = .slot b1) (hy : classOf y.op = .slot b2) {ρ : Nat → AV} {m m1 m2 : Sig} {u v : AV} (h1 : coreA call x ρ m = some (v, m1)) (h2 : coreA call y ρ m1 = some (u, m2)) :
  ∃ m1', coreA call y ρ m = some (u, m1') ∧ coreA call x ρ m1' = some (v, m2) := by
 rcases core_slot (call := call) hx ρ with ⟨z1, e1⟩ | e1
 ·rcases core_slot (call := call) hy ρ with ⟨z2, e2⟩ | e2
  ·rw [e1] at h1
   rw [e2] at h2
   obtain ⟨m1', c1, c2⟩ := slot_swap h1 h2
   exact ⟨m1', (e2 m).trans c1, (e1 m1').trans c2⟩
  ·rw [e2] at h2
   injection h2 with h2
   injection h2 with h3 h4
   subst h3 h4
   exact ⟨m, e2 m, h1⟩
 ·rw [e1] at h1
  injection h1 with h1
  injection h1 with h3 h4
  subst h3 h4
  exact ⟨m2, h2, e1 m2⟩
def Writes (back : Nat) (m m' : Sig) : Prop := m' = m ∨ ∃ cs, m' = m.setBox m.cur (m.nbox m.cur - back) cs
theorem core_slot_w {call : CallF} {o : AOper} {back : Nat} (h : classOf o.op = .slot back) {ρ : Nat → AV} {m m' : Sig} {x : AV} (ho : coreA call o ρ m = some (x, m')) : Writes back m m' := by
 rcases core_slot (call := call) h ρ with ⟨zs, e⟩ | e
 ·rw [e] at ho
  exact .inr ⟨_, (slotOp_spec ho).2.2.2⟩
 ·rw [e] at ho
  injection ho with ho
  injection ho with _ ho
  exact .inl ho.symm
theorem core_fill_w {call : CallF} {o : AOper} {back : Nat} (h : classOf o.op = .fill back) {ρ : Nat → AV} {m m' : Sig} {x : AV} (ho : coreA call o ρ m = some (x, m')) : Writes back m m' := by
 unfold coreA at ho
 split at ho
 ·exact .inr (opv_fill h ho)
 ·injection ho with ho
  injection ho with _ ho
  exact .inl ho.symm
theorem core_loadr {call : CallF} {o : AOper} {res back : Nat} (h : classOf o.op = .loadr res) (hb : back ≤ res) (ρ : Nat → AV) {m m' : Sig} (hw : Writes back m m') : ∃ r : Option AV, coreA call o ρ m = r.map (·, m) ∧ coreA call o ρ m' = r.map (·, m') := by
 rcases hw with rfl | ⟨cs, rfl⟩
 ·by_cases hw : wantedT ρ o.guard = true
  ·obtain ⟨r, h1, _⟩ := opv_loadr (call := call) h (Nat.zero_le _) (ρ := evalT ρ) (m := m') []
   exact ⟨r, by simp only [coreA, if_pos hw, h1], by simp only [coreA, if_pos hw, h1]⟩
  ·exact ⟨some AV.undef, by simp only [coreA, if_neg hw]; rfl, by simp only [coreA, if_neg hw]; rfl⟩
 ·by_cases hw : wantedT ρ o.guard = true
  ·obtain ⟨r, h1, h2⟩ := opv_loadr (call := call) h hb (ρ := evalT ρ) (m := m) cs
   exact ⟨r, by simp only [coreA, if_pos hw, h1], by simp only [coreA, if_pos hw, h2]⟩
  ·exact ⟨some AV.undef, by simp only [coreA, if_neg hw]; rfl, by simp only [coreA, if_neg hw]; rfl⟩
theorem core_lw {call : CallF} {x y : AOper} {res back : Nat} (hx : classOf x.op = .loadr res) (hb : back ≤ res) {ρ : Nat → AV} {m m1 m2 : Sig} {u v : AV} (hw : Writes back m1 m2) (h1 : coreA call x ρ m = some (v, m1)) (h2 : coreA call y ρ m1 = some (u, m2)) :
  ∃ m1', coreA call y ρ m = some (u, m1') ∧ coreA call x ρ m1' = some (v, m2) := by
 obtain ⟨r0, a1, _⟩ := core_loadr (call := call) hx hb ρ (m := m) (m' := m) (.inl rfl)
 rw [a1] at h1
 obtain ⟨q1, q2⟩ := map_pair h1
 simp only at q1 q2
 subst q2
 obtain ⟨r, c1, c2⟩ := core_loadr (call := call) hx hb ρ hw
 refine ⟨m2, h2, ?_⟩
 rw [c2]
 have e := c1.symm.trans a1
 have : r = r0 := by cases r <;> cases r0 <;> simp_all
 rw [this, q1]
 rfl
theorem core_wl {call : CallF} {x y : AOper} {res back : Nat} (hy : classOf y.op = .loadr res) (hb : back ≤ res) {ρ : Nat → AV} {m m1 m2 : Sig} {u v : AV} (hw : Writes back m m1) (h1 : coreA call x ρ m = some (v, m1)) (h2 : coreA call y ρ m1 = some (u, m2)) :
  ∃ m1', coreA call y ρ m = some (u, m1') ∧ coreA call x ρ m1' = some (v, m2) := by
 obtain ⟨r, c1, c2⟩ := core_loadr (call := call) hy hb ρ hw
 rw [c2] at h2
 obtain ⟨q1, q2⟩ := map_pair h2
 simp only at q1 q2
 subst q2
 exact ⟨m, by rw [c1, q1]; rfl, h1⟩
theorem core_load_grows {call : CallF} {o : AOper} (h : classOf o.op = .load) {ρ : Nat → AV} {m m1 : Sig} {v : AV} (ho : coreA call o ρ m = some (v, m1)) : m1 = m ∧ ∀ m', Grows m m' → coreA call o ρ m' = some (v, m') := by
 unfold coreA at ho ⊢
 split at ho
 ·rename_i hw
  obtain ⟨h1, h2⟩ := opv_load_grows h ho
  exact ⟨h1, fun m' hg => by rw [if_pos hw]; exact h2 m' hg⟩
 ·rename_i hw
  injection ho with ho
  injection ho with h1 h2
  subst h1 h2
  exact ⟨rfl, fun m' _ => by rw [if_neg hw]⟩
theorem core_swap {call : CallF} {x y : AOper} (h : mayPass (classOf x.op) (classOf y.op) = true) {ρ : Nat → AV} {m m1 m2 : Sig} {u v : AV} (h1 : coreA call x ρ m = some (v, m1)) (h2 : coreA call y ρ m1 = some (u, m2)) :
  ∃ m1', coreA call y ρ m = some (u, m1') ∧ coreA call x ρ m1' = some (v, m2) := by
 have xp : classOf x.op = .pure → ∃ m1', coreA call y ρ m = some (u, m1') ∧ coreA call x ρ m1' = some (v, m2) := fun hx => by
  obtain ⟨r, hr⟩ := core_pure (call := call) hx ρ
  rw [hr] at h1
  obtain ⟨q1, q2⟩ := map_pair h1
  simp only at q1 q2
  subst q2
  exact ⟨m2, h2, by rw [hr, q1]; rfl⟩
 have yp : classOf y.op = .pure → ∃ m1', coreA call y ρ m = some (u, m1') ∧ coreA call x ρ m1' = some (v, m2) := fun hy => by
  obtain ⟨r, hr⟩ := core_pure (call := call) hy ρ
  rw [hr] at h2
  obtain ⟨q1, q2⟩ := map_pair h2
  simp only at q1 q2
  subst q2
  exact ⟨m, by rw [hr, q1]; rfl, h1⟩
 have ly : classOf y.op = .load → SameBoxes m m1 → ∃ m1', coreA call y ρ m = some (u, m1') ∧ coreA call x ρ m1' = some (v, m2) := fun hy hs => by
  obtain ⟨r, r1, r2⟩ := core_load (call := call) hy ρ hs
  rw [r2] at h2
  obtain ⟨q1, q2⟩ := map_pair h2
  simp only at q1 q2
  subst q2
  exact ⟨m, by rw [r1, q1]; rfl, h1⟩
 have lx : classOf x.op = .load → m1 = m ∧ (SameBoxes m m2 → ∃ m1', coreA call y ρ m = some (u, m1') ∧ coreA call x ρ m1' = some (v, m2)) := fun hx => by
  obtain ⟨r, r1, _⟩ := core_load (call := call) (m' := m) hx ρ (fun _ _ => rfl)
  rw [r1] at h1
  obtain ⟨q1, q2⟩ := map_pair h1
  simp only at q1 q2
  subst q2
  refine ⟨rfl, fun hs => ?_⟩
  obtain ⟨r', r1', r2'⟩ := core_load (call := call) hx ρ hs
  refine ⟨m2, h2, ?_⟩
  rw [r2']
  rw [r1'] at r1
  have : r' = r := by
   cases r <;> cases r' <;> simp_all
  rw [this, q1]
  rfl
 cases hx : classOf x.op <;> cases hy : classOf y.op <;> rw [hx, hy] at h <;> first
  | exact xp hx
  | exact yp hy
  | (simp [mayPass] at h; done)
  | skip
 ·exact ly hy (by rw [(lx hx).1]; exact fun _ _ => rfl)
 ·have := lx hx
  obtain ⟨rfl, f⟩ := this
  exact f (core_soft hy h2)
 ·obtain ⟨rfl, f⟩ := core_load_grows hx h1
  exact ⟨m2, h2, f _ (core_fresh hy h2)⟩
 ·exact ly hy (core_soft hx h1)
 ·exact core_slots hx hy h1 h2
 ·exact core_wl hy (by simpa [mayPass] using h) (core_slot_w hx h1) h1 h2
 ·exact core_lw hx (by simpa [mayPass] using h) (core_slot_w hy h2) h1 h2
 ·exact core_wl hy (Nat.zero_le _) (by
   obtain ⟨r, a1, _⟩ := core_loadr (call := call) hx (Nat.zero_le _) ρ (m := m) (m' := m) (.inl rfl)
   rw [a1] at h1
   obtain ⟨_, q2⟩ := map_pair h1
   exact .inl (by first | exact q2 | exact q2.symm)) h1 h2
 ·exact core_lw hx (by simpa [mayPass] using h) (core_fill_w hy h2) h1 h2
 ·exact core_wl hy (by simpa [mayPass] using h) (core_fill_w hx h1) h1 h2
theorem zInts_eq : ∀ {a : List AV} {p : List (IntKind × Int)}, zInts a = some p → a = p.map fun q => .v (.int q.1 q.2)
 | [], p, h => by
  injection h with h
  subst h; rfl
 | x :: r, p, h => by
  simp only [zInts] at h
  split at h
  ·obtain ⟨q, hq, rfl⟩ := Option.map_eq_some_iff.1 h
   rw [zInts_eq hq]; rfl
  ·cases h
theorem sameZ_eq {a b : List AV} (h : sameZ a b = true) : a = b := by
 unfold sameZ at h
 split at h
 ·rename_i p q h1 h2
  rw [decide_eq_true_eq] at h
  rw [zInts_eq h1, zInts_eq h2, h]
 ·cases h
theorem setLast_twice (m : Sig) (a b : List AV) : (m.setLast a).setLast b = m.setLast b := by
 unfold Sig.setLast
 have h1 : (m.setBox m.cur (m.nbox m.cur - 1) a).cur = m.cur := cur_setBox _ _ _ _
 have h2 : (m.setBox m.cur (m.nbox m.cur - 1) a).nbox m.cur = m.nbox m.cur := nbox_setBox _ _ _ _ _
 rw [h1, h2]
 simp only [Sig.setBox, Sig.onRec]
 congr 1
 rw [List.modify_modify_eq]
 congr 1
 funext r
 simp
theorem fcall_slot {call : CallF} {ro : Bool} {m m1 m2 : Sig} {zs : List AV} {t : Target} {args : List AV} {u v : AV} (h1 : fcallOp call ro m zs t args = some (v, m1)) (h2 : slotOp m1 1 zs = some (u, m2)) :
  ∃ m1', slotOp m 1 zs = some (u, m1') ∧ fcallOp call ro m1' zs t args = some (v, m2) := by
 have hd := fcall_call h1
 unfold fcallOp at h1
 rw [hd] at h1
 simp only at h1
 split at h1
 ·rename_i hc
  obtain ⟨c1, c2, c3, c4, c5, c6, c7⟩ := hc
  have hcur : m1.cur = m.cur := by unfold Sig.cur; rw [c3]
  obtain ⟨b1, b2, rfl, rfl⟩ := slotOp_spec h2
  rw [hcur, c4, c5] at b1
  rw [hcur] at b2
  have e1 : m1.setBox m1.cur (m1.nbox m1.cur - 1) zs = m1.setLast zs := rfl
  rw [e1, hcur, c4]
  refine ⟨m.setLast zs, slotOp_of b1 ⟨b2.1, c7 b2.2⟩, ?_⟩
  have hc2 : (m.setLast zs).cur = m.cur := cur_setBox _ _ _ _
  have hn2 : ∀ d, (m.setLast zs).nbox d = m.nbox d := fun d => nbox_setBox _ _ _ _ _
  have ha2 : (m.setLast zs).acts.length = m.acts.length := by simp [Sig.setLast, Sig.setBox, Sig.onRec]
  have ha3 : (m1.setLast zs).acts.length = m1.acts.length := by simp [Sig.setLast, Sig.setBox, Sig.onRec]
  have hn3 : ∀ d, (m1.setLast zs).nbox d = m1.nbox d := fun d => nbox_setBox _ _ _ _ _
  have hk2 : ∀ d, (m.setLast zs).noneTok d = m.noneTok d := fun d => ntok_setBox _ _ _ _ _
  have hk3 : ∀ d, (m1.setLast zs).noneTok d = m1.noneTok d := fun d => ntok_setBox _ _ _ _ _
  unfold fcallOp
  rw [c2]
  simp only
  rw [if_pos]
  refine ⟨by rw [setLast_twice, setLast_twice]; exact c1, by rw [setLast_twice, setLast_twice]; exact c2, by rw [ha2, ha3]; exact c3, by rw [hc2, hn2, hn3]; exact c4, ?_, fun hr => by rw [c6 hr], fun hk => by rw [hc2] at hk ⊢; rw [hk2]; rw [hk3] at hk; exact c7 hk⟩
  rw [hc2, hn2]
  have k1 : (m.setLast zs).box m.cur (m.nbox m.cur - 1) = some zs := by
   unfold Sig.setLast
   rw [box_setBox, if_pos ⟨rfl, rfl⟩, b1]; rfl
  have k2 : (m1.setLast zs).box m.cur (m.nbox m.cur - 1) = some zs := by
   unfold Sig.setLast
   rw [hcur, c4, box_setBox, if_pos ⟨rfl, rfl⟩, c5, b1]; rfl
  rw [k1, k2]
 ·cases h1
theorem core_frame {call : CallF} {x y : AOper} (h : frameOk x.op y.op = true) {ρ : Nat → AV} {m m1 m2 : Sig} {u v : AV} (h1 : coreA call x ρ m = some (v, m1)) (h2 : coreA call y ρ m1 = some (u, m2)) :
  ∃ m1', coreA call y ρ m = some (u, m1') ∧ coreA call x ρ m1' = some (v, m2) := by
 by_cases hx : wantedT ρ x.guard = true
 ·by_cases hy : wantedT ρ y.guard = true
  ·simp only [coreA, if_pos hx] at h1 ⊢
   simp only [coreA, if_pos hy] at h2 ⊢
   unfold frameOk at h
   split at h
   ·rename_i ro zs f as b zs' ex ey
    rw [Bool.and_eq_true, decide_eq_true_eq] at h
    obtain ⟨rfl, hz⟩ := h
    have hz := sameZ_eq hz
    subst hz
    rw [ex] at h1 ⊢
    rw [ey] at h2 ⊢
    exact fcall_slot h1 h2
   ·rename_i ro zs f as r g n a ex ey
    subst h
    rw [ex] at h1 ⊢
    rw [ey] at h2 ⊢
    have hm : m1 = m := by
     simp only [opv, fcallOp] at h1
     split at h1
     ·split at h1
      ·rename_i hc
       injection h1 with h1
       injection h1 with _ h1
       rw [← h1]
       exact hc.2.2.2.2.2.1 rfl
      ·cases h1
     ·cases h1
    subst hm
    have hm2 : m2 = m1 := by
     simp only [opv] at h2
     obtain ⟨_, _, h2⟩ := Option.map_eq_some_iff.1 h2
     injection h2 with _ h2
     exact h2.symm
    subst hm2
    exact ⟨m2, h2, h1⟩
   ·cases h
  ·simp only [coreA, if_neg hy] at h2 ⊢
   injection h2 with h2
   injection h2 with h2 h3
   subst h2 h3
   exact ⟨m, rfl, h1⟩
 ·simp only [coreA, if_neg hx] at h1 ⊢
  injection h1 with h1
  injection h1 with h1 h3
  subst h1 h3
  exact ⟨m2, h2, rfl⟩
theorem step_swap {call : CallF} {x y : AOper} (h : mayPass (classOf x.op) (classOf y.op) = true ∨ frameOk x.op y.op = true) (hd : ∀ t, x.dst = some t → y.dst ≠ some t) (hx : ∀ t, x.dst = some t → t ∉ readsOf y) (hy : ∀ t, y.dst = some t → t ∉ readsOf x)
  {st st1 st2 : St} (h1 : stepA call x st = some st1) (h2 : stepA call y st1 = some st2) : ∃ st1', stepA call y st = some st1' ∧ stepA call x st1' = some st2 := by
 rw [stepA_core] at h1
 obtain ⟨⟨v, m1⟩, c1, h1⟩ := Option.map_eq_some_iff.1 h1
 subst h1
 rw [stepA_core] at h2
 obtain ⟨⟨u, m2⟩, c2, h2⟩ := Option.map_eq_some_iff.1 h2
 subst h2
 simp only at c2
 have put_agree : ∀ (o o' : AOper) (ρ : Nat → AV) (z : AV), (∀ t, o.dst = some t → t ∉ readsOf o') → agreeOn (readsOf o') (putT ρ o.dst z) ρ := fun o o' ρ z ho t ht => by
  cases hdo : o.dst with
  | none => rfl
  | some d =>
   simp only [putT, put]
   rw [if_neg (fun e => ho d hdo (by rw [← e]; exact ht))]
 rw [coreA_agree (put_agree x y st.tmps v hx)] at c2
 obtain ⟨m1', c3, c4⟩ : ∃ m1', coreA call y st.tmps st.sig = some (u, m1') ∧ coreA call x st.tmps m1' = some (v, m2) := by
  rcases h with h | h
  ·exact core_swap h c1 c2
  ·exact core_frame h c1 c2
 refine ⟨⟨putT st.tmps y.dst u, m1'⟩, by rw [stepA_core, c3]; rfl, ?_⟩
 rw [stepA_core]
 simp only
 rw [coreA_agree (put_agree y x st.tmps u hy), c4]
 simp only [Option.map_some, Option.some.injEq, St.mk.injEq, and_true]
 cases hdx : x.dst with
 | none => rfl
 | some d =>
  cases hdy : y.dst with
  | none => rfl
  | some d' =>
   have hne : d' ≠ d := fun e => hd d hdx (by rw [hdy, e])
   funext t
   simp only [putT, put]
   by_cases h1 : t = d
   ·subst h1
    rw [if_pos rfl, if_neg (Ne.symm hne), if_pos rfl]
   ·rw [if_neg h1]
    split <;> rfl
noncomputable def runIx (call : CallF) (as : List AOper) : List Nat → St → Option St
 | [], st => some st
 | i :: r, st => match as[i]? with
  | some o => (stepA call o st).bind (runIx call as r)
  | none => none
theorem runIx_range' (call : CallF) (as : List AOper) : ∀ (l : List AOper) (i : Nat), (∀ j, l[j]? = as[i + j]?) → ∀ st, runIx call as (List.range' i l.length) st = ops call l st
 | [], i, _, st => rfl
 | o :: r, i, h, st => by
  have h0 : as[i]? = some o := by simpa using (h 0).symm
  simp only [List.length_cons, List.range'_succ, runIx, h0, ops_cons]
  congr 1
  funext st1
  exact runIx_range' call as r (i + 1) (fun j => by have := h (j + 1); simpa [Nat.add_assoc, Nat.add_comm 1 j] using this) st1
theorem runIx_range (call : CallF) (as : List AOper) (st : St) : runIx call as (List.range as.length) st = ops call as st := by
 rw [List.range_eq_range']
 exact runIx_range' call as as 0 (by simp) st
def unordered (pre : List Nat) (i j : Nat) : Prop := before pre i j = false ∧ before pre j i = false
theorem drawOk_spec {pre : List Nat} {l : List AOper} (h : drawOk pre l = true) {i j : Nat} {x y : AOper} (hx : l[i]? = some x) (hy : l[j]? = some y) (hlt : i < j) (hu : unordered pre i j) :
  (mayPass (classOf x.op) (classOf y.op) = true ∨ frameOk x.op y.op = true) ∧ (∀ t, x.dst = some t → y.dst ≠ some t) ∧ (∀ t, y.dst = some t → t ∉ readsOf x) ∧ (∀ t, x.dst = some t → t ∉ readsOf y) := by
 have hne : i ≠ j := by omega
 unfold drawOk at h
 rw [Bool.and_eq_true] at h
 have h1 := h.1
 unfold pairsOk at h1
 have mem : ∀ {i : Nat} {x : AOper}, l[i]? = some x → (x, i) ∈ l.zipIdx := fun e => by
  rw [List.mem_zipIdx_iff_getElem?]
  exact e
 have h2 := List.all_eq_true.1 h1 _ (mem hx)
 have h3 := List.all_eq_true.1 h2 _ (mem hy)
 have h4 := List.all_eq_true.1 (List.all_eq_true.1 h1 _ (mem hy)) _ (mem hx)
 have hne' : (i == j) = false := by simpa using hne
 have hne'' : (j == i) = false := by simpa using Ne.symm hne
 have hji : decide (j < i) = false := by simp; omega
 obtain ⟨hu1, hu2⟩ := hu
 simp only [hne', Bool.false_or, Bool.and_eq_true, hu1, hu2, Bool.or_false] at h3
 simp only [hne'', Bool.false_or, Bool.and_eq_true, hu1, hu2, Bool.or_false] at h4
 obtain ⟨⟨a1, a2⟩, a3⟩ := h3
 obtain ⟨⟨_, a4⟩, _⟩ := h4
 refine ⟨?_, fun t ht e => ?_, fun t ht hm => ?_, fun t ht hm => ?_⟩
 ·cases hcx : classOf x.op <;> cases hcy : classOf y.op <;> rw [hcx, hcy] at a3 <;> first | exact .inl rfl | (simp [hji] at a3; done) | (simp [hji, hlt] at a3; exact .inr a3) | (refine .inl ?_; simpa [mayPass] using a3)
 ·rw [ht, e] at a1
  simp at a1
 ·rw [ht] at a2
  simp at a2
  exact a2 hm
 ·rw [ht] at a4
  simp at a4
  exact a4 hm
theorem unordered.symm {pre : List Nat} {i j : Nat} (h : unordered pre i j) : unordered pre j i := ⟨h.2, h.1⟩
theorem toFront {call : CallF} {pre : List Nat} {as : List AOper} (h : drawOk pre as = true) {i : Nat} {q : List Nat} {f : St} : ∀ (p : List Nat) (st : St), (∀ j, j ∈ p → j < i ∧ unordered pre i j) → runIx call as (p ++ i :: q) st = some f →
  runIx call as (i :: (p ++ q)) st = some f
 | [], st, _, hr => hr
 | j :: p, st, hp, hr => by
  simp only [List.cons_append, runIx] at hr
  split at hr
  ·rename_i y hy
   obtain ⟨st1, s1, hr⟩ := Option.bind_eq_some_iff.1 hr
   have hr' := toFront h p st1 (fun j' hj' => hp j' (by simp [hj'])) hr
   simp only [runIx] at hr'
   split at hr'
   ·rename_i x hx
    obtain ⟨st2, s2, hr'⟩ := Option.bind_eq_some_iff.1 hr'
    obtain ⟨hlt, hu⟩ := hp j (by simp)
    obtain ⟨d1, d2, d3, d6⟩ := drawOk_spec h hy hx hlt hu.symm
    obtain ⟨st1', t1, t2⟩ := step_swap d1 d2 d6 d3 s1 s2
    simp only [runIx, List.cons_append, hx, hy, t1, Option.bind_some, t2]
    exact hr'
   ·cases hr'
  ·cases hr
def bindsOf (o : Oper) : List Edge := o.after.toList.filter (Region.binds .any)
theorem foldl_bits {acc : List Nat} {i : Nat} : ∀ (es : List Edge) (m : Nat), (es.foldl (fun m e => m ||| 1 <<< e.on ||| acc.getD e.on 0) m).testBit i = true → m.testBit i = true ∨ ∃ e, e ∈ es ∧ (e.on = i ∨ (acc.getD e.on 0).testBit i = true)
 | [], m, h => .inl h
 | e :: r, m, h => by
  simp only [List.foldl_cons] at h
  rcases foldl_bits r _ h with h | ⟨e', h1, h2⟩
  ·rw [Nat.testBit_or, Nat.testBit_or, Bool.or_eq_true, Bool.or_eq_true] at h
   rcases h with (h | h) | h
   ·exact .inl h
   ·rw [Nat.testBit_shiftLeft] at h
    simp only [Bool.and_eq_true, decide_eq_true_eq] at h
    have := h.2
    have h0 : i - e.on = 0 := by
     cases hq : i - e.on with
     | zero => rfl
     | succ n =>
      rw [hq, Nat.testBit_succ] at this
      simp at this
    exact .inr ⟨e, by simp, .inl (by omega)⟩
   ·exact .inr ⟨e, by simp, .inr h⟩
  ·exact .inr ⟨e', by simp [h1], h2⟩
theorem preds_spec : ∀ (l : List Oper) (acc pre : List Nat), predsFrom acc l = some pre → (∀ j, j < acc.length → pre.getD j 0 = acc.getD j 0) ∧ pre.length = acc.length + l.length ∧
  ∀ j o, l[j]? = some o → (∀ e, e ∈ bindsOf o → e.on < acc.length + j) ∧ ∀ i, (pre.getD (acc.length + j) 0).testBit i = true → ∃ e, e ∈ bindsOf o ∧ (e.on = i ∨ (pre.getD e.on 0).testBit i = true)
 | [], acc, pre, h => by
  simp only [predsFrom] at h
  injection h with h
  subst h
  exact ⟨fun _ _ => rfl, rfl, fun j o hj => by simp at hj⟩
 | o :: r, acc, pre, h => by
  simp only [predsFrom] at h
  split at h
  ·rename_i hall
   obtain ⟨h1, h2, h3⟩ := preds_spec r _ pre h
   simp only [List.length_append, List.length_cons, List.length_nil] at h1 h2 h3
   have hall' : ∀ e, e ∈ bindsOf o → e.on < acc.length := fun e he => by simpa using List.all_eq_true.1 hall e he
   refine ⟨fun j hj => ?_, by simp only [List.length_cons]; omega, fun j o' hj => ?_⟩
   ·rw [h1 j (by omega)]
    simp [List.getD_eq_getElem?_getD, List.getElem?_append_left hj]
   ·cases j with
    | zero =>
     simp only [List.getElem?_cons_zero, Option.some.injEq] at hj
     subst hj
     refine ⟨fun e he => by have := hall' e he; omega, fun i hi => ?_⟩
     rw [Nat.add_zero, h1 acc.length (by omega)] at hi
     have hv : (acc ++ [(bindsOf o).foldl (fun m e => m ||| 1 <<< e.on ||| acc.getD e.on 0) 0]).getD acc.length 0 = (bindsOf o).foldl (fun m e => m ||| 1 <<< e.on ||| acc.getD e.on 0) 0 := by
      simp [List.getD_eq_getElem?_getD]
     have hi' : ((bindsOf o).foldl (fun m e => m ||| 1 <<< e.on ||| acc.getD e.on 0) 0).testBit i = true := by
      rw [← hv]
      exact hi
     rcases foldl_bits _ _ hi' with h0 | ⟨e, e1, e2⟩
     ·simp at h0
     ·refine ⟨e, e1, e2.imp id fun e3 => ?_⟩
      rw [h1 e.on (by have := hall' e e1; omega)]
      have : (acc ++ [(bindsOf o).foldl (fun m e => m ||| 1 <<< e.on ||| acc.getD e.on 0) 0]).getD e.on 0 = acc.getD e.on 0 := by
       simp [List.getD_eq_getElem?_getD, List.getElem?_append_left (hall' e e1)]
      exact (congrArg (fun q => Nat.testBit q i) this).trans e3
    | succ j =>
     simp only [List.getElem?_cons_succ] at hj
     obtain ⟨g1, g2⟩ := h3 j o' hj
     refine ⟨fun e he => by have := g1 e he; omega, fun i hi => g2 i ?_⟩
     have : acc.length + 1 + j = acc.length + (j + 1) := by omega
     rw [this]
     exact hi
  ·cases h
structure PreOk (l : List Oper) (pre : List Nat) : Prop where
 len : pre.length = l.length
 edge : ∀ j o, l[j]? = some o → ∀ e, e ∈ bindsOf o → e.on < j
 why : ∀ j o, l[j]? = some o → ∀ i, before pre i j = true → ∃ e, e ∈ bindsOf o ∧ (e.on = i ∨ before pre i e.on = true)
theorem preOk_of {l : List Oper} {pre : List Nat} (h : predsFrom [] l = some pre) : PreOk l pre := by
 obtain ⟨_, h2, h3⟩ := preds_spec l [] pre h
 simp only [List.length_nil, Nat.zero_add] at h2 h3
 exact ⟨h2, fun j o hj => (h3 j o hj).1, fun j o hj i hi => (h3 j o hj).2 i hi⟩
theorem PreOk.lt {l : List Oper} {pre : List Nat} (h : PreOk l pre) : ∀ (j i : Nat), before pre i j = true → i < j := by
 intro j
 induction j using Nat.strongRecOn with
 | _ j ih =>
  intro i hi
  by_cases hj : j < l.length
  ·obtain ⟨e, e1, e2⟩ := h.why j _ (List.getElem?_eq_getElem hj) i hi
   have := h.edge j _ (List.getElem?_eq_getElem hj) e e1
   rcases e2 with e2 | e2
   ·omega
   ·have := ih e.on this i e2
    omega
  ·have : pre.getD j 0 = 0 := by
    rw [List.getD_eq_getElem?_getD, List.getElem?_eq_none (by rw [h.len]; omega)]
    rfl
   simp only [before, this, Nat.zero_testBit] at hi
   cases hi
def remIx (n : Nat) (listed : Array Bool) : List Nat := (List.range n).filter fun j => !listed.getD j true
theorem mem_remIx {n j : Nat} {listed : Array Bool} : j ∈ remIx n listed ↔ j < n ∧ listed.getD j true = false := by
 simp [remIx, List.mem_filter]
theorem remIx_split {n i : Nat} {listed : Array Bool} (hi : i ∈ remIx n listed) : ∃ p q, remIx n listed = p ++ i :: q ∧ remIx n (listed.setIfInBounds i true) = p ++ q ∧ ∀ j, j ∈ p → j < i ∧ listed.getD j true = false := by
 obtain ⟨h1, h2⟩ := mem_remIx.1 hi
 refine ⟨(List.range i).filter fun j => !listed.getD j true, (List.range' (i + 1) (n - (i + 1))).filter fun j => !listed.getD j true, ?_, ?_, fun j hj => ?_⟩
 ·have hr : List.range n = List.range i ++ i :: List.range' (i + 1) (n - (i + 1)) := by
   rw [List.range_eq_range', List.range_eq_range', show n = i + (n - (i + 1) + 1) by omega, ← List.range'_append_1]
   simp [List.range'_succ]
   omega
  rw [remIx, hr, List.filter_append, List.filter_cons]
  simp [h2]
 ·have hr : List.range n = List.range i ++ i :: List.range' (i + 1) (n - (i + 1)) := by
   rw [List.range_eq_range', List.range_eq_range', show n = i + (n - (i + 1) + 1) by omega, ← List.range'_append_1]
   simp [List.range'_succ]
   omega
  have hs : (listed.setIfInBounds i true).getD i true = true := by
   by_cases hlt : i < listed.size
   ·simp [Array.getD, hlt]
   ·simp [Array.getD, hlt]
  rw [remIx, hr, List.filter_append, List.filter_cons]
  simp only [hs, Bool.not_true, Bool.false_eq_true, if_false]
  congr 1
  ·refine List.filter_congr fun j hj => ?_
   rw [getD_set_ne true (by have := List.mem_range.1 hj; omega)]
  ·refine List.filter_congr fun j hj => ?_
   rw [getD_set_ne true (by have := List.mem_range'_1.1 hj; omega)]
 ·rw [List.mem_filter, List.mem_range] at hj
  exact ⟨hj.1, by simpa using hj.2⟩
theorem compOpers_get {all : List Oper} {md : Nat → Md} : ∀ (l : List Oper) (i : Nat) (al : List AOper), compOpers P all md i l = some al → al.length = l.length ∧ ∀ j o, l[j]? = some o → ∃ ao, al[j]? = some ao ∧ ao.dst = o.dst ∧ compGuard all o.guard = some ao.guard ∧ compOp P (md (i + j)) o.op = some ao.op
 | [], i, al, h => by
  simp only [compOpers] at h
  injection h with h
  subst h
  exact ⟨rfl, fun j o hj => by simp at hj⟩
 | o :: r, i, al, h => by
  simp only [compOpers] at h
  split at h
  ·rename_i g op rest e1 e2 e3
   injection h with h
   subst h
   obtain ⟨h1, h2⟩ := compOpers_get r (i + 1) rest e3
   refine ⟨by simp [h1], fun j o' hj => ?_⟩
   cases j with
   | zero =>
    simp only [List.getElem?_cons_zero, Option.some.injEq] at hj
    subst hj
    exact ⟨_, rfl, rfl, e1, e2⟩
   | succ j =>
    obtain ⟨ao, a1, a2, a3, a4⟩ := h2 j o' (by simpa using hj)
    exact ⟨ao, by simpa using a1, a2, a3, by rw [← a4]; congr 2; omega⟩
  ·cases h
theorem drawn_sound {call : CallF} (hcall : CallSound P B0 w0 call) (hro : RoOk call) {rd : Option Nat} {n : Nat} {all : Array Oper} {md : Nat → Md} {as : List AOper} {pre : List Nat} (hc : compOpers P all.toList md 0 all.toList = some as)
  (hpre : PreOk all.toList pre) (hok : drawOk pre as = true) {f : St} {Q : Exit → Act → World → Prop} : ∀ (fuel : Nat) (listed : Array Bool) (G : Ghost) (st : St) (a : Act) (w : World),
  listed.size = all.size → (remIx all.size listed).length ≤ fuel → (∀ i j, listed.getD j false = true → before pre i j = true → listed.getD i false = true) → runIx call as (remIx all.size listed) st = some f →
  At P B0 w0 G k nl st.sig w → TmpsRel G k nl st.tmps a → (∀ o, o ∈ as → ∀ t, o.dst = some t → t < a.tmps.size) → (∀ a' w', PostTo P B0 w0 G k nl st.sig a f a' w' → Q .normal a' w') →
  wpAnyIn (fenceOf rd) n P .any all Q fuel listed a w := by
 have hnone : ∀ (listed : Array Bool), listed.size = all.size → Region.ready .any all listed = [] → remIx all.size listed = [] := fun listed hsz hr => by
  have key : ∀ j, j < all.size → listed.getD j true = true := fun j => by
   induction j using Nat.strongRecOn with
   | _ j ih =>
    intro hj
    cases hl : listed.getD j true with
    | true => rfl
    | false =>
     exfalso
     have : j ∈ Region.ready .any all listed := by
      rw [mem_ready]
      refine ⟨hl, all[j], Array.getElem?_eq_getElem hj, fun e he hb => ?_⟩
      have hlt := hpre.edge j all[j] (by simp [hj]) e (by simp [bindsOf, List.mem_filter]; exact ⟨he, hb⟩)
      have := ih e.on hlt (by omega)
      have hlt2 : e.on < listed.size := by omega
      simpa [Array.getD, hlt2] using this
     rw [hr] at this
     cases this
  rw [remIx, List.filter_eq_nil_iff]
  intro j hj
  rw [key j (List.mem_range.1 hj)]
  simp
 have done : ∀ (listed : Array Bool) (G : Ghost) (st : St) (a : Act) (w : World), listed.size = all.size → Region.ready .any all listed = [] → runIx call as (remIx all.size listed) st = some f → At P B0 w0 G k nl st.sig w → TmpsRel G k nl st.tmps a →
   (∀ a' w', PostTo P B0 w0 G k nl st.sig a f a' w' → Q .normal a' w') → Q .normal a w := fun listed G st a w hsz hr hrun h hR hQ => by
  rw [hnone listed hsz hr] at hrun
  simp only [runIx] at hrun
  injection hrun with hrun
  subst hrun
  exact hQ a w ⟨G, h, .refl _ _ _, rfl, hR, rfl, rfl⟩
 intro fuel
 induction fuel with
 | zero =>
  intro listed G st a w hsz hlen hcl hrun h hR hd hQ
  have hr0 : Region.ready .any all listed = [] := by
   cases hr : Region.ready .any all listed with
   | nil => rfl
   | cons i r =>
    exfalso
    have hi : i ∈ Region.ready .any all listed := by rw [hr]; simp
    obtain ⟨h1, o, h2, _⟩ := mem_ready.1 hi
    have : i ∈ remIx all.size listed := mem_remIx.2 ⟨(Array.getElem?_eq_some_iff.1 h2).1, h1⟩
    have h0 : remIx all.size listed = [] := List.eq_nil_of_length_eq_zero (by omega)
    rw [h0] at this
    cases this
  exact ⟨hr0, done listed G st a w hsz hr0 hrun h hR hQ⟩
 | succ fuel ih =>
  intro listed G st a w hsz hlen hcl hrun h hR hd hQ
  refine ⟨fun hr => done listed G st a w hsz hr hrun h hR hQ, fun i hi => ?_⟩
  obtain ⟨h1, o, h2, hafter⟩ := mem_ready.1 hi
  have hlt : i < all.size := (Array.getElem?_eq_some_iff.1 h2).1
  have hmem : i ∈ remIx all.size listed := mem_remIx.2 ⟨hlt, h1⟩
  obtain ⟨p, q, e1, e2, e3⟩ := remIx_split hmem
  have ho : all.toList[i]? = some o := by simpa using h2
  have hahead : ∀ j, before pre j i = true → listed.getD j false = true := fun j hj => by
   obtain ⟨e, c1, c2⟩ := hpre.why i o ho j hj
   have he : e ∈ o.after ∧ Region.binds .any e = true := by
    simp only [bindsOf, List.mem_filter] at c1
    exact ⟨by simpa using c1.1, c1.2⟩
   have hl := hafter e he.1 he.2
   rcases c2 with c2 | c2
   ·rw [← c2]; exact hl
   ·exact hcl j e.on hl c2
  have hfront : runIx call as (i :: (p ++ q)) st = some f := by
   refine toFront hok p st (fun j hj => ?_) (by rw [← e1]; exact hrun)
   obtain ⟨j1, j2⟩ := e3 j hj
   refine ⟨by omega, ?_, ?_⟩
   ·cases hb : before pre i j with
    | false => rfl
    | true => have := hpre.lt j i hb; omega
   ·cases hb : before pre j i with
    | false => rfl
    | true =>
     exfalso
     have := hahead j hb
     have hjs : j < listed.size := by omega
     simp [Array.getD, hjs] at this j2
     rw [this] at j2
     cases j2
  obtain ⟨g1, g2⟩ := compOpers_get _ 0 as hc
  obtain ⟨ao, a1, a2, a3, a4⟩ := g2 i o ho
  simp only [runIx, a1] at hfront
  obtain ⟨st1, s1, s2⟩ := Option.bind_eq_some_iff.1 hfront
  unfold wpOpIn
  simp only [h2]
  have hall : all = all.toList.toArray := by simp
  have hstep := op_step hcall hro (rd := rd) (n := n) (all := all.toList) (Q := Q) h hR a3 a4 a2 (fun t ht => hd ao (List.mem_of_getElem? a1) t ht) s1 (K := wpAnyIn (fenceOf rd) n P .any all Q fuel (listed.setIfInBounds i true)) (fun a1' w1 hp => by
   obtain ⟨G1, k1, k2, k3, k4, k5, k6⟩ := hp
   refine ih (listed.setIfInBounds i true) G1 st1 a1' w1 (by simp [hsz]) ?_ ?_ (by rw [e2]; exact s2) k1 k4 (fun o' ho' t ht => by rw [k5]; exact hd o' ho' t ht) (fun a' w' hp' => hQ a' w' ?_)
   ·rw [e2]
    rw [e1] at hlen
    simp at hlen ⊢
    omega
   ·intro x y hy hxy
    by_cases hyi : y = i
    ·subst hyi
     exact getD_set_true (hahead x hxy)
    ·rw [getD_set_ne false (Ne.symm hyi)] at hy
     exact getD_set_true (hcl x y hy hxy)
   ·obtain ⟨G2, q1, q2, q3, q4, q5, q6⟩ := hp'
    rw [k3] at q2 q3
    exact ⟨G2, q1, k2.trans q2, q3, q4, q5.trans k5, q6.trans k6⟩)
  simpa using hstep
theorem region_drawn {call : CallF} (hcall : CallSound P B0 w0 call) (hro : RoOk call) (hm : P.follows .mixedOrders = true) {rd : Option Nat} {n id : Nat} {all : Array Oper} {md : Nat → Md} {as : List AOper} {pre : List Nat} {st st' : St} {a : Act}
  (hpre : predsFrom [] all.toList = some pre) (hco : compOpers P all.toList md 0 all.toList = some as) (hok : drawOk pre as = true) (h : At P B0 w0 G k nl st.sig w) (hR : TmpsRel G k nl st.tmps a) (hd : ∀ o, o ∈ as → ∀ t, o.dst = some t → t < a.tmps.size) (hs : ops call as st = some st')
  {Q : Exit → Act → World → Prop} (hQ : ∀ a' w', PostTo P B0 w0 G k nl st.sig a st' a' w' → Q .normal a' w') : (Code.region id all true).wpIn (fenceOf rd) n P Q a w := by
 have hlen := (compOpers_get _ 0 _ hco).1
 refine wpIn_region_any hm ?_
 have hat : At P B0 w0 G k nl st.sig w.drew := ⟨h.rel.drew, h.len, h.cur⟩
 have hrem : remIx all.size (Array.replicate all.size false) = List.range as.length := by
  rw [hlen]
  simp only [Array.length_toList, remIx]
  rw [List.filter_eq_self]
  intro j hj
  have := List.mem_range.1 hj
  simp [Array.getD, this]
 have hrun : runIx call as (remIx all.size (Array.replicate all.size false)) st = some st' := by
  rw [hrem, runIx_range]
  exact hs
 refine drawn_sound hcall hro hco (preOk_of hpre) hok all.size _ G st a _ (by simp) ?_ ?_ hrun hat hR hd hQ
 ·rw [hrem, hlen]; simp
 ·intro i j hj
  by_cases hlt : j < all.size
  ·simp [Array.getD, hlt] at hj
  ·simp [Array.getD, hlt] at hj
theorem region_sound {call : CallF} (hcall : CallSound P B0 w0 call) (hro : RoOk call) (hm : P.follows .mixedOrders = true) {rd : Option Nat} {n id : Nat} {all : Array Oper} {drawn : Bool} {as : List AOper} {n0 : Nat} {st st' : St} {a : Act}
  {mu : Bool} (hc : compRegion P mu all.toList drawn = some (n0, as)) (h : At P B0 w0 G k nl st.sig w) (hR : TmpsRel G k nl st.tmps a) (hd : ∀ o, o ∈ as → ∀ t, o.dst = some t → t < a.tmps.size) (hs : ops call as st = some st')
  {Q : Exit → Act → World → Prop} (hQ : ∀ a' w', PostTo P B0 w0 G k nl st.sig a st' a' w' → Q .normal a' w') : (Code.region id all drawn).wpIn (fenceOf rd) n P Q a w := by
 cases drawn with
 | false =>
  simp only [compRegion, Bool.false_eq_true, if_false] at hc
  obtain ⟨as', hc', he⟩ := Option.map_eq_some_iff.1 hc
  injection he with _ he
  subst he
  refine wpIn_region_list ?_
  have := ops_sound hcall hro (rd := rd) (n := n) (Q := Q) all.toList 0 as' G st st' a w hc' h hR hd hs hQ
  simpa using this
 | true =>
  simp only [compRegion, if_true] at hc
  split at hc
  ·cases hc
  rename_i pre hpre
  split at hc
  ·rename_i as' hco
   split at hc
   ·rename_i hok
    injection hc with hc
    injection hc with _ hc
    subst hc
    exact region_drawn hcall hro hm hpre hco hok h hR hd hs hQ
   ·split at hc
    ·rename_i as2 hco2
     split at hc
     ·rename_i hok
      injection hc with hc
      injection hc with _ hc
      subst hc
      exact region_drawn hcall hro hm hpre hco2 hok h hR hd hs hQ
     ·split at hc
      ·split at hc
       ·rename_i as3 hco3
        split at hc
        ·rename_i hok
         injection hc with hc
         injection hc with _ hc
         subst hc
         exact region_drawn hcall hro hm hpre hco3 hok h hR hd hs hQ
        ·cases hc
       ·cases hc
      ·cases hc
    ·cases hc
  ·cases hc
end
end Go.Ax

/-
  Loops over functions: their records.
-/
namespace Go.Ax
open Go.RowKit
section
variable {P : Program} {B0 : Nat} {w0 : World} {G : Ghost} {k nl : Nat} {w : World} {s : Sig}
theorem alloc_imm (h : SRel P B0 w0 G s w) (o : Obj) {b i : Nat} {v : Value} (e : G.I b i = some v) : (w.alloc o).cell? ⟨b, i, none⟩ = some v := by
 have hlt := h.I_lt e
 rw [World.cell?_alloc_lt _ _ _ (by exact hlt)]
 exact h.imm b i v e
theorem mark_sound (h : At P B0 w0 G k nl s w) : ∃ G', At P B0 w0 G' k nl s (w.alloc (.deferred (some []))) ∧ GLe k s.loops.length G G' ∧ G'.loops = G.loops ∧
  ∃ gr, G.acts[k]? = some gr ∧ G'.acts[k]? = some { gr with marks := gr.marks ++ [w.heap.size] } := by
 obtain ⟨r, gr, hr, hg⟩ := h.rec_ (Nat.le_refl k)
 have hrr := h.rel.rec_ k r gr hr hg
 have hlen : G.acts.length = k + 1 := by rw [h.rel.len, h.len]
 let G' : Ghost := { G with acts := G.acts.modify k fun q => { q with marks := q.marks ++ [w.heap.size] }, own := fun b => if b = w.heap.size then some (.mark k gr.marks.length) else G.own b }
 have hga : G'.acts[k]? = some { gr with marks := gr.marks ++ [w.heap.size] } := by
  show (G.acts.modify k _)[k]? = _
  rw [modify_get, if_pos rfl, hg]; rfl
 have hold : ∀ d, d ≠ k → G'.acts[d]? = G.acts[d]? := fun d hd => by
  show (G.acts.modify k _)[d]? = _
  rw [modify_get, if_neg (Ne.symm hd)]
 have hle : ∀ k' nl', k' ≤ k → GLe k' nl' G G' := fun k' nl' hk' => ⟨fun _ _ _ e => e, fun d q hd e => by
  by_cases hdk : d = k
  ·subst hdk
   rw [hg] at e
   injection e with e
   subst e
   exact ⟨_, hga, ⟨fun _ _ e => e, fun _ T e => ⟨T, e, .refl T⟩, rfl, fun _ _ e => e⟩, fun hlt => by omega⟩
  ·exact ⟨q, by rw [hold d hdk]; exact e, .refl q, fun _ => rfl⟩, fun _ _ _ e => e⟩
 have hko : KeepsOwn (fun _ => False) G w G' (w.alloc (.deferred (some []))) := fun b o e _ => by
  have hlt := h.rel.ownlt b o e
  exact ⟨by simp only [G']; rw [if_neg (by omega)]; exact e, Below.heap_alloc _ _ _ hlt, fun _ e => e⟩
 have hs : SRel P B0 w0 G' s (w.alloc (.deferred (some []))) := by
  refine ⟨fun b i v e => alloc_imm h.rel _ e, by simp [G', h.rel.len], h.rel.llen, fun d q gq h1 h2 => ?_, fun l lp q h1 h2 => ?_, fun d q h1 => ?_, fun d d' q q' hd h1 h2 => ?_, h.rel.below.alloc h.rel.low _, by have := h.rel.low; simp; omega, fun b o e => ?_⟩
  ·have hdk : d ≤ k := by have := (List.getElem?_eq_some_iff.1 h1).1; rw [h.len] at this; omega
   by_cases hd : d = k
   ·subst hd
    rw [hga] at h2
    injection h2 with h2
    subst h2
    rw [hr] at h1
    injection h1 with h1
    subst h1
    have hkeep := hrr.keep (hle d gr.nl (Nat.le_refl _)) hko (fun o ho => ho.elim)
    refine ⟨hkeep.blen, hkeep.tlen, hkeep.box, hkeep.full, hkeep.tok, fun i b e => ?_, hkeep.gsl⟩
    rcases get_push e with ⟨_, e⟩ | ⟨hi, rfl⟩
    ·exact hkeep.mark i b e
    ·subst hi
     exact ⟨h.rel.low, by simp [G'], World.alloc_heap_new w _⟩
   ·rw [hold d hd] at h2
    exact (h.rel.rec_ d q gq h1 h2).keep (hle d _ hdk) hko (fun o ho => ho.elim)
  ·have hq := h.rel.loop l lp q h1 h2
   obtain ⟨k1, k2, _⟩ := hko _ _ hq.2.1 (fun x => x)
   exact hq.keep (fun k' nl' a1 _ => hle k' nl' (by omega)) (by simp [G']) k1 k2
  ·by_cases hd : d = k
   ·subst hd
    rw [hga] at h1
    injection h1 with h1
    subst h1
    exact h.rel.nls d gr hg
   ·rw [hold d hd] at h1
    exact h.rel.nls d q h1
  ·have get : ∀ (d : Nat) (q : GRec), G'.acts[d]? = some q → ∃ q0, G.acts[d]? = some q0 ∧ q.nl = q0.nl := fun d q e => by
    by_cases hd : d = k
    ·subst hd
     rw [hga] at e
     injection e with e
     subst e
     exact ⟨gr, hg, rfl⟩
    ·rw [hold d hd] at e
     exact ⟨q, e, rfl⟩
   obtain ⟨q0, a1, a2⟩ := get d q h1
   obtain ⟨q0', a1', a2'⟩ := get d' q' h2
   rw [a2, a2']
   exact h.rel.nlm d d' q0 q0' hd a1 a1'
  ·simp only [G'] at e
   split at e
   ·rename_i hb; subst hb; simp
   ·have := h.rel.ownlt b o e; simp; omega
 exact ⟨G', h.to hs (hle k nl (Nat.le_refl _)) rfl, hle k _ (Nat.le_refl _), rfl, gr, hg, hga⟩
theorem enter_sound (h : At P B0 w0 G k nl s w) (hll : s.loops.length = nl) {lp : ALoop} {rc : Loop} (h1 : rc.state = .ready ∧ lp.ready = true ∧ lp.pend = none ∧ rc.pending = none) (hp : rc.params.toList = lp.params) {mu : Bool} (ha : comp P mu rc.assign = some lp.assign)
  (hb : comp P mu rc.body = some lp.body) (ta : tmpsOk rc.tmps.size lp.assign = true) (tb : tmpsOk rc.tmps.size lp.body = true) (tp : ∀ p, p ∈ lp.params → p < rc.tmps.size) (hR : ∀ t, Rel G k nl (lp.tmps t) (rc.tmps.getD t Go.undef)) :
  ∃ G', At P B0 w0 G' k nl (enterLoop s lp) (w.alloc (.loop rc)) ∧ GLe (k + 1) nl G G' ∧ G'.acts = G.acts ∧ G'.loops = G.loops ++ [w.heap.size] := by
 let G' : Ghost := { G with loops := G.loops ++ [w.heap.size], own := fun b => if b = w.heap.size then some (.loop nl) else G.own b }
 have hgl : G.loops.length = nl := by rw [h.rel.llen, hll]
 have hle : ∀ k' nl', GLe k' nl' G G' := fun k' nl' => ⟨fun _ _ _ e => e, fun d q hd e => ⟨q, e, .refl q, fun _ => rfl⟩, fun l r _ e => get_old e⟩
 have hko : KeepsOwn (fun _ => False) G w G' (w.alloc (.loop rc)) := fun b o e _ => by
  have hlt := h.rel.ownlt b o e
  exact ⟨by simp only [G']; rw [if_neg (by omega)]; exact e, Below.heap_alloc _ _ _ hlt, fun _ e => e⟩
 have hlen : G.acts.length = k + 1 := by rw [h.rel.len, h.len]
 have hs : SRel P B0 w0 G' (enterLoop s lp) (w.alloc (.loop rc)) := by
  refine ⟨fun b i v e => alloc_imm h.rel _ e, h.rel.len, by simp [G', enterLoop, h.rel.llen], fun d q gq a1 a2 => ?_, fun l q r a1 a2 => ?_, fun d q a1 => ?_, h.rel.nlm, h.rel.below.alloc h.rel.low _, by have := h.rel.low; simp; omega, fun b o e => ?_⟩
  ·exact (h.rel.rec_ d q gq a1 a2).keep (hle d _) hko (fun o ho => ho.elim)
  ·rcases get_push a1 with ⟨hl, a1⟩ | ⟨hl, rfl⟩
   ·rcases get_push a2 with ⟨_, a2⟩ | ⟨hl2, _⟩
    ·have hq := h.rel.loop l q r a1 a2
     obtain ⟨k1, k2, _⟩ := hko _ _ hq.2.1 (fun x => x)
     exact hq.keep (fun k' nl' _ _ => hle k' nl') (Nat.le_refl _) k1 k2
    ·omega
   ·have hr : r = w.heap.size := by
     rcases get_push a2 with ⟨hl2, _⟩ | ⟨_, e⟩
     ·omega
     ·exact e
    subst hr
    have hlnl : l = nl := by omega
    subst hlnl
    refine ⟨h.rel.low, by simp [G'], rc, World.alloc_heap_new w _, fun _ => ⟨h1.1, h1.2.2.1⟩, fun e => ?_, ?_, ?_, hp, ⟨mu, ha, hb⟩, ta, tb, tp, k, l, ?_, Nat.le_refl _, fun d gq e hlt => ?_, fun t => (hR t).mono (hle _ _) (Nat.le_refl _) (Nat.le_refl _)⟩
    ·rw [h1.2.1] at e; cases e
    ·rw [h1.2.2.2, h1.2.2.1]; rfl
    ·rw [h1.2.2.1]; simp
    ·show k + 1 ≤ G.acts.length
     omega
    ·have e' : G.acts[d]? = some gq := e
     have := h.rel.nls d gq e'
     omega
  ·have := h.rel.nls d q a1
   simp [enterLoop]; omega
  ·simp only [G'] at e
   split at e
   ·rename_i hb; subst hb; simp
   ·have := h.rel.ownlt b o e; simp; omega
 obtain ⟨gr, g1, g2⟩ := h.cur
 exact ⟨G', ⟨hs, h.len, gr, g1, g2⟩, hle _ _, rfl, rfl⟩
theorem setLoop_sound (h : SRel P B0 w0 G s w) {l r : Nat} {lp lp' : ALoop} {rc rc' : Loop} (hl : s.loops[l]? = some lp) (hr : G.loops[l]? = some r) (hrc : w.heap[r]? = some (.loop rc)) {f : ALoop → ALoop} (hf : f lp = lp') (ho : LoopObj P G l lp' rc') :
  SRel P B0 w0 G (setLoop s l f) (w.putObj r (.loop rc')) := by
 obtain ⟨b1, b2, _⟩ := h.loop l lp r hl hr
 have hko : KeepsOwn (· = .loop l) G w G (w.putObj r (.loop rc')) := fun b o e ho => ⟨e, World.putObj_heap_other (fun hb => ho (by subst hb; rw [b2] at e; injection e with e; exact e.symm)), fun _ e => e⟩
 have hrl : r < w.heap.size := (Array.getElem?_eq_some_iff.1 hrc).1
 refine ⟨fun b i v e => ?_, h.len, by simp [setLoop, h.llen], fun d q gq a1 a2 => ?_, fun l' q r' a1 a2 => ?_, fun d q a1 => ?_, h.nlm, ?_, by rw [World.putObj_size]; exact h.low, fun b o e => by rw [World.putObj_size]; exact h.ownlt b o e⟩
 ·have := h.imm b i v e
  by_cases hb : b = r
  ·subst hb
   simp only [World.cell?, hrc] at this
   cases this
  ·have hh : (w.putObj r (.loop rc')).heap[b]? = w.heap[b]? := World.putObj_heap_other hb
   rw [← this]
   simp only [World.cell?, hh]
 ·exact (h.rec_ d q gq a1 a2).keep (GLe.refl _ _ _) hko (fun o ho => by subst ho; exact ⟨fun _ e => (by cases e), fun _ e => (by cases e), fun _ e => (by cases e)⟩)
 ·simp only [setLoop, modify_get] at a1
  by_cases hll : l = l'
  ·subst hll
   rw [if_pos rfl, hl] at a1
   simp only [Option.map_some, Option.some.injEq] at a1
   rw [hr] at a2
   injection a2 with a2
   subst a2
   rw [hf] at a1
   subst a1
   exact ⟨b1, b2, rc', World.putObj_heap_same hrl, ho⟩
  ·rw [if_neg hll] at a1
   have hq := h.loop l' q r' a1 a2
   obtain ⟨k1, k2, _⟩ := hko _ _ hq.2.1 (fun e => hll (by injection e with e; exact e.symm))
   exact hq.keep (fun _ _ _ _ => GLe.refl _ _ _) (Nat.le_refl _) k1 k2
 ·have := h.nls d q a1
  simp [setLoop]; omega
 ·exact h.below.trans ⟨rfl, rfl, rfl, by simp, fun c hc => World.putObj_heap_other (by omega)⟩
theorem leave_sound (h : At P B0 w0 G k nl s w) (hll : s.loops.length = nl + 1) {r : Nat} {lp : ALoop} {rc : Loop} {o' : Obj} (hl : s.loops[nl]? = some lp) (hr : G.loops[nl]? = some r) (hrc : w.heap[r]? = some (.loop rc)) :
  ∃ G', At P B0 w0 G' k nl { s with loops := s.loops.take nl } (w.putObj r o') ∧ GLe (k + 1) nl G G' ∧ G'.acts = G.acts := by
 obtain ⟨b1, b2, _⟩ := h.rel.loop nl lp r hl hr
 let G' : Ghost := { G with loops := G.loops.take nl, own := fun b => if b = r then none else G.own b }
 have hle : ∀ k' nl', nl' ≤ nl → GLe k' nl' G G' := fun k' nl' hn => ⟨fun _ _ _ e => e, fun d q hd e => ⟨q, e, .refl q, fun _ => rfl⟩, fun l r hlt e => by
  show (G.loops.take nl)[l]? = _
  rw [List.getElem?_take, if_pos (by omega)]
  exact e⟩
 have hko : KeepsOwn (· = .loop nl) G w G' (w.putObj r o') := fun b o e ho => by
  have hb : b ≠ r := fun hb => ho (by subst hb; rw [b2] at e; injection e with e; exact e.symm)
  exact ⟨by simp only [G']; rw [if_neg hb]; exact e, World.putObj_heap_other hb, fun _ e => e⟩
 have hlen : G.acts.length = k + 1 := by rw [h.rel.len, h.len]
 obtain ⟨gk, g1, g2⟩ := h.cur
 have hnls : ∀ (d : Nat) (q : GRec), G.acts[d]? = some q → q.nl ≤ nl := fun d q e => by
  have hd : d ≤ k := by have := (List.getElem?_eq_some_iff.1 e).1; omega
  rw [← g2]
  exact h.rel.nlm d k q gk hd e g1
 have hs : SRel P B0 w0 G' { s with loops := s.loops.take nl } (w.putObj r o') := by
  refine ⟨fun b i v e => ?_, h.rel.len, by simp [G', h.rel.llen], fun d q gq a1 a2 => ?_, fun l' q r' a1 a2 => ?_, fun d q a1 => ?_, h.rel.nlm, ?_, by rw [World.putObj_size]; exact h.rel.low, fun b o e => ?_⟩
  ·have := h.rel.imm b i v e
   by_cases hb : b = r
   ·subst hb
    simp only [World.cell?, hrc] at this
    cases this
   ·have hh : (w.putObj r o').heap[b]? = w.heap[b]? := World.putObj_heap_other hb
    rw [← this]
    simp only [World.cell?, hh]
  ·exact (h.rel.rec_ d q gq a1 a2).keep (hle d _ (hnls d gq a2)) hko (fun o ho => by subst ho; exact ⟨fun _ e => (by cases e), fun _ e => (by cases e), fun _ e => (by cases e)⟩)
  ·have a1' : (s.loops.take nl)[l']? = some q := a1
   have a2' : (G.loops.take nl)[l']? = some r' := a2
   rw [List.getElem?_take] at a1' a2'
   split at a1'
   ·rename_i hlt
    rw [if_pos hlt] at a2'
    have hq := h.rel.loop l' q r' a1' a2'
    obtain ⟨k1, k2, _⟩ := hko _ _ hq.2.1 (fun e => by injection e with e; omega)
    exact hq.keep (fun k' nl' _ hn => hle k' nl' (by omega)) (Nat.le_refl _) k1 k2
   ·cases a1'
  ·have a1' : G.acts[d]? = some q := a1
   have := hnls d q a1'
   simp; omega
  ·exact h.rel.below.trans ⟨rfl, rfl, rfl, by simp, fun c hc => World.putObj_heap_other (by omega)⟩
  ·rw [World.putObj_size]
   simp only [G'] at e
   split at e
   ·cases e
   ·exact h.rel.ownlt b o e
 exact ⟨G', ⟨hs, h.len, gk, g1, g2⟩, hle _ _ (Nat.le_refl _), rfl⟩
end
end Go.Ax

/-
  Code.
-/
namespace Go.Ax
open Go.RowKit
def exitOf : AExit → Exit
 | .normal => .normal
 | .exit id => .exit id
 | .ret => .ret
section
variable {P : Program} {B0 : Nat} {w0 : World} {G : Ghost} {k nl : Nat} {w : World} {s : Sig}
def RoundAt (rd : Option Nat) (G : Ghost) (nl : Nat) : Prop := ∀ r, rd = some r → ∃ l : Nat, l < nl ∧ G.loops[l]? = some r
def Defs (rd : Option Nat) (G : Ghost) (k : Nat) (a : Act) : Prop := rd = none → ∃ gr, G.acts[k]? = some gr ∧ a.defers = (gr.marks.map fun b => (⟨.collected b, #[]⟩ : Deferred)).reverse
def ExecPost (P : Program) (B0 : Nat) (w0 : World) (rd : Option Nat) (G : Ghost) (k nl : Nat) (a : Act) (e : AExit) (st' : St) : Exit → Act → World → Prop := fun x a' w' =>
 x = exitOf e ∧ ∃ G', At P B0 w0 G' k nl st'.sig w' ∧ GLe k nl G G' ∧ st'.sig.loops.length = nl ∧ TmpsRel G' k nl st'.tmps a' ∧ a'.tmps.size = a.tmps.size ∧ Defs rd G' k a'
theorem RoundAt.mono {rd : Option Nat} {G' : Ghost} (h : RoundAt rd G nl) (hle : GLe k nl G G') : RoundAt rd G' nl := fun r e => by
 obtain ⟨l, h1, h2⟩ := h r e
 exact ⟨l, h1, hle.loops l r h1 h2⟩
theorem Defs.mono {rd : Option Nat} {G' : Ghost} {a a' : Act} (h : Defs rd G k a) (hle : GLe (k + 1) nl G G') (hd : a'.defers = a.defers) : Defs rd G' k a' := fun e => by
 obtain ⟨gr, h1, h2⟩ := h e
 obtain ⟨gr', g1, _, g3⟩ := hle.acts k gr (by omega) h1
 exact ⟨gr', g1, by rw [hd, h2, g3 (by omega)]⟩
theorem entered {rd : Option Nat} {a : Act} (h : At P B0 w0 G k nl s w) (hll : s.loops.length = nl) (hrd : RoundAt rd G nl) (hdf : Defs rd G k a) (ps : Array Tmp) (assign body : Code) :
  ∃ wm Gm mark, At P B0 w0 Gm k nl s wm ∧ GLe k nl G Gm ∧ Gm.loops = G.loops ∧ Defs rd Gm k { a with defers := mark ++ a.defers } ∧ ∀ fn, ∃ rc : Loop, (Instr.enterLoop fn a.tmps ps assign body rd).run P w = .ok (wm.heap.size, mark) (wm.alloc (.loop rc)) ∧
   rc.state = .ready ∧ rc.pending = none ∧ rc.tmps = a.tmps ∧ rc.params = ps ∧ rc.assign = assign ∧ rc.body = body := by
 cases rd with
 | none =>
  obtain ⟨Gm, g1, g2, g3, gr, g4, g5⟩ := mark_sound h
  obtain ⟨gr', e1, e2⟩ := hdf rfl
  rw [g4] at e1
  injection e1 with e1
  subst e1
  refine ⟨_, Gm, [{ target := .collected w.heap.size, args := #[] }], g1, by rw [hll] at g2; exact g2, g3, fun _ => ⟨_, g5, ?_⟩, fun fn => ⟨{ state := .ready, pending := none, fn, tmps := a.tmps, params := ps, assign, body, defers := w.heap.size }, ?_, rfl, rfl, rfl, rfl, rfl, rfl⟩⟩
  ·simp [e2]
  ·have := run_enterLoop_outer (P := P) (w := w) fn a.tmps ps assign body
   rw [this]
   simp
 | some r0 =>
  obtain ⟨l, h1, h2⟩ := hrd r0 rfl
  have hlt : l < s.loops.length := by omega
  obtain ⟨_, _, rc0, h3, _⟩ := h.rel.loop l _ r0 (List.getElem?_eq_getElem hlt) h2
  refine ⟨w, G, [], h, .refl _ _ _, rfl, fun e => (by cases e), fun fn => ⟨{ state := .ready, pending := none, fn, tmps := a.tmps, params := ps, assign, body, defers := rc0.defers }, ?_, rfl, rfl, rfl, rfl, rfl, rfl⟩⟩
  have := run_getLoop (P := P) h3
  unfold Instr.enterLoop
  simp only [Sem.run_bind, this, run_newObj_alloc, Result.andThen, Sem.run_pure]
theorem rangeFunc_sound {call : CallF} (hcall : CallSound P B0 w0 call) {rd : Option Nat} {n : Nat} {f : Operand} {af : AOpd} {ps : Array Tmp} {assign body : Code} {aas ab : ACode} {st st' : St} {a : Act} {e : AExit} {lf : Nat}
  (h : At P B0 w0 G k nl st.sig w) (hll : st.sig.loops.length = nl) (hR : TmpsRel G k nl st.tmps a) (hrd : RoundAt rd G nl) (hdf : Defs rd G k a) (cf : compOpd f = some af) {mu : Bool} (ca : comp P mu assign = some aas) (cb : comp P mu body = some ab)
  (tp : ∀ p, p ∈ ps.toList → p < a.tmps.size) (ta : tmpsOk a.tmps.size aas = true) (tb : tmpsOk a.tmps.size ab = true) (he : exec call lf (.rangeFunc af ps.toList aas ab) st = some (e, st')) :
  (Code.rangeFunc f ps assign body).wpIn (fenceOf rd) n P (ExecPost P B0 w0 rd G k nl a e st') a w := by
 simp only [exec] at he
 split at he
 case h_2 => cases he
 rename_i g first caps hfn
 split at he
 case h_2 => cases he
 rename_i res s hc
 split at he
 case h_2 => cases he
 rename_i pe s1 hlv
 injection he with he
 injection he with he1 he2
 subst he1 he2
 rw [hll] at hc hlv
 have hfr := opd_rel cf hR
 rw [hfn] at hfr
 obtain ⟨a1, a2, hfv, l1, l2, r1, r2⟩ := hfr.inv_fn
 obtain ⟨wm, Gm, mark, m1, m2, m3, m4, m5⟩ := entered h hll hrd hdf ps assign body
 refine wpIn_rangeFunc fun fn _ => ?_
 obtain ⟨rc, q1, q2, q3, q4, q5, q6, q7⟩ := m5 fn
 obtain ⟨G1, e1, e2, e3, e4⟩ := enter_sound (lp := ⟨true, none, st.tmps, ps.toList, aas, ab⟩) (rc := rc) m1 hll ⟨q2, rfl, rfl, q3⟩ (by rw [q5]) (by rw [q6]; exact ca) (by rw [q7]; exact cb) (by rw [q4]; exact ta) (by rw [q4]; exact tb) (by rw [q4]; exact tp)
  (fun t => by rw [q4]; exact (hR t).mono m2 (Nat.le_refl _) (Nat.le_refl _))
 have hG1 : GLe k nl G G1 := m2.trans (e2.less (by omega) (Nat.le_refl _))
 have hgl : Gm.loops.length = nl := by rw [m1.rel.llen, hll]
 have hnew : G1.loops[nl]? = some wm.heap.size := by rw [e4, List.getElem?_append_right (by omega)]; simp [hgl]
 have hcs := hcall.fn G1 k (nl + 1) _ _ g (first ++ .yield nl :: caps) (a1 ++ #[.func (.yield wm.heap.size) #[] #[]] ++ a2) res s e1.rel (by simp [enterLoop, h.len]) (by simp [enterLoop, h.len]) (by simp [enterLoop, hll]) (by simp [l1, l2]; omega) (fun i hi => by
  rw [getD_append, getD_append]
  simp only [List.length_append, List.length_cons] at hi
  by_cases h1 : i < first.length
  ·rw [if_pos (by simp; omega), if_pos (by omega)]
   have e : (first ++ AV.yield nl :: caps)[i] = first[i] := List.getElem_append_left h1
   rw [e]
   exact .cl ((r1 i h1).mono hG1.I)
  ·by_cases h2 : i = first.length
   ·subst h2
    rw [if_pos (by simp; omega), if_neg (by omega)]
    have e : (first ++ AV.yield nl :: caps)[first.length] = .yield nl := by
     rw [List.getElem_append_right (Nat.le_refl _)]
     simp
    have e' : (#[Value.func (.yield wm.heap.size) #[] #[]] : Array Value).getD (first.length - a1.size) Go.undef = .func (.yield wm.heap.size) #[] #[] := by rw [l1, Nat.sub_self]; rfl
    rw [e, e']
    exact .yield (by omega) hnew
   ·rw [if_neg (by simp; omega)]
    have e : (first ++ AV.yield nl :: caps)[i] = caps[i - (first.length + 1)]'(by omega) := by
     rw [List.getElem_append_right (by omega)]
     have : i - first.length = (i - (first.length + 1)) + 1 := by omega
     simp only [this, List.getElem_cons_succ]
    have e' : (a1 ++ #[Value.func (.yield wm.heap.size) #[] #[]]).size = first.length + 1 := by simp [l1]
    rw [e, e']
    exact (r2 _ _).mono hG1 (Nat.le_refl _) (Nat.le_succ _)) hc
 obtain ⟨hbody, hcalls⟩ := hcs
 have hres : (resolve a.eval (rangeCall f wm.heap.size) 0).run P (wm.alloc (.loop rc)) = .ok { target := .fn (.func g) a2, args := a1 ++ #[.func (.yield wm.heap.size) #[] #[]] } (wm.alloc (.loop rc)) := by
  have hmap : (rangeCall f wm.heap.size).args.map a.eval = #[.func (.yield wm.heap.size) #[] #[]] := by simp [Act.eval]
  simp only [resolve, hfv, hmap, ofValue_run (P := P) rfl]
 refine ⟨_, mark, _, _, _, g, _, _, by rw [fenceOf_round]; exact q1, hres, fun f' _ => fenceOf_fn rd f', hbody.run _ _, (by rw [fenceOf_depth]; intro h; cases h), ?_⟩
 refine CallsIn.mono (fenceOf_calls rd hcalls) fun en w3 hen => ?_
 obtain ⟨z, rfl, G2, c1, c2, c3, c4, c5⟩ := hen
 have hat2 : At P B0 w0 G2 k nl s w3 := by
  have hl0 : (enterLoop st.sig ⟨true, none, st.tmps, ps.toList, aas, ab⟩).loops.length = nl + 1 := by simp [enterLoop, hll]
  exact e1.to c1 (c4.less (by omega) (by omega)) c2
 have hl2 : s.loops.length = nl + 1 := by rw [c3]; simp [enterLoop, hll]
 have hl0 : (enterLoop st.sig ⟨true, none, st.tmps, ps.toList, aas, ab⟩).loops.length = nl + 1 := by simp [enterLoop, hll]
 unfold leaveLoop at hlv
 rw [if_pos hl2] at hlv
 split at hlv
 case h_2 => cases hlv
 rename_i lp hlp
 split at hlv
 case isFalse => cases hlv
 rename_i hready
 injection hlv with hlv
 injection hlv with hv1 hv2
 subst hv1 hv2
 have hrec : G2.loops[nl]? = some wm.heap.size := c4.loops nl _ (by omega) hnew
 obtain ⟨b1, b2, rc2, b3, b4⟩ := c1.loop nl lp _ hlp hrec
 obtain ⟨o1, o2, o3, o4, _⟩ := b4
 have hbusy : rc2.state ≠ .busy := by
  rcases hready with hr | hr
  ·rw [(o1 hr).1]; simp
  ·cases hrr : lp.ready with
   | true => rw [(o1 hrr).1]; simp
   | false => rw [o2 hrr, if_pos hr]; simp
 have hend := run_endLoop (P := P) b3 hbusy
 obtain ⟨G3, d1, d2, d3⟩ := leave_sound (o' := .loop { rc2 with state := .exhausted }) hat2 hl2 hlp hrec b3
 have hG2 : GLe (k + 1) nl Gm G2 := e2.trans (c4.less (Nat.le_refl _) (by omega))
 have hG3 : GLe (k + 1) nl Gm G3 := hG2.trans d2
 have hGG : GLe k nl G G3 := m2.trans (hG3.less (by omega) (Nat.le_refl _))
 have hpost : ∀ ex, ex = exitOf (lp.pend.getD .normal) → ExecPost P B0 w0 rd G k nl a (lp.pend.getD .normal) ⟨st.tmps, { s with loops := s.loops.take nl }⟩ ex { a with defers := mark ++ a.defers } (w3.putObj wm.heap.size (.loop { rc2 with state := .exhausted })) := fun ex hex =>
  ⟨hex, G3, d1, hGG, by simp [hl2], fun t => (hR t).mono hGG (Nat.le_refl _) (Nat.le_refl _), rfl, m4.mono hG3 rfl⟩
 generalize w3.putObj wm.heap.size (.loop { rc2 with state := .exhausted }) = w4 at hpost hend
 refine ⟨rc2.pending, w4, hend, ?_⟩
 rw [o3]
 cases hpd : lp.pend with
 | none =>
  rw [hpd] at hpost
  exact hpost _ rfl
 | some pe =>
  rw [hpd] at hpost
  cases pe with
  | normal => exact absurd hpd o4
  | exit id => exact wpIn_exit (hpost _ rfl)
  | ret => exact wpIn_ret (hpost _ rfl)
theorem least {p : Nat → Prop} (h : ∃ m, p m) : ∃ m, p m ∧ ∀ j, j < m → ¬ p j := by
 obtain ⟨m, hm⟩ := h
 induction m using Nat.strongRecOn with
 | _ m ih =>
  by_cases hj : ∃ j, j < m ∧ p j
  ·obtain ⟨j, h1, h2⟩ := hj
   exact ih j h1 h2
  ·exact ⟨m, hm, fun j h1 h2 => hj ⟨j, h1, h2⟩⟩
theorem wpIn_loop_nat {F : Fence} {n : Nat} {c : Code} {Q : Exit → Act → World → Prop} {a : Act} {w : World} (D : Nat → Act → World → Prop) {m : Nat} (h0 : D m a w)
  (hs : ∀ m a w, D m a w → c.wpIn F n P (Exit.then (fun a' w' => ∃ j, j < m ∧ D j a' w') Q) a w) : (Code.loop c).wpIn F n P Q a w := by
 classical
 refine wpIn_loop (fun a w => ∃ m, D m a w) (fun a w => if h : ∃ m, D m a w then (least h).choose else 0) ⟨m, h0⟩ fun a w hI => ?_
 have hc := (least hI).choose_spec
 refine wpIn_mono (hs _ a w hc.1) fun e a' w' hq => ?_
 cases e with
 | normal =>
  obtain ⟨j, h1, h2⟩ := hq
  refine ⟨⟨j, h2⟩, ?_⟩
  rw [dif_pos hI, dif_pos ⟨j, h2⟩]
  have hc' := (least (p := fun m => D m a' w') ⟨j, h2⟩).choose_spec
  have : ¬ j < (least (p := fun m => D m a' w') ⟨j, h2⟩).choose := fun hlt => hc'.2 j hlt h2
  omega
 | _ => exact hq
theorem ExecPost.trans {rd : Option Nat} {G1 : Ghost} {a a1 : Act} {e : AExit} {st' : St} {x : Exit} {a' : Act} {w' : World} (hle : GLe k nl G G1) (hs : a1.tmps.size = a.tmps.size) (h : ExecPost P B0 w0 rd G1 k nl a1 e st' x a' w') :
  ExecPost P B0 w0 rd G k nl a e st' x a' w' := by
 obtain ⟨h1, G', h2, h3, h4, h5, h6, h7⟩ := h
 exact ⟨h1, G', h2, hle.trans h3, h4, h5, h6.trans hs, h7⟩
theorem exec_sound {call : CallF} (hcall : CallSound P B0 w0 call) (hro : RoOk call) (hm : P.follows .mixedOrders = true) {rd : Option Nat} {n lf : Nat} {mu : Bool} : ∀ (c : Code) (ac : ACode) (G : Ghost) (st st' : St) (a : Act) (w : World) (e : AExit), comp P mu c = some ac →
  At P B0 w0 G k nl st.sig w → st.sig.loops.length = nl → TmpsRel G k nl st.tmps a → tmpsOk a.tmps.size ac = true → RoundAt rd G nl → Defs rd G k a → exec call lf ac st = some (e, st') →
  c.wpIn (fenceOf rd) n P (ExecPost P B0 w0 rd G k nl a e st') a w := by
 intro c
 induction c with
 | skip =>
  intro ac G st st' a w e hc h hll hR ht hrd hdf he
  simp only [comp] at hc
  injection hc with hc
  subst hc
  simp only [exec] at he
  injection he with he
  injection he with h1 h2
  subst h1 h2
  exact wpIn_skip ⟨rfl, G, h, .refl _ _ _, hll, hR, rfl, hdf⟩
 | region id l drawn =>
  intro ac G st st' a w e hc h hll hR ht hrd hdf he
  simp only [comp] at hc
  obtain ⟨⟨n0, as⟩, has, rfl⟩ := Option.map_eq_some_iff.1 hc
  have key : ∀ (G : Ghost) (st : St), At P B0 w0 G k nl st.sig w → st.sig.loops.length = nl → TmpsRel G k nl st.tmps a → tmpsOk a.tmps.size (.region drawn as) = true → Defs rd G k a → exec call lf (.region drawn as) st = some (e, st') →
    (Code.region id l drawn).wpIn (fenceOf rd) n P (ExecPost P B0 w0 rd G k nl a e st') a w := fun G st h hll hR ht hdf he => by
   simp only [exec] at he
   obtain ⟨st1, hs, he⟩ := Option.map_eq_some_iff.1 he
   injection he with h1 h2
   subst h1 h2
   simp only [tmpsOk] at ht
   refine region_sound hcall hro hm has h hR (fun o ho t hd => ?_) hs fun a' w' hp => ?_
   ·have := List.all_eq_true.1 ht o ho
    rw [hd] at this
    simpa using this
   ·obtain ⟨G', g1, g2, g3, g4, g5, g6⟩ := hp
    rw [hll] at g2 g3
    exact ⟨rfl, G', g1, g2.less (by omega) (Nat.le_refl _), g3, g4, g5, hdf.mono g2 g6⟩
  cases n0 with
  | zero => exact key G st h hll hR ht hdf he
  | succ n0 =>
   obtain ⟨G1, r1, r2, r3, _⟩ := reserve_sound h (n0 + 1)
   simp only [reserved, tmpsOk, Bool.and_eq_true] at ht
   have he' : exec call lf (.region drawn as) ⟨st.tmps, st.sig.reserve (n0 + 1)⟩ = some (e, st') := by
    simpa [reserved, exec, ops, wantedT, opv, putT] using he
   rw [hll] at r2 r3
   have hle : GLe k nl G G1 := r2.less (by omega) (Nat.le_refl _)
   refine wpIn_mono (key G1 ⟨st.tmps, st.sig.reserve (n0 + 1)⟩ r1 r3 (fun t => (hR t).mono hle (Nat.le_refl _) (Nat.le_refl _)) ht.2 (hdf.mono r2 rfl) he') fun x a' w' hp => ?_
   obtain ⟨h1, G', h2, h3, h4, h5, h6, h7⟩ := hp
   exact ⟨h1, G', h2, hle.trans h3, h4, h5, h6, h7⟩
 | seq x y ihx ihy =>
  intro ac G st st' a w e hc h hll hR ht hrd hdf he
  simp only [comp] at hc
  split at hc
  case h_2 => cases hc
  rename_i ax ay e1 e2
  injection hc with hc
  subst hc
  simp only [tmpsOk, Bool.and_eq_true] at ht
  simp only [exec] at he
  split at he
  ·rename_i st1 hx
   refine wpIn_seq (wpIn_mono (ihx ax G st st1 a w .normal e1 h hll hR ht.1 hrd hdf hx) fun ex a1 w1 hp => ?_)
   obtain ⟨rfl, G1, g1, g2, g3, g4, g5, g6⟩ := hp
   exact wpIn_mono (ihy ay G1 st1 st' a1 w1 e e2 g1 g3 g4 (by rw [g5]; exact ht.2) (hrd.mono g2) g6 he) fun ex a2 w2 hq => hq.trans g2 g5
  ·rename_i hne
   refine wpIn_seq (wpIn_mono (ihx ax G st st' a w e e1 h hll hR ht.1 hrd hdf he) fun ex a1 w1 hp => ?_)
   have hx := hp.1
   subst hx
   cases e with
   | normal => exact absurd he (hne _)
   | exit id => exact hp
   | ret => exact hp
 | cond cc x y ihx ihy =>
  intro ac G st st' a w e hc h hll hR ht hrd hdf he
  simp only [comp] at hc
  split at hc
  case h_2 => cases hc
  rename_i z ax ay e0 e1 e2
  injection hc with hc
  subst hc
  simp only [tmpsOk, Bool.and_eq_true] at ht
  simp only [exec] at he
  split at he
  case h_2 => cases he
  rename_i t hz
  have hv := opd_rel e0 hR
  rw [hz] at hv
  refine wpIn_cond hv.inv_v ?_
  cases t with
  | true => exact ihx ax G st st' a w e e1 h hll hR ht.1 hrd hdf (by simpa using he)
  | false => exact ihy ay G st st' a w e e2 h hll hR ht.2 hrd hdf (by simpa using he)
 | block id x ih =>
  intro ac G st st' a w e hc h hll hR ht hrd hdf he
  simp only [comp] at hc
  obtain ⟨ax, e1, rfl⟩ := Option.map_eq_some_iff.1 hc
  simp only [tmpsOk] at ht
  simp only [exec] at he
  split at he
  ·rename_i j st1 hx
   refine wpIn_block (wpIn_mono (ih ax G st st1 a w (.exit j) e1 h hll hR ht hrd hdf hx) fun ex a1 w1 hp => ?_)
   obtain ⟨rfl, hp⟩ := hp
   simp only [exitOf, Exit.inBlock]
   split at he
   ·rename_i hj
    injection he with he
    injection he with h1 h2
    subst h1 h2
    rw [if_pos hj]
    exact ⟨rfl, hp⟩
   ·rename_i hj
    injection he with he
    injection he with h1 h2
    subst h1 h2
    rw [if_neg hj]
    exact ⟨rfl, hp⟩
  ·rename_i hne
   refine wpIn_block (wpIn_mono (ih ax G st st' a w e e1 h hll hR ht hrd hdf he) fun ex a1 w1 hp => ?_)
   have hx := hp.1
   subst hx
   cases e with
   | exit j => exact absurd he (hne _ _)
   | normal => exact hp
   | ret => exact hp
 | loop x ih =>
  intro ac G st st' a w e hc h hll hR ht hrd hdf he
  simp only [comp] at hc
  obtain ⟨ax, e1, rfl⟩ := Option.map_eq_some_iff.1 hc
  simp only [tmpsOk] at ht
  simp only [exec] at he
  refine wpIn_loop_nat (fun m a1 w1 => ∃ G1 st1, At P B0 w0 G1 k nl st1.sig w1 ∧ GLe k nl G G1 ∧ st1.sig.loops.length = nl ∧ TmpsRel G1 k nl st1.tmps a1 ∧ a1.tmps.size = a.tmps.size ∧ Defs rd G1 k a1 ∧ loopN (exec call lf ax) m st1 = some (e, st'))
   (m := lf) ⟨G, st, h, .refl _ _ _, hll, hR, rfl, hdf, he⟩ fun m a1 w1 hD => ?_
  obtain ⟨G1, st1, g1, g2, g3, g4, g5, g6, hl⟩ := hD
  cases m with
  | zero => simp [loopN] at hl
  | succ m =>
   simp only [loopN] at hl
   split at hl
   ·rename_i st2 hx
    refine wpIn_mono (ih ax G1 st1 st2 a1 w1 .normal e1 g1 g3 g4 (by rw [g5]; exact ht) (hrd.mono g2) g6 hx) fun ex a2 w2 hp => ?_
    obtain ⟨rfl, G2, q1, q2, q3, q4, q5, q6⟩ := hp
    exact ⟨m, by omega, G2, st2, q1, g2.trans q2, q3, q4, q5.trans g5, q6, hl⟩
   ·rename_i hne
    refine wpIn_mono (ih ax G1 st1 st' a1 w1 e e1 g1 g3 g4 (by rw [g5]; exact ht) (hrd.mono g2) g6 hl) fun ex a2 w2 hp => ?_
    have hx := hp.1
    subst hx
    cases e with
    | normal => exact absurd hl (hne _)
    | exit j => exact hp.trans g2 g5
    | ret => exact hp.trans g2 g5
 | rangeFunc f ps x y ihx ihy =>
  intro ac G st st' a w e hc h hll hR ht hrd hdf he
  simp only [comp] at hc
  split at hc
  case h_2 => cases hc
  rename_i z ax ay e0 e1 e2
  injection hc with hc
  subst hc
  simp only [tmpsOk, Bool.and_eq_true] at ht
  exact rangeFunc_sound hcall h hll hR hrd hdf e0 e1 e2 (fun p hp => by simpa using List.all_eq_true.1 ht.1.1 p hp) ht.1.2 ht.2 he
 | exit id =>
  intro ac G st st' a w e hc h hll hR ht hrd hdf he
  simp only [comp] at hc
  injection hc with hc
  subst hc
  simp only [exec] at he
  injection he with he
  injection he with h1 h2
  subst h1 h2
  exact wpIn_exit ⟨rfl, G, h, .refl _ _ _, hll, hR, rfl, hdf⟩
 | ret =>
  intro ac G st st' a w e hc h hll hR ht hrd hdf he
  simp only [comp] at hc
  injection hc with hc
  subst hc
  simp only [exec] at he
  injection he with he
  injection he with h1 h2
  subst h1 h2
  exact wpIn_ret ⟨rfl, G, h, .refl _ _ _, hll, hR, rfl, hdf⟩
 | _ =>
  intro ac G st st' a w e hc
  simp [comp] at hc
end
end Go.Ax

/-
  What an execution may not write to.
-/
namespace Go.Ax
open Go.RowKit
theorem Fr.refl (s : Sig) : Fr s s := ⟨rfl, rfl, rfl, rfl, fun _ _ => rfl, fun _ _ => rfl⟩
theorem Fr.trans {a b c : Sig} (h : Fr a b) (k : Fr b c) : Fr a c :=
 ⟨k.alen.trans h.alen, k.llen.trans h.llen, k.ro.trans h.ro, k.lro.trans h.lro, fun d hd => (k.acts d (by rw [h.ro]; exact hd)).trans (h.acts d hd), fun l hl => (k.loops l (by rw [h.lro]; exact hl)).trans (h.loops l hl)⟩
theorem Fr.onRec (s : Sig) {d : Nat} (hd : s.ro ≤ d) (f : Rec → Rec) : Fr s (s.onRec d f) :=
 ⟨by simp [Sig.onRec], rfl, rfl, rfl, fun d' h => by simp only [Sig.onRec, modify_get]; rw [if_neg (by omega)], fun _ _ => rfl⟩
theorem Fr.fit {m m' : Sig} {d : Nat} {x y : AV} (hd : m.ro ≤ d) (hc : m.ro ≤ m.cur) (h : m.fit d x = some (y, m')) : Fr m m' := by
 unfold Sig.fit at h
 split at h
 ·split at h
  ·injection h with h; injection h with _ h; subst h; exact .refl _
  ·split at h
   ·rename_i d' g es xs _ hcond
    injection h with h
    injection h with _ h
    subst h
    have h1 : Fr m (m.setTok d' g none) := Fr.onRec m (by rw [hcond.1]; exact hc) _
    exact h1.trans (Fr.onRec _ (by rw [h1.ro]; exact hd) _)
   ·injection h with h; injection h with _ h; subst h; exact .refl _
 ·split at h
  ·injection h with h; injection h with _ h; subst h; exact .refl _
  ·cases h
 ·split at h
  ·injection h with h; injection h with _ h; subst h; exact .refl _
  ·cases h
 ·obtain ⟨z, _, h⟩ := Option.map_eq_some_iff.1 h
  injection h with _ h
  subst h
  exact .refl _
theorem Fr.cur {m m' : Sig} (h : Fr m m') : m'.cur = m.cur := by simp [Sig.cur, h.alen]
theorem Fr.fitAll {d : Nat} : ∀ {xs ys : List AV} {m m' : Sig}, m.ro ≤ d → m.ro ≤ m.cur → m.fitAll d xs = some (ys, m') → Fr m m'
 | [], ys, m, m', _, _, h => by
  simp only [Sig.fitAll] at h
  injection h with h
  injection h with _ h
  subst h
  exact .refl _
 | x :: r, ys, m, m', hd, hc, h => by
  simp only [Sig.fitAll] at h
  split at h
  ·cases h
  ·rename_i y m1 h1
   have f1 := Fr.fit hd hc h1
   split at h
   ·cases h
   ·rename_i s m2 h2
    injection h with h
    injection h with _ h
    subst h
    exact f1.trans (Fr.fitAll (by rw [f1.ro]; exact hd) (by rw [f1.ro, f1.cur]; exact hc) h2)
theorem Fr.store {m m' : Sig} {n : Nat} {x y : AV} (hc : m.ro ≤ m.cur) (h : m.store n x y = some m') : Fr m m' := by
 unfold Sig.store at h
 split at h
 ·split at h
  ·rename_i hcond
   split at h
   ·cases h
   ·rename_i cs m1 h1
    have f1 : Fr m m1 := by
     split at h1
     ·injection h1 with h1; injection h1 with _ h1; subst h1; exact .refl _
     ·exact Fr.fitAll hcond.1 hc h1
    split at h
    ·cases h
    ·split at h
     ·injection h with h
      subst h
      exact f1.trans (Fr.onRec _ (by rw [f1.ro]; exact hcond.1) _)
     ·cases h
  ·cases h
 ·cases h
theorem Fr.newBox {m : Sig} (hc : m.ro ≤ m.cur) (cs : List AV) : Fr m (m.newBox cs).2 := Fr.onRec m hc _
theorem Fr.append {m m' : Sig} {es : Nat} {x y v : AV} (hc : m.ro ≤ m.cur) (h : appendOp m es x y = some (v, m')) : Fr m m' := by
 unfold appendOp at h
 split at h
 ·split at h
  ·injection h with h; injection h with _ h; subst h; exact .refl _
  ·split at h
   ·split at h
    ·injection h with h; injection h with _ h; subst h; exact Fr.onRec m hc _
    ·injection h with h; injection h with _ h; subst h; exact Fr.onRec m hc _
    ·split at h
     ·rename_i hcond
      injection h with h; injection h with _ h; subst h; exact Fr.onRec m hcond.1 _
     ·cases h
    ·cases h
   ·cases h
 ·cases h
theorem Fr.appendm {m m' : Sig} {es : Nat} {x y v : AV} (hc : m.ro ≤ m.cur) (h : appendmOp m es x y = some (v, m')) : Fr m m' := by
 unfold appendmOp at h
 split at h
 ·split at h
  ·split at h
   ·injection h with h; injection h with _ h; subst h; exact .refl _
   ·injection h with h; injection h with _ h; subst h; exact .refl _
   ·cases h
  ·split at h
   ·split at h
    ·split at h
     ·injection h with h; injection h with _ h; subst h; exact Fr.newBox hc _
     ·cases h
    ·split at h
     ·split at h
      ·split at h
       ·injection h with h; injection h with _ h; subst h; exact Fr.onRec m hc _
       ·cases h
      ·cases h
     ·cases h
    ·cases h
   ·cases h
 ·cases h
theorem Fr.copy {m m' : Sig} {x y v : AV} (hc : m.ro ≤ m.cur) (h : copyOp m x y = some (v, m')) : Fr m m' := by
 unfold copyOp at h
 split at h
 ·obtain ⟨_, _, h⟩ := Option.map_eq_some_iff.1 h
  injection h with _ h
  subst h
  exact .refl _
 ·split at h
  ·obtain ⟨_, _, h⟩ := Option.bind_eq_some_iff.1 h
   split at h
   ·injection h with h; injection h with _ h; subst h; exact .refl _
   ·obtain ⟨_, hs, h⟩ := Option.map_eq_some_iff.1 h
    injection h with _ h
    subst h
    exact Fr.store hc hs
  ·cases h
 ·cases h
theorem Fr.freeze {m m' : Sig} {x v : AV} (hc : m.ro ≤ m.cur) (h : freezeOp m x = some (v, m')) : Fr m m' := by
 unfold freezeOp at h
 split at h
 ·split at h
  ·obtain ⟨_, _, h⟩ := Option.bind_eq_some_iff.1 h
   split at h
   ·cases h
   ·split at h
    ·obtain ⟨_, _, h⟩ := Option.map_eq_some_iff.1 h
     injection h with _ h
     subst h
     exact Fr.onRec m hc _
    ·cases h
  ·cases h
 ·injection h with h; injection h with _ h; subst h; exact .refl _
 ·cases h
theorem Fr.buildFz {m m' : Sig} {es : Nat} {row : List AV} {x v : AV} (hc : m.ro ≤ m.cur) (h : buildFzOp m es row x = some (v, m')) : Fr m m' := by
 unfold buildFzOp at h
 obtain ⟨p, h1, h⟩ := Option.bind_eq_some_iff.1 h
 obtain ⟨_, _, h⟩ := Option.map_eq_some_iff.1 h
 injection h with _ h
 subst h
 exact Fr.freeze hc h1
theorem Fr.doCall {call : CallF} (hro : RoOk call) {ro : Bool} {m m' : Sig} {t : Target} {args : List AV} {v : AV} (h1 : m.ro ≤ m.acts.length) (h2 : m.lro ≤ m.loops.length) (h : doCall call ro m t args = some (v, m')) : Fr m m' := by
 unfold Ax.doCall at h
 split at h
 ·obtain ⟨p, _, h⟩ := Option.map_eq_some_iff.1 h
  injection h with _ h
  subst h
  exact .refl _
 ·exact hro _ _ _ _ _ h1 h2 h
theorem Fr.opv {call : CallF} (hro : RoOk call) {ρ : AOpd → AV} {m m' : Sig} {op : AOp} {v : AV} (h0 : 0 < m.acts.length) (hc : m.ro ≤ m.cur) (h2 : m.lro ≤ m.loops.length) (h : opv call ρ m op = some (v, m')) : Fr m m' := by
 have h1 : m.ro ≤ m.acts.length := by unfold Sig.cur at hc; omega
 have mp : ∀ {o : Option AV}, o.map (·, m) = some (v, m') → Fr m m' := fun e => by
  obtain ⟨_, q⟩ := map_pair e
  simp only at q
  subst q
  exact .refl _
 cases op <;> simp only [Ax.opv] at h <;> first
  | exact mp h
  | (injection h with h; injection h with _ h; subst h; first | exact .refl _ | exact Fr.newBox hc _; done)
  | exact Fr.doCall hro h1 h2 h
  | exact Fr.append hc h
  | exact Fr.appendm hc h
  | exact Fr.copy hc h
  | exact Fr.buildFz hc h
  | skip
 case box n x =>
  unfold boxOp at h
  split at h
  ·injection h with h
   have := Fr.newBox hc (ρ x).cells
   rw [h] at this
   exact this
  ·cases h
 case build => obtain ⟨_, _, h⟩ := Option.map_eq_some_iff.1 h; injection h with _ h; subst h; exact .refl _
 case buildSlice => obtain ⟨_, _, h⟩ := Option.map_eq_some_iff.1 h; injection h with _ h; subst h; exact .refl _
 case store =>
  obtain ⟨_, hs, h⟩ := Option.map_eq_some_iff.1 h
  injection h with _ h
  subst h
  exact Fr.store hc hs
 case eqv => obtain ⟨_, _, h⟩ := Option.map_eq_some_iff.1 h; injection h with _ h; subst h; exact .refl _
 case mkFn =>
  split at h
  ·injection h with h; injection h with _ h; subst h; exact .refl _
  ·cases h
 case mkSlice =>
  unfold mkSliceOp at h
  obtain ⟨_, _, h⟩ := Option.bind_eq_some_iff.1 h
  obtain ⟨_, _, h⟩ := Option.map_eq_some_iff.1 h
  split at h
  ·injection h with _ h
   subst h
   exact .refl _
  ·injection h with _ h
   subst h
   exact Fr.newBox hc _
 case alloc zs =>
  split at h
  ·cases h
  ·injection h with h
   have := Fr.newBox hc zs
   rw [h] at this
   exact this
 case reserve n =>
  injection h with h
  injection h with _ h
  subst h
  exact Fr.onRec m hc _
 case fill =>
  obtain ⟨_, hs, h⟩ := Option.map_eq_some_iff.1 h
  injection h with _ h
  subst h
  unfold fillOp at hs
  split at hs
  ·split at hs
   ·exact Fr.store hc hs
   ·cases hs
  ·cases hs
 case slot back zs =>
  obtain ⟨_, _, _, rfl⟩ := slotOp_spec h
  exact Fr.onRec m hc _
 case fcall => exact Fr.doCall hro h1 h2 (fcall_call h)
 case callo =>
  unfold calloOp at h
  split at h
  ·split at h
   ·rename_i hcond
    injection h with h
    injection h with _ h
    subst h
    exact Fr.onRec m hc _
   ·injection h with h
    injection h with _ h
    subst h
    exact .refl _
  ·exact mp h
  ·cases h
 case callv =>
  unfold callvOp at h
  split at h
  ·exact Fr.doCall hro h1 h2 h
  ·exact Fr.doCall hro h1 h2 h
  ·cases h
structure Open (s : Sig) : Prop where
 pos : 0 < s.acts.length
 cur : s.ro ≤ s.cur
 loops : s.lro ≤ s.loops.length
theorem Open.fr {s s' : Sig} (h : Open s) (f : Fr s s') : Open s' := ⟨by rw [f.alen]; exact h.pos, by rw [f.ro, f.cur]; exact h.cur, by rw [f.lro, f.llen]; exact h.loops⟩
theorem Fr.ops {call : CallF} (hro : RoOk call) : ∀ {l : List AOper} {st st' : St}, Open st.sig → ops call l st = some st' → Fr st.sig st'.sig
 | [], st, st', _, h => by
  simp only [Ax.ops] at h
  injection h with h
  subst h
  exact .refl _
 | o :: r, st, st', hop, h => by
  rw [ops_cons] at h
  obtain ⟨st1, h1, h2⟩ := Option.bind_eq_some_iff.1 h
  have f1 : Fr st.sig st1.sig := by
   unfold stepA at h1
   split at h1
   ·split at h1
    ·rename_i hv
     injection h1 with h1
     subst h1
     exact Fr.opv hro hop.pos hop.cur hop.loops hv
    ·cases h1
   ·injection h1 with h1
    subst h1
    exact .refl _
  exact f1.trans (Fr.ops hro (hop.fr f1) h2)
theorem Fr.loopN {f : St → Option (AExit × St)} (hf : ∀ st e st', Open st.sig → f st = some (e, st') → Fr st.sig st'.sig) : ∀ {m : Nat} {st : St} {e : AExit} {st' : St}, Open st.sig → loopN f m st = some (e, st') → Fr st.sig st'.sig
 | 0, _, _, _, _, h => by simp [Ax.loopN] at h
 | m + 1, st, e, st', hop, h => by
  simp only [Ax.loopN] at h
  split at h
  ·rename_i st1 h1
   have f1 := hf _ _ _ hop h1
   exact f1.trans (Fr.loopN hf (hop.fr f1) h)
  ·exact hf _ _ _ hop h
theorem Fr.exec {call : CallF} (hro : RoOk call) {lf : Nat} : ∀ {c : ACode} {st : St} {e : AExit} {st' : St}, Open st.sig → exec call lf c st = some (e, st') → Fr st.sig st'.sig := by
 intro c
 induction c with
 | skip => intro st e st' _ h; simp only [Ax.exec] at h; injection h with h; injection h with _ h; subst h; exact .refl _
 | exit => intro st e st' _ h; simp only [Ax.exec] at h; injection h with h; injection h with _ h; subst h; exact .refl _
 | ret => intro st e st' _ h; simp only [Ax.exec] at h; injection h with h; injection h with _ h; subst h; exact .refl _
 | region d l =>
  intro st e st' hop h
  simp only [Ax.exec] at h
  obtain ⟨st1, h1, h⟩ := Option.map_eq_some_iff.1 h
  injection h with _ h
  subst h
  exact Fr.ops hro hop h1
 | seq a b iha ihb =>
  intro st e st' hop h
  simp only [Ax.exec] at h
  split at h
  ·rename_i st1 h1
   have f1 := iha hop h1
   exact f1.trans (ihb (hop.fr f1) h)
  ·exact iha hop h
 | cond c a b iha ihb =>
  intro st e st' hop h
  simp only [Ax.exec] at h
  split at h
  ·split at h
   ·exact iha hop h
   ·exact ihb hop h
  ·cases h
 | block id a ih =>
  intro st e st' hop h
  simp only [Ax.exec] at h
  split at h
  ·rename_i j st1 h1
   have f1 := ih hop h1
   split at h
   ·injection h with h; injection h with _ h; subst h; exact f1
   ·injection h with h; injection h with _ h; subst h; exact f1
  ·exact ih hop h
 | loop a ih =>
  intro st e st' hop h
  simp only [Ax.exec] at h
  exact Fr.loopN (fun st e st' h1 h2 => ih h1 h2) hop h
 | rangeFunc f ps a b _ _ =>
  intro st e st' hop h
  simp only [Ax.exec] at h
  split at h
  case h_2 => cases h
  split at h
  case h_2 => cases h
  rename_i res s hc
  split at h
  case h_2 => cases h
  rename_i pe s1 hlv
  injection h with h
  injection h with _ h
  subst h
  have f1 := hro _ _ _ _ _ (by have := hop.cur; unfold Sig.cur at this; have := hop.pos; simp [enterLoop]; omega) (by have := hop.loops; simp [enterLoop]; omega) hc
  unfold leaveLoop at hlv
  split at hlv
  ·rename_i hlen
   split at hlv
   ·split at hlv
    ·injection hlv with hlv
     injection hlv with _ hlv
     subst hlv
     refine ⟨f1.alen, by simp [hlen], f1.ro, f1.lro, fun d hd => f1.acts d hd, fun l hl => ?_⟩
     have := f1.loops l hl
     have hl2 : l < st.sig.loops.length := by have := hop.loops; omega
     simp only [enterLoop] at this
     rw [List.getElem?_append_left hl2] at this
     show (s.loops.take st.sig.loops.length)[l]? = _
     rw [List.getElem?_take, if_pos hl2]
     exact this
    ·cases hlv
   ·cases hlv
  ·cases hlv
theorem Fr.finish {rs : List ARes} {own : Bool} {s0 : Sig} {r0 : Rec} {st : St} {x : AV} {s' : Sig} (h0 : s0.ro ≤ s0.acts.length) (f : Fr (s0.push r0) st.sig) (h : finish rs own st = some (x, s')) : Fr s0 s' := by
 have hlen : st.sig.acts.length = s0.acts.length + 1 := by rw [f.alen]; simp [Sig.push]
 have hp : Fr s0 st.sig.pop := by
  refine ⟨by simp [Sig.pop, hlen], f.llen, f.ro, f.lro, fun d hd => ?_, f.loops⟩
  have hd' : d < s0.acts.length := by omega
  simp only [Sig.pop, dropLast_get hlen]
  rw [if_pos hd', f.acts d hd]
  simp only [Sig.push]
  exact List.getElem?_append_left hd'
 unfold Ax.finish at h
 split at h
 ·split at h
  ·obtain ⟨x0, _, h⟩ := Option.bind_eq_some_iff.1 h
   unfold ownResult at h
   split at h
   ·split at h
    ·rename_i hcond
     injection h with h
     injection h with _ h
     subst h
     refine hp.trans (Fr.onRec _ ?_ _)
     rw [hp.ro]
     have := hcond.2.2.1
     rw [f.ro] at this
     simp only [Sig.push] at this
     omega
    ·injection h with h; injection h with _ h; subst h; exact hp
   ·obtain ⟨y, _, h⟩ := Option.map_eq_some_iff.1 h
    injection h with _ h
    subst h
    exact hp
  ·cases h
 ·obtain ⟨l, _, h⟩ := Option.map_eq_some_iff.1 h
  injection h with _ h
  subst h
  exact hp
theorem Open.push {s : Sig} (h1 : s.ro ≤ s.acts.length) (h2 : s.lro ≤ s.loops.length) (r : Rec) : Open (s.push r) :=
 ⟨by simp [Sig.push], by simp [Sig.push, Sig.cur]; exact h1, h2⟩
theorem Fr.setLoop (s : Sig) {l : Nat} (hl : s.lro ≤ l) (f : ALoop → ALoop) : Fr s (setLoop s l f) :=
 ⟨rfl, by simp [Ax.setLoop], rfl, rfl, fun _ _ => rfl, fun l' h => by simp only [Ax.setLoop, modify_get]; rw [if_neg (by omega)]⟩
theorem Fr.popped {s0 s : Sig} {r0 : Rec} (h0 : s0.ro ≤ s0.acts.length) (f : Fr (s0.push r0) s) : Fr s0 s.pop := by
 have hlen : s.acts.length = s0.acts.length + 1 := by rw [f.alen]; simp [Sig.push]
 refine ⟨by simp [Sig.pop, hlen], f.llen, f.ro, f.lro, fun d hd => ?_, f.loops⟩
 have hd' : d < s0.acts.length := by omega
 simp only [Sig.pop, dropLast_get hlen]
 rw [if_pos hd', f.acts d hd]
 simp only [Sig.push]
 exact List.getElem?_append_left hd'
theorem RoOk.step {AP : FuncId → Option AFn} {call : CallF} (hro : RoOk call) (lf : Nat) : RoOk (callStep AP call lf) := by
 intro t args s x s' h1 h2 h
 unfold callStep at h
 cases t with
 | fn f =>
  simp only at h
  split at h
  ·split at h
   ·split at h
    ·rename_i st he
     exact Fr.finish h1 (Fr.exec hro (Open.push h1 h2 _) he) h
    ·rename_i st he
     exact Fr.finish h1 (Fr.exec hro (Open.push h1 h2 _) he) h
    ·cases h
   ·cases h
  ·obtain ⟨as, _, h⟩ := Option.bind_eq_some_iff.1 h
   obtain ⟨z, _, h⟩ := Option.map_eq_some_iff.1 h
   injection h with _ h
   subst h
   exact .refl _
  ·cases h
 | yield l =>
  simp only at h
  split at h
  case h_2 => cases h
  split at h
  case isFalse => cases h
  rename_i hcond
  split at h
  case h_2 => cases h
  rename_i st he
  have f1 := Fr.exec hro (Open.push h1 h2 _) he
  have hl : st.sig.lro ≤ l := by rw [f1.lro]; exact hcond.2.1
  have f2 := f1.trans (Fr.setLoop st.sig hl fun p => { p with ready := false })
  have op2 := (Open.push h1 h2 ⟨[], []⟩).fr f2
  split at h
  case isFalse => cases h
  split at h
  ·rename_i st' hb
   injection h with h
   injection h with _ h
   subst h
   have f3 := f2.trans (Fr.exec hro op2 hb)
   exact Fr.popped h1 (f3.trans (Fr.setLoop _ (by rw [f3.lro]; exact hcond.2.1) _))
  ·rename_i e st' _ hb
   injection h with h
   injection h with _ h
   subst h
   have f3 := f2.trans (Fr.exec hro op2 hb)
   exact Fr.popped h1 (f3.trans (Fr.setLoop _ (by rw [f3.lro]; exact hcond.2.1) _))
  ·cases h
end Go.Ax

/-
  Calls.
-/
namespace Go.Ax
open Go.RowKit
def PrimOk (P : Program) (f : FuncId) (F : List AV → Option AV) : Prop :=
 ∀ (I : IMap) (w : World) (as : List AV) (xs : Array Value) (r : AV), (∀ b i v, I b i = some v → w.cell? ⟨b, i, none⟩ = some v) → xs.size = as.length → (∀ i (hi : i < as.length), RelC I as[i] (xs.getD i Go.undef)) → F as = some r →
  Calls P f xs w fun e w' => ∃ z I', e = .returned z ∧ (∀ b i v, I b i = some v → I' b i = some v) ∧ (∀ b i v, I' b i = some v → I b i = some v ∨ w.heap.size ≤ b) ∧ (∀ b i v, I' b i = some v → w'.cell? ⟨b, i, none⟩ = some v) ∧
   Below w.heap.size w w' ∧ RelC I' r z
structure ProgOk (P : Program) (AP : FuncId → Option AFn) : Prop where
 mixed : P.follows .mixedOrders = true
 code : ∀ f np nt b rs own, AP f = some (.code np nt b rs own) → ∃ fn mu, P.funcs[f]? = some fn ∧ compFn P own mu fn = some (.code np nt b rs own)
 prim : ∀ f F, AP f = some (.prim F) → HasBody P f ∧ PrimOk P f F
theorem compFn_spec {P : Program} {own own' mu : Bool} {fn : Func} {np nt : Nat} {b : ACode} {rs : List ARes} (h : compFn P own mu fn = some (.code np nt b rs own')) :
  ∃ c, fn.body = some c ∧ (fn.name == "runtime.NumGoroutine") = false ∧ comp P mu c = some b ∧ mapO (compRes P) fn.results.toList = some rs ∧ np ≤ fn.ntmps ∧ tmpsOk fn.ntmps b = true ∧ own' = own := by
 unfold compFn at h
 split at h
 ·cases h
 ·rename_i hname
  split at h
  ·cases h
  ·rename_i c hb
   split at h
   ·rename_i b' rs' e1 e2
    split at h
    ·rename_i hcond
     injection h with h
     injection h with h1 h2 h3 h4 h5
     subst h1 h2 h3 h4 h5
     exact ⟨c, hb, by simpa using hname, e1, e2, hcond.1, hcond.2, rfl⟩
    ·cases h
   ·cases h
section
variable {P : Program} {B0 : Nat} {w0 : World} {G : Ghost} {k nl : Nat} {w : World} {s : Sig}
theorem leaves_marks {G : Ghost} {n : Nat} {fn : Func} {tmps : Array Value} {R : Ending → World → Prop} : ∀ (bs : List Nat) (w : World), At P B0 w0 G k nl s w → (∀ b, b ∈ bs → B0 ≤ b ∧ G.own b = none ∧ w.heap[b]? = some (.deferred (some []))) → bs.Nodup →
  (∀ w', At P B0 w0 G k nl s w' → ∃ v, (results fn tmps).run P w' = .ok v w' ∧ R (.returned v) w') → LeavesInM Fence.wide n P fn tmps R (bs.map fun b => (⟨.collected b, #[]⟩ : Deferred)) .returning w
 | [], w, h, _, _, hR => hR w h
 | b :: r, w, h, hb, hn, hR => by
  obtain ⟨h1, h2, h3⟩ := hb b (by simp)
  have hn' := List.nodup_cons.1 hn
  refine ⟨by simp, .inl ⟨b, w.putObj b (.deferred none), rfl, run_takeDeferred h3, ?_⟩⟩
  refine leaves_marks r _ (putMark h h1 h2 h3 (fun a t f e => by cases e)) (fun c hc => ?_) hn'.2 hR
  obtain ⟨c1, c2, c3⟩ := hb c (by simp [hc])
  refine ⟨c1, c2, ?_⟩
  rw [World.putObj_heap_other (fun e => hn'.1 (by rw [← e]; exact hc))]
  exact c3
theorem marks_nodup (h : SRel P B0 w0 G s w) {r : Rec} {gr : GRec} {d : Nat} (hr : s.acts[d]? = some r) (hg : G.acts[d]? = some gr) : gr.marks.Nodup := by
 rw [List.nodup_iff_pairwise_ne, List.pairwise_iff_getElem]
 intro i j hi hj hlt e
 have h1 := ((h.rec_ d r gr hr hg).mark i _ (List.getElem?_eq_getElem hi)).2.1
 have h2 := ((h.rec_ d r gr hr hg).mark j _ (List.getElem?_eq_getElem hj)).2.1
 rw [e, h2] at h1
 injection h1 with h1
 injection h1 with _ h1
 omega
theorem argsT_get : ∀ (args : List AV) (t : Nat), argsT args t = if h : t < args.length then args[t] else AV.undef
 | [], t => by simp [argsT]
 | x :: r, 0 => by simp [argsT]
 | x :: r, t + 1 => by
  simp only [argsT, argsT_get r t, List.length_cons, List.getElem_cons_succ]
  split <;> split <;> first | rfl | omega
theorem callTo_of (h : SRel P B0 w0 G s w) {kc nlc : Nat} {G1 G2 : Ghost} {s' : Sig} {w' : World} {x : AV} {z : Value} (hk : s.acts.length ≤ kc + 1) (h1 : GLe s.acts.length s.loops.length (G.pushA s.loops.length) G1) (h2 : SRel P B0 w0 G2 s' w') (h3 : s'.acts.length = s.acts.length)
  (h4 : s'.loops.length = s.loops.length) (h5 : ∀ b i v, G1.I b i = some v → G2.I b i = some v) (h6 : ∀ d gr, d < s.acts.length → G1.acts[d]? = some gr → ∃ gr', G2.acts[d]? = some gr' ∧ RecLe gr gr' ∧ gr'.marks = gr.marks)
  (h7 : ∀ l r : Nat, G1.loops[l]? = some r → G2.loops[l]? = some r) (h8 : Rel G2 kc nlc x z) : CallTo P B0 w0 G kc nlc s s' w' x z := by
 refine ⟨G2, h2, h3, h4, ⟨fun b i v e => h5 b i v (h1.I b i v e), fun d gr hd e => ?_, fun l r hl e => h7 l r (h1.loops l r hl e)⟩, h8⟩
 have hlt : d < s.acts.length := by have := (List.getElem?_eq_some_iff.1 e).1; rw [h.len] at this; exact this
 obtain ⟨g1, a1, a2, a3⟩ := h1.acts d gr (by omega) (get_old e)
 obtain ⟨g2, b1, b2, b3⟩ := h6 d g1 hlt a1
 exact ⟨g2, b1, a2.trans b2, fun _ => b3.trans (a3 hlt)⟩
theorem code_sound {AP : FuncId → Option AFn} (hp : ProgOk P AP) {call : CallF} (hcall : CallSound P B0 w0 call) (hro : RoOk call) {lf : Nat} {kc nlc : Nat} {f : FuncId} {np nt : Nat} {b : ACode} {rs : List ARes} {own : Bool} {args : List AV} {xs : Array Value} {x : AV} {s' : Sig}
  (hap : AP f = some (.code np nt b rs own)) (h : SRel P B0 w0 G s w) (hk1 : s.acts.length ≤ kc + 1) (hk2 : kc ≤ s.acts.length) (hnl : nlc ≤ s.loops.length) (hl : xs.size = args.length) (hR : ∀ i (hi : i < args.length), Rel G kc nlc args[i] (xs.getD i Go.undef))
  {e : AExit} {st : St} (hlen : args.length = np) (he : exec call lf b ⟨argsT args, s.push ⟨[], []⟩⟩ = some (e, st)) (hn : e = .normal ∨ e = .ret) (hf : finish rs own st = some (x, s')) :
  HasBody P f ∧ Calls P f xs w fun e w' => ∃ z, e = .returned z ∧ CallTo P B0 w0 G kc nlc s s' w' x z := by
 obtain ⟨fn, mu, hfn, hcf⟩ := hp.code f np nt b rs own hap
 obtain ⟨c, hb, hname, hcomp, hres, hnp, htm, _⟩ := compFn_spec hcf
 refine ⟨⟨fn, c, hfn, hb, hname⟩, ?_⟩
 refine (callsIn_wide (n := 0)).1 ?_
 have hat := push_sound h
 have hG0 := G.pushA_le s.loops.length
 have hsz : (xs ++ Array.replicate (fn.ntmps - xs.size) Go.undef).size = fn.ntmps := by simp; omega
 refine callsIn_of_wp_marks hfn hb trivial (wpIn_mono (exec_sound (rd := none) (n := 0) (lf := lf) hcall hro hp.mixed c b (G.pushA s.loops.length) ⟨argsT args, s.push ⟨[], []⟩⟩ st ⟨xs ++ Array.replicate (fn.ntmps - xs.size) Go.undef, []⟩ w e hcomp hat rfl (fun t => ?_) (by rw [hsz]; exact htm)
  (fun r e => by cases e) (fun _ => ⟨⟨[], [], s.loops.length, [], fun _ => none⟩, by simp [Ghost.pushA, ← h.len], rfl⟩) he) fun ex a' w' hpost => ?_)
 ·show Rel _ _ _ (argsT args t) ((xs ++ Array.replicate (fn.ntmps - xs.size) Go.undef).getD t Go.undef)
  rw [argsT_get, getD_append]
  split
  ·rename_i ht
   rw [if_pos (by omega)]
   exact (hR t ht).mono (hG0 _ _) hk2 hnl
  ·rename_i ht
   rw [if_neg (by omega)]
   have : (Array.replicate (fn.ntmps - xs.size) Go.undef).getD (t - xs.size) Go.undef = Go.undef := by
    by_cases hq : t - xs.size < fn.ntmps - xs.size
    ·simp [Array.getD, hq]
    ·simp [Array.getD, hq]
   rw [this]
   exact .undef
 ·obtain ⟨hex, G1, g1, g2, g3, g4, g5, g6⟩ := hpost
  have hex' : ex = .normal ∨ ex = .ret := by rcases hn with rfl | rfl <;> simp [hex, exitOf]
  obtain ⟨r, gr, hr, hg⟩ := g1.rec_ (Nat.le_refl _)
  obtain ⟨gr', e1, e2⟩ := g6 rfl
  rw [hg] at e1
  injection e1 with e1
  subst e1
  have hleave : LeavesInM Fence.wide 0 P fn a'.tmps (fun e w' => ∃ z, e = .returned z ∧ CallTo P B0 w0 G kc nlc s s' w' x z) a'.defers .returning w' := by
   rw [e2, ← List.map_reverse]
   refine leaves_marks (G := G1.dropMarks s.acts.length) gr.marks.reverse w' (dropMarks_sound g1) (fun m hm => ?_) ((List.reverse_perm _).nodup_iff.2 (marks_nodup g1.rel hr hg)) (fun w'' hat2 => ?_)
   ·obtain ⟨i, hi, rfl⟩ := List.getElem_of_mem (List.mem_reverse.1 hm)
    have hmk := (g1.rel.rec_ _ r gr hr hg).mark i _ (List.getElem?_eq_getElem hi)
    refine ⟨hmk.1, ?_, hmk.2.2⟩
    simp only [Ghost.dropMarks, hmk.2.1, if_pos]
   ·have hdl := G1.dropMarks_le s.acts.length s.loops.length (Nat.le_refl _)
    obtain ⟨z, G2, q1, q2, q3, q4, q5, q6, q7, q8⟩ := finish_sound hat2 (a := a') (g4.mono hdl) g3 hres (kc := kc) (nlc := nlc) hk1 hf
    refine ⟨z, q1, z, rfl, callTo_of h hk1 (g2.trans hdl) q2 q3 (by rw [q4]; exact g3) q5 q6 q7 q8⟩
  rcases hex' with rfl | rfl
  ·exact hleave
  ·exact hleave
theorem prim_sound {AP : FuncId → Option AFn} (hp : ProgOk P AP) {kc nlc : Nat} {f : FuncId} {F : List AV → Option AV} {args : List AV} {xs : Array Value} {x : AV} {s' : Sig}
  (hap : AP f = some (.prim F)) (h : SRel P B0 w0 G s w) (hl : xs.size = args.length) (hR : ∀ i (hi : i < args.length), Rel G kc nlc args[i] (xs.getD i Go.undef)) (hc : ((closeAll args).bind fun as => (F as).map (·, s)) = some (x, s')) :
  HasBody P f ∧ Calls P f xs w fun e w' => ∃ z, e = .returned z ∧ CallTo P B0 w0 G kc nlc s s' w' x z := by
 obtain ⟨hb, hprim⟩ := hp.prim f F hap
 refine ⟨hb, ?_⟩
 obtain ⟨as, has, hc⟩ := Option.bind_eq_some_iff.1 hc
 obtain ⟨y, hy, hc⟩ := Option.map_eq_some_iff.1 hc
 injection hc with h1 h2
 subst h1 h2
 obtain ⟨c1, c2⟩ := closeAll_spec has
 refine Calls.mono (hprim G.I w as xs y h.imm (by rw [hl, c1]) (fun i hi => (hR i (by omega)).close (c2 i (by omega) hi)) hy) fun e w' hq => ?_
 obtain ⟨z, I', rfl, i1, i2, i3, i4, i5⟩ := hq
 refine ⟨z, rfl, { G with I := I' }, ?_, rfl, rfl, ⟨i1, fun d gr _ e => ⟨gr, e, .refl gr, fun _ => rfl⟩, fun _ _ _ e => e⟩, .cl i5⟩
 refine h.keep i1 rfl rfl (fun b o e _ => ⟨e, i4.block b (h.ownlt b o e), fun i hi => ?_⟩) i3 (i4.mono h.low) (fun b o e => Nat.lt_of_lt_of_le (h.ownlt b o e) i4.size)
 show I' b i = none
 cases hv : I' b i with
 | none => rfl
 | some v =>
  rcases i2 b i v hv with hv' | hv'
  ·rw [hi] at hv'; cases hv'
  ·have := h.ownlt b o e; omega
theorem setParams_rel : ∀ (ps : List Nat) (args : List AV) (vs : List Value) (ρ : Nat → AV) (t : Array Value), args.length = ps.length → vs.length = ps.length → (∀ p, p ∈ ps → p < t.size) → (∀ i (hi : i < args.length) (hj : i < vs.length), Rel G k nl args[i] vs[i]) →
  (∀ u, Rel G k nl (ρ u) (t.getD u Go.undef)) → (∀ u, Rel G k nl (setParams ρ ps args u) (((ps.zip vs).foldl (fun (t : Array Value) (q : Nat × Value) => t.setIfInBounds q.1 q.2) t).getD u Go.undef)) ∧ ((ps.zip vs).foldl (fun (t : Array Value) (q : Nat × Value) => t.setIfInBounds q.1 q.2) t).size = t.size
 | [], args, vs, ρ, t, h1, h2, hp, hR, ht => by
  cases args with
  | nil => exact ⟨by simpa [setParams] using ht, by simp⟩
  | cons => simp at h1
 | p :: ps, [], vs, ρ, t, h1, h2, hp, hR, ht => by simp at h1
 | p :: ps, a :: args, [], ρ, t, h1, h2, hp, hR, ht => by simp at h2
 | p :: ps, a :: args, v :: vs, ρ, t, h1, h2, hp, hR, ht => by
  have h0 : Rel G k nl a v := hR 0 (by simp) (by simp)
  have hput : ∀ u, Rel G k nl (put p a ρ u) ((t.setIfInBounds p v).getD u Go.undef) := by
   have := TmpsRel.put (a := ⟨t, []⟩) (dst := some p) (fun u => ht u) (fun q e => by injection e with e; subst e; exact hp p (by simp)) h0
   exact fun u => this u
  obtain ⟨i1, i2⟩ := setParams_rel ps args vs (put p a ρ) (t.setIfInBounds p v) (by simpa using h1) (by simpa using h2) (fun q hq => by simp; exact hp q (by simp [hq])) (fun i hi hj => hR (i + 1) (by simpa using hi) (by simpa using hj)) hput
  exact ⟨i1, by rw [List.zip_cons_cons, List.foldl_cons, i2]; simp⟩
theorem LoopObj.upd {l : Nat} {lp lp' : ALoop} {rc rc' : Loop} (h : LoopObj P G l lp rc) (h1 : rc'.params = rc.params) (h2 : rc'.assign = rc.assign) (h3 : rc'.body = rc.body) (h4 : rc'.tmps = rc.tmps) (g1 : lp'.params = lp.params) (g2 : lp'.assign = lp.assign) (g3 : lp'.body = lp.body)
  (g4 : lp'.tmps = lp.tmps) (a1 : lp'.ready = true → rc'.state = .ready ∧ lp'.pend = none) (a2 : lp'.ready = false → rc'.state = (if lp'.pend.isSome then .done else .busy)) (a3 : rc'.pending = lp'.pend.bind exitCode) (a4 : lp'.pend ≠ some .normal) : LoopObj P G l lp' rc' := by
 obtain ⟨_, _, _, _, b5, ⟨mu, b6, b7⟩, b8, b9, b10, k, nl, b11, b12, b14, b13⟩ := h
 exact ⟨a1, a2, a3, a4, by rw [h1, g1]; exact b5, ⟨mu, by rw [h2, g2]; exact b6, by rw [h3, g3]; exact b7⟩, by rw [h4, g2]; exact b8, by rw [h4, g3]; exact b9, by rw [h4, g1]; exact b10, k, nl, b11, b12, b14, by rw [h4, g4]; exact b13⟩
theorem At.loopAt (h : At P B0 w0 G k nl s w) (hll : s.loops.length = nl) {l r : Nat} (hl : l < nl) (hr : G.loops[l]? = some r) : ∃ lp rc, s.loops[l]? = some lp ∧ w.heap[r]? = some (.loop rc) ∧ LoopObj P G l lp rc := by
 have hlt : l < s.loops.length := by omega
 obtain ⟨_, _, rc, h3, h4⟩ := h.rel.loop l _ r (List.getElem?_eq_getElem hlt) hr
 exact ⟨_, rc, List.getElem?_eq_getElem hlt, h3, h4⟩
theorem At.turn (h : At P B0 w0 G k nl s w) {l r : Nat} {lp lp' : ALoop} {rc rc' : Loop} (hl : s.loops[l]? = some lp) (hr : G.loops[l]? = some r) (hrc : w.heap[r]? = some (.loop rc)) {f : ALoop → ALoop} (hf : f lp = lp') (ho : LoopObj P G l lp' rc') :
  At P B0 w0 G k nl (setLoop s l f) (w.putObj r (.loop rc')) :=
 ⟨setLoop_sound h.rel hl hr hrc hf ho, h.len, h.cur⟩
theorem yield_sound {AP : FuncId → Option AFn} (hp : ProgOk P AP) {call : CallF} (hcall : CallSound P B0 w0 call) (hro : RoOk call) {lf : Nat} {kc nlc l r : Nat} {args : List AV} {xs : Array Value} {x : AV} {s' : Sig}
    (h : SRel P B0 w0 G s w) (hk1 : s.acts.length ≤ kc + 1) (hk2 : kc ≤ s.acts.length) (hnl : nlc ≤ s.loops.length) (hlt : l < nlc) (hgl : G.loops[l]? = some r) (hl : xs.size = args.length) (hR : ∀ i (hi : i < args.length), Rel G kc nlc args[i] (xs.getD i Go.undef))
    (hc : callStep AP call lf (.yield l) args s = some (x, s')) :
    ∃ rc : Loop, w.heap[r]? = some (.loop rc) ∧ xs.size = rc.params.size ∧ ∀ n, RoundIn Fence.wide n P r rc.fn ((rc.params.zip xs).foldl (fun tmps (t, a) => tmps.setIfInBounds t a) rc.tmps) rc.assign rc.body w
      fun e w' => ∃ z, e = .returned z ∧ CallTo P B0 w0 G kc nlc s s' w' x z := by
  unfold callStep at hc
  simp only at hc
  split at hc
  case h_2 => cases hc
  rename_i lp hlp
  split at hc
  case isFalse => cases hc
  rename_i hcond
  obtain ⟨hready, _, hargs⟩ := hcond
  split at hc
  case h_2 => cases hc
  rename_i st hassign
  split at hc
  case isFalse => cases hc
  rename_i hrd2
  obtain ⟨_, _, rc, hrc, hobj⟩ := h.loop l lp r hlp hgl
  obtain ⟨o1, o2, o3, o4, o5, ⟨mu, o6, o7⟩, o8, o9, o10, k', nl', o11, o12, o14, o13⟩ := hobj
  have hpl : rc.params.size = lp.params.length := by rw [← o5]; simp
  refine ⟨rc, hrc, by rw [hl, hargs, hpl], fun n => ?_⟩
  have hat := push_sound h
  have hG0 := G.pushA_le s.loops.length
  have hlts : l < s.loops.length := by omega
  have hgl0 : (G.pushA s.loops.length).loops[l]? = some r := hgl
  have hround : RoundAt (some r) (G.pushA s.loops.length) s.loops.length := fun r' e => by injection e with e; subst e; exact ⟨l, hlts, hgl0⟩
  have hfold : (rc.params.zip xs).foldl (fun (tmps : Array Value) (x : Tmp × Value) => match x with | (t, a) => tmps.setIfInBounds t a) rc.tmps = (lp.params.zip xs.toList).foldl (fun (t : Array Value) (q : Nat × Value) => t.setIfInBounds q.1 q.2) rc.tmps := by
    rw [← Array.foldl_toList, Array.toList_zip, o5]
  rw [hfold]
  obtain ⟨p1, p2⟩ := setParams_rel (G := G.pushA s.loops.length) (k := s.acts.length) (nl := s.loops.length) lp.params args xs.toList lp.tmps rc.tmps hargs (by simp [hl, hargs]) o10
    (fun i hi hj => by
      have := (hR i hi).mono (hG0 kc nlc) hk2 hnl
      have e : xs.getD i Go.undef = xs.toList[i] := by
        have : i < xs.size := by simpa using hj
        simp [Array.getD, this]
      rw [← e]
      exact this)
    (fun u => (o13 u).mono (hG0 k' nl') (by have := h.len; omega) (by omega))
  have hF : Fence.wide.fn rc.fn := trivial
  refine roundIn_of_wpIn hF (wpIn_mono (exec_sound (k := s.acts.length) (nl := s.loops.length) (rd := some r) (n := n) (lf := lf) hcall hro hp.mixed rc.assign lp.assign (G.pushA s.loops.length) ⟨setParams lp.tmps lp.params args, s.push ⟨[], []⟩⟩ st ⟨_, []⟩ w .normal o6 hat rfl p1 (by rw [p2]; exact o8) hround (fun e => by cases e) hassign) fun ex a1 w1 hpost => ?_)
  obtain ⟨rfl, G1, g1, g2, g3, g4, g5, _⟩ := hpost
  have hr1 : G1.loops[l]? = some r := g2.loops l r hlts hgl0
  obtain ⟨lp1, rc1, q1, q2, q3⟩ := g1.loopAt g3 hlts hr1
  have hrdy1 : lp1.ready = true := by simpa [loopReady, q1] using hrd2
  obtain ⟨s1, s2⟩ := q3.1 hrdy1
  have hpend1 : rc1.pending = none := by rw [q3.2.2.1, s2]; rfl
  show ∃ w₂, (Instr.beginRound r).run P w1 = .ok () w₂ ∧ _
  refine ⟨_, run_beginRound q2 s1, ?_⟩
  have hobj1 : LoopObj P G1 l { lp1 with ready := false } { rc1 with state := .busy } := q3.upd rfl rfl rfl rfl rfl rfl rfl rfl (fun e => by cases e) (fun _ => by simp [s2]) (by simp [hpend1, s2]) (by simp [s2])
  have hat1 := g1.turn q1 hr1 q2 (f := fun p => { p with ready := false }) rfl hobj1
  have hll1 : (setLoop st.sig l fun p => { p with ready := false }).loops.length = s.loops.length := by simp [setLoop, g3]
  have body : ∀ (e : AExit) (st' : St), exec call lf lp.body ⟨st.tmps, setLoop st.sig l fun p => { p with ready := false }⟩ = some (e, st') → (∀ (ex : Exit) (a' : Act) (w2 : World) (G2 : Ghost), ex = exitOf e → At P B0 w0 G2 s.acts.length s.loops.length st'.sig w2 → GLe s.acts.length s.loops.length (G.pushA s.loops.length) G2 →
      st'.sig.loops.length = s.loops.length → G2.loops[l]? = some r → roundPost P r (fun e w' => ∃ z, e = .returned z ∧ CallTo P B0 w0 G kc nlc s s' w' x z) ex a' w2) →
      rc.body.wpIn (Fence.wide.inRound r) n P (roundPost P r (fun e w' => ∃ z, e = .returned z ∧ CallTo P B0 w0 G kc nlc s s' w' x z)) a1 (w1.putObj r (.loop { rc1 with state := .busy })) := fun e st' hbody hq => by
    refine wpIn_mono (exec_sound (k := s.acts.length) (nl := s.loops.length) (rd := some r) (n := n) (lf := lf) hcall hro hp.mixed rc.body lp.body G1 ⟨st.tmps, setLoop st.sig l fun p => { p with ready := false }⟩ st' a1 _ e o7 hat1 hll1 g4 (by rw [g5]; rw [p2]; exact o9) (hround.mono g2) (fun e => by cases e) hbody) fun ex a2 w2 hpost => ?_
    obtain ⟨hex, G2, k1, k2, k3, k4, k5, _⟩ := hpost
    exact hq ex a2 w2 G2 hex k1 (g2.trans k2) k3 (k2.loops l r hlts hr1)
  have fin : ∀ (G2 : Ghost) (st' : St) (w2 : World) (jump : Option Code) (f : ALoop → ALoop) (b : Bool), At P B0 w0 G2 s.acts.length s.loops.length st'.sig w2 → GLe s.acts.length s.loops.length (G.pushA s.loops.length) G2 → st'.sig.loops.length = s.loops.length → G2.loops[l]? = some r →
      (∀ lp2 rc2, LoopObj P G2 l lp2 rc2 → LoopObj P G2 l (f lp2) { rc2 with state := if jump.isNone then .ready else .done, pending := jump }) → jump.isNone = b → x = .v (.bool b) → s' = (setLoop st'.sig l f).pop →
      ∃ v w', (Instr.endRound r jump).run P w2 = .ok v w' ∧ ∃ z, (Ending.returned v) = .returned z ∧ CallTo P B0 w0 G kc nlc s s' w' x z := fun G2 st' w2 jump f b k1 k2 k3 k4 hf hb hx hs => by
    obtain ⟨lp2, rc2, m1, m2, m3⟩ := k1.loopAt k3 hlts k4
    have hat2 := k1.turn m1 k4 m2 (f := f) rfl (hf lp2 rc2 m3)
    have hll2 : (setLoop st'.sig l f).loops.length = s.loops.length := by simp [setLoop, k3]
    obtain ⟨gr, hg, _⟩ := hat2.cur
    obtain ⟨t1, t2, t3, t4⟩ := pop_sound hat2 hll2 hg
    refine ⟨_, _, run_endRound jump m2, _, rfl, ?_⟩
    subst hs hx hb
    exact callTo_of h hk1 k2 t1 (by simp [Sig.pop, hat2.len]) hll2 t2 (fun d q hd e => ⟨q, by rw [t4 d hd]; exact e, .refl q, rfl⟩) (fun _ _ e => e) (.val _ rfl)
  split at hc
  · rename_i st' hbody
    injection hc with hc
    injection hc with hx hs
    refine body .normal st' hbody fun ex a' w2 G2 hex k1 k2 k3 k4 => ?_
    subst hex
    exact fin G2 st' w2 none (fun p => { p with ready := true, pend := none }) true k1 k2 k3 k4 (fun lp2 rc2 m => m.upd rfl rfl rfl rfl rfl rfl rfl rfl (fun _ => ⟨rfl, rfl⟩) (fun e => by cases e) rfl (by simp)) rfl hx.symm hs.symm
  · rename_i e st' hne hbody
    injection hc with hc
    injection hc with hx hs
    refine body e st' hbody fun ex a' w2 G2 hex k1 k2 k3 k4 => ?_
    subst hex
    cases e with
    | normal => exact absurd rfl hne
    | exit id => exact fin G2 st' w2 (some (.exit id)) (fun p => { p with ready := false, pend := some (.exit id) }) false k1 k2 k3 k4 (fun lp2 rc2 m => m.upd rfl rfl rfl rfl rfl rfl rfl rfl (fun e => by cases e) (fun _ => rfl) rfl (by simp)) rfl hx.symm hs.symm
    | ret => exact fin G2 st' w2 (some .ret) (fun p => { p with ready := false, pend := some .ret }) false k1 k2 k3 k4 (fun lp2 rc2 m => m.upd rfl rfl rfl rfl rfl rfl rfl rfl (fun e => by cases e) (fun _ => rfl) rfl (by simp)) rfl hx.symm hs.symm
  · cases hc
theorem callStep_sound {AP : FuncId → Option AFn} (hp : ProgOk P AP) {call : CallF} (hcall : CallSound P B0 w0 call) (hro : RoOk call) (lf : Nat) : CallSound P B0 w0 (callStep AP call lf) := by
 refine ⟨fun G k nl s w f args xs res s' h hk1 hk2 hnl hl hR hc => ?_, fun G k nl s w l r args xs res s' h hk1 hk2 hnl hlt hgl hl hR hc => yield_sound hp hcall hro h hk1 hk2 hnl hlt hgl hl hR hc⟩
 unfold callStep at hc
 simp only at hc
 split at hc
 ·rename_i np nt b rs own hap
  split at hc
  ·rename_i hlen
   split at hc
   ·rename_i st he
    exact code_sound hp hcall hro hap h hk1 hk2 hnl hl hR hlen he (.inl rfl) hc
   ·rename_i st he
    exact code_sound hp hcall hro hap h hk1 hk2 hnl hl hR hlen he (.inr rfl) hc
   ·cases hc
  ·cases hc
 ·rename_i F hap
  exact prim_sound hp hap h hl hR hc
 ·cases hc
theorem callN_sound {AP : FuncId → Option AFn} (hp : ProgOk P AP) : ∀ n, CallSound P B0 w0 (callN AP n) ∧ RoOk (callN AP n)
 | 0 => ⟨⟨fun _ _ _ _ _ _ _ _ _ _ _ _ _ _ _ _ h => by simp [callN] at h, fun _ _ _ _ _ _ _ _ _ _ _ _ _ _ _ _ _ _ _ h => by simp [callN] at h⟩, fun _ _ _ _ _ _ _ h => by simp [callN] at h⟩
 | n + 1 => ⟨callStep_sound hp (callN_sound hp n).1 (callN_sound hp n).2 n, RoOk.step (callN_sound hp n).2 n⟩
end
end Go.Ax

/-
  From the executor's answer to the call of the model.
-/
namespace Go.Ax
open Go.RowKit
def startG (w : World) : Ghost := { I := fun b i => w.cell? ⟨b, i, none⟩, acts := [], loops := [], own := fun _ => none }
def startS : Sig := ⟨[], [], 0, 0⟩
theorem start_rel (P : Program) (w : World) : SRel P w.heap.size w (startG w) startS w :=
 ⟨fun _ _ _ e => e, rfl, rfl, fun d r gr e => by simp [startS] at e, fun l lp r e => by simp [startS] at e, fun d gr e => by simp [startG] at e, fun d d' gr gr' _ e => by simp [startG] at e, Below.refl _ _, Nat.le_refl _, fun b o e => by cases e⟩
abbrev Reads (w : World) : AV → Value → Prop := RelC fun b i => w.cell? ⟨b, i, none⟩
theorem run_sound {P : Program} {AP : FuncId → Option AFn} (hp : ProgOk P AP) {n : Nat} {f : FuncId} {args : List AV} {xs : Array Value} {w : World} {b : Bool} {s' : Sig} (hl : xs.size = args.length) (hR : ∀ i (hi : i < args.length), Reads w args[i] (xs.getD i Go.undef))
  (hc : callN AP n (.fn f) args startS = some (.v (.bool b), s')) : Calls P f xs w fun e w' => e = .returned (.bool b) ∧ Below w.heap.size w w' := by
 have := ((callN_sound (P := P) (B0 := w.heap.size) (w0 := w) hp n).1.fn (startG w) 0 0 startS w f args xs _ s' (start_rel P w) (Nat.zero_le _) (Nat.le_refl _) (Nat.le_refl _) hl (fun i hi => .cl (hR i hi)) hc).2
 refine Calls.mono this fun e w' he => ?_
 obtain ⟨z, rfl, G', h1, _, _, _, h5⟩ := he
 rw [h5.inv_v]
 exact ⟨rfl, h1.below⟩
end Go.Ax
