/-
  What an execution may not write to.
-/
import Derived.Test.YtfmojojicndbcaaAxV
namespace Go.Ax
open Go.RowKit

theorem Fr.refl (s : Sig) : Fr s s := ⟨rfl, rfl, rfl, rfl, fun _ _ => rfl, fun _ _ => rfl⟩
theorem Fr.trans {a b c : Sig} (h : Fr a b) (k : Fr b c) : Fr a c :=
  ⟨k.alen.trans h.alen, k.llen.trans h.llen, k.ro.trans h.ro, k.lro.trans h.lro, fun d hd => (k.acts d (by rw [h.ro]; exact hd)).trans (h.acts d hd), fun l hl => (k.loops l (by rw [h.lro]; exact hl)).trans (h.loops l hl)⟩

theorem Fr.onRec (s : Sig) {d : Nat} (hd : s.ro ≤ d) (f : Rec → Rec) : Fr s (s.onRec d f) :=
  ⟨by simp [Sig.onRec], rfl, rfl, rfl, fun d' h => by simp only [Sig.onRec, modify_get]; rw [if_neg (by omega)], fun _ _ => rfl⟩

theorem Fr.fit {m m' : Sig} {d : Nat} {x y : AV} (hd : m.ro ≤ d) (hc : m.ro ≤ m.cur) (h : m.fit d x = some (y, m')) : Fr m m' := by
  unfold Sig.fit at h
  split at h
  · split at h
    · injection h with h; injection h with _ h; subst h; exact .refl _
    · split at h
      · rename_i d' g es xs _ hcond
        injection h with h
        injection h with _ h
        subst h
        have h1 : Fr m (m.setTok d' g none) := Fr.onRec m (by rw [hcond.1]; exact hc) _
        exact h1.trans (Fr.onRec _ (by rw [h1.ro]; exact hd) _)
      · injection h with h; injection h with _ h; subst h; exact .refl _
  · split at h
    · injection h with h; injection h with _ h; subst h; exact .refl _
    · cases h
  · split at h
    · injection h with h; injection h with _ h; subst h; exact .refl _
    · cases h
  · obtain ⟨z, _, h⟩ := Option.map_eq_some_iff.1 h
    injection h with _ h
    subst h
    exact .refl _

theorem Fr.cur {m m' : Sig} (h : Fr m m') : m'.cur = m.cur := by simp [Sig.cur, h.alen]

theorem Fr.fitAll {d : Nat} : ∀ {xs ys : List AV} {m m' : Sig}, m.ro ≤ d → m.ro ≤ m.cur → m.fitAll d xs = some (ys, m') → Fr m m'
  | [], ys, m, m', _, _, h => by
    simp only [Sig.fitAll] at h
    injection h with h
    injection h with _ h
    subst h
    exact .refl _
  | x :: r, ys, m, m', hd, hc, h => by
    simp only [Sig.fitAll] at h
    split at h
    · cases h
    · rename_i y m1 h1
      have f1 := Fr.fit hd hc h1
      split at h
      · cases h
      · rename_i s m2 h2
        injection h with h
        injection h with _ h
        subst h
        exact f1.trans (Fr.fitAll (by rw [f1.ro]; exact hd) (by rw [f1.ro, f1.cur]; exact hc) h2)

theorem Fr.store {m m' : Sig} {n : Nat} {x y : AV} (hc : m.ro ≤ m.cur) (h : m.store n x y = some m') : Fr m m' := by
  unfold Sig.store at h
  split at h
  · split at h
    · rename_i hcond
      split at h
      · cases h
      · rename_i cs m1 h1
        have f1 : Fr m m1 := by
          split at h1
          · injection h1 with h1; injection h1 with _ h1; subst h1; exact .refl _
          · exact Fr.fitAll hcond.1 hc h1
        split at h
        · cases h
        · split at h
          · injection h with h
            subst h
            exact f1.trans (Fr.onRec _ (by rw [f1.ro]; exact hcond.1) _)
          · cases h
    · cases h
  · cases h

theorem Fr.newBox {m : Sig} (hc : m.ro ≤ m.cur) (cs : List AV) : Fr m (m.newBox cs).2 := Fr.onRec m hc _

theorem Fr.append {m m' : Sig} {es : Nat} {x y v : AV} (hc : m.ro ≤ m.cur) (h : appendOp m es x y = some (v, m')) : Fr m m' := by
  unfold appendOp at h
  split at h
  · split at h
    · injection h with h; injection h with _ h; subst h; exact .refl _
    · split at h
      · split at h
        · injection h with h; injection h with _ h; subst h; exact Fr.onRec m hc _
        · injection h with h; injection h with _ h; subst h; exact Fr.onRec m hc _
        · split at h
          · rename_i hcond
            injection h with h; injection h with _ h; subst h; exact Fr.onRec m hcond.1 _
          · cases h
        · cases h
      · cases h
  · cases h

theorem Fr.doCall {call : CallF} (hro : RoOk call) {ro : Bool} {m m' : Sig} {t : Target} {args : List AV} {v : AV} (h1 : m.ro ≤ m.acts.length) (h2 : m.lro ≤ m.loops.length) (h : doCall call ro m t args = some (v, m')) : Fr m m' := by
  unfold Ax.doCall at h
  split at h
  · obtain ⟨p, _, h⟩ := Option.map_eq_some_iff.1 h
    injection h with _ h
    subst h
    exact .refl _
  · exact hro _ _ _ _ _ h1 h2 h

theorem Fr.opv {call : CallF} (hro : RoOk call) {ρ : AOpd → AV} {m m' : Sig} {op : AOp} {v : AV} (h0 : 0 < m.acts.length) (hc : m.ro ≤ m.cur) (h2 : m.lro ≤ m.loops.length) (h : opv call ρ m op = some (v, m')) : Fr m m' := by
  have h1 : m.ro ≤ m.acts.length := by unfold Sig.cur at hc; omega
  have mp : ∀ {o : Option AV}, o.map (·, m) = some (v, m') → Fr m m' := fun e => by
    obtain ⟨_, q⟩ := map_pair e
    simp only at q
    subst q
    exact .refl _
  cases op <;> simp only [Ax.opv] at h <;> first
    | exact mp h
    | (injection h with h; injection h with _ h; subst h; first | exact .refl _ | exact Fr.newBox hc _; done)
    | exact Fr.doCall hro h1 h2 h
    | exact Fr.append hc h
    | skip
  case box n x =>
    unfold boxOp at h
    split at h
    · injection h with h
      have := Fr.newBox hc (ρ x).cells
      rw [h] at this
      exact this
    · cases h
  case build => obtain ⟨_, _, h⟩ := Option.map_eq_some_iff.1 h; injection h with _ h; subst h; exact .refl _
  case buildSlice => obtain ⟨_, _, h⟩ := Option.map_eq_some_iff.1 h; injection h with _ h; subst h; exact .refl _
  case store =>
    obtain ⟨_, hs, h⟩ := Option.map_eq_some_iff.1 h
    injection h with _ h
    subst h
    exact Fr.store hc hs
  case eqv => obtain ⟨_, _, h⟩ := Option.map_eq_some_iff.1 h; injection h with _ h; subst h; exact .refl _
  case mkFn =>
    split at h
    · injection h with h; injection h with _ h; subst h; exact .refl _
    · cases h
  case mkSlice =>
    unfold mkSliceOp at h
    obtain ⟨_, _, h⟩ := Option.bind_eq_some_iff.1 h
    obtain ⟨_, _, h⟩ := Option.map_eq_some_iff.1 h
    injection h with _ h
    subst h
    exact Fr.newBox hc _
  case callv =>
    unfold callvOp at h
    split at h
    · exact Fr.doCall hro h1 h2 h
    · exact Fr.doCall hro h1 h2 h
    · cases h

/-- An activation's memory: the executor may write to its present one. -/
structure Open (s : Sig) : Prop where
  pos : 0 < s.acts.length
  cur : s.ro ≤ s.cur
  loops : s.lro ≤ s.loops.length

theorem Open.fr {s s' : Sig} (h : Open s) (f : Fr s s') : Open s' := ⟨by rw [f.alen]; exact h.pos, by rw [f.ro, f.cur]; exact h.cur, by rw [f.lro, f.llen]; exact h.loops⟩

theorem Fr.ops {call : CallF} (hro : RoOk call) : ∀ {l : List AOper} {st st' : St}, Open st.sig → ops call l st = some st' → Fr st.sig st'.sig
  | [], st, st', _, h => by
    simp only [Ax.ops] at h
    injection h with h
    subst h
    exact .refl _
  | o :: r, st, st', hop, h => by
    rw [ops_cons] at h
    obtain ⟨st1, h1, h2⟩ := Option.bind_eq_some_iff.1 h
    have f1 : Fr st.sig st1.sig := by
      unfold stepA at h1
      split at h1
      · split at h1
        · rename_i hv
          injection h1 with h1
          subst h1
          exact Fr.opv hro hop.pos hop.cur hop.loops hv
        · cases h1
      · injection h1 with h1
        subst h1
        exact .refl _
    exact f1.trans (Fr.ops hro (hop.fr f1) h2)

theorem Fr.loopN {f : St → Option (AExit × St)} (hf : ∀ st e st', Open st.sig → f st = some (e, st') → Fr st.sig st'.sig) : ∀ {m : Nat} {st : St} {e : AExit} {st' : St}, Open st.sig → loopN f m st = some (e, st') → Fr st.sig st'.sig
  | 0, _, _, _, _, h => by simp [Ax.loopN] at h
  | m + 1, st, e, st', hop, h => by
    simp only [Ax.loopN] at h
    split at h
    · rename_i st1 h1
      have f1 := hf _ _ _ hop h1
      exact f1.trans (Fr.loopN hf (hop.fr f1) h)
    · exact hf _ _ _ hop h

theorem Fr.exec {call : CallF} (hro : RoOk call) {lf : Nat} : ∀ {c : ACode} {st : St} {e : AExit} {st' : St}, Open st.sig → exec call lf c st = some (e, st') → Fr st.sig st'.sig := by
  intro c
  induction c with
  | skip => intro st e st' _ h; simp only [Ax.exec] at h; injection h with h; injection h with _ h; subst h; exact .refl _
  | exit => intro st e st' _ h; simp only [Ax.exec] at h; injection h with h; injection h with _ h; subst h; exact .refl _
  | ret => intro st e st' _ h; simp only [Ax.exec] at h; injection h with h; injection h with _ h; subst h; exact .refl _
  | region d l =>
    intro st e st' hop h
    simp only [Ax.exec] at h
    obtain ⟨st1, h1, h⟩ := Option.map_eq_some_iff.1 h
    injection h with _ h
    subst h
    exact Fr.ops hro hop h1
  | seq a b iha ihb =>
    intro st e st' hop h
    simp only [Ax.exec] at h
    split at h
    · rename_i st1 h1
      have f1 := iha hop h1
      exact f1.trans (ihb (hop.fr f1) h)
    · exact iha hop h
  | cond c a b iha ihb =>
    intro st e st' hop h
    simp only [Ax.exec] at h
    split at h
    · split at h
      · exact iha hop h
      · exact ihb hop h
    · cases h
  | block id a ih =>
    intro st e st' hop h
    simp only [Ax.exec] at h
    split at h
    · rename_i j st1 h1
      have f1 := ih hop h1
      split at h
      · injection h with h; injection h with _ h; subst h; exact f1
      · injection h with h; injection h with _ h; subst h; exact f1
    · exact ih hop h
  | loop a ih =>
    intro st e st' hop h
    simp only [Ax.exec] at h
    exact Fr.loopN (fun st e st' h1 h2 => ih h1 h2) hop h
  | rangeFunc f ps a b _ _ =>
    intro st e st' hop h
    simp only [Ax.exec] at h
    split at h
    case h_2 => cases h
    split at h
    case h_2 => cases h
    rename_i res s hc
    split at h
    case h_2 => cases h
    rename_i pe s1 hlv
    injection h with h
    injection h with _ h
    subst h
    have f1 := hro _ _ _ _ _ (by have := hop.cur; unfold Sig.cur at this; have := hop.pos; simp [enterLoop]; omega) (by have := hop.loops; simp [enterLoop]; omega) hc
    unfold leaveLoop at hlv
    split at hlv
    · rename_i hlen
      split at hlv
      · split at hlv
        · injection hlv with hlv
          injection hlv with _ hlv
          subst hlv
          refine ⟨f1.alen, by simp [hlen], f1.ro, f1.lro, fun d hd => f1.acts d hd, fun l hl => ?_⟩
          have := f1.loops l hl
          have hl2 : l < st.sig.loops.length := by have := hop.loops; omega
          simp only [enterLoop] at this
          rw [List.getElem?_append_left hl2] at this
          show (s.loops.take st.sig.loops.length)[l]? = _
          rw [List.getElem?_take, if_pos hl2]
          exact this
        · cases hlv
      · cases hlv
    · cases hlv

theorem Fr.finish {rs : List ARes} {own : Bool} {s0 : Sig} {r0 : Rec} {st : St} {x : AV} {s' : Sig} (h0 : s0.ro ≤ s0.acts.length) (f : Fr (s0.push r0) st.sig) (h : finish rs own st = some (x, s')) : Fr s0 s' := by
  have hlen : st.sig.acts.length = s0.acts.length + 1 := by rw [f.alen]; simp [Sig.push]
  have hp : Fr s0 st.sig.pop := by
    refine ⟨by simp [Sig.pop, hlen], f.llen, f.ro, f.lro, fun d hd => ?_, f.loops⟩
    have hd' : d < s0.acts.length := by omega
    simp only [Sig.pop, dropLast_get hlen]
    rw [if_pos hd', f.acts d hd]
    simp only [Sig.push]
    exact List.getElem?_append_left hd'
  unfold Ax.finish at h
  split at h
  · split at h
    · obtain ⟨x0, _, h⟩ := Option.bind_eq_some_iff.1 h
      unfold ownResult at h
      split at h
      · split at h
        · rename_i hcond
          injection h with h
          injection h with _ h
          subst h
          refine hp.trans (Fr.onRec _ ?_ _)
          rw [hp.ro]
          have := hcond.2.2.1
          rw [f.ro] at this
          simp only [Sig.push] at this
          omega
        · injection h with h; injection h with _ h; subst h; exact hp
      · obtain ⟨y, _, h⟩ := Option.map_eq_some_iff.1 h
        injection h with _ h
        subst h
        exact hp
    · cases h
  · obtain ⟨l, _, h⟩ := Option.map_eq_some_iff.1 h
    injection h with _ h
    subst h
    exact hp

theorem Open.push {s : Sig} (h1 : s.ro ≤ s.acts.length) (h2 : s.lro ≤ s.loops.length) (r : Rec) : Open (s.push r) :=
  ⟨by simp [Sig.push], by simp [Sig.push, Sig.cur]; exact h1, h2⟩

theorem Fr.setLoop (s : Sig) {l : Nat} (hl : s.lro ≤ l) (f : ALoop → ALoop) : Fr s (setLoop s l f) :=
  ⟨rfl, by simp [Ax.setLoop], rfl, rfl, fun _ _ => rfl, fun l' h => by simp only [Ax.setLoop, modify_get]; rw [if_neg (by omega)]⟩

theorem Fr.popped {s0 s : Sig} {r0 : Rec} (h0 : s0.ro ≤ s0.acts.length) (f : Fr (s0.push r0) s) : Fr s0 s.pop := by
  have hlen : s.acts.length = s0.acts.length + 1 := by rw [f.alen]; simp [Sig.push]
  refine ⟨by simp [Sig.pop, hlen], f.llen, f.ro, f.lro, fun d hd => ?_, f.loops⟩
  have hd' : d < s0.acts.length := by omega
  simp only [Sig.pop, dropLast_get hlen]
  rw [if_pos hd', f.acts d hd]
  simp only [Sig.push]
  exact List.getElem?_append_left hd'

theorem RoOk.step {AP : FuncId → Option AFn} {call : CallF} (hro : RoOk call) (lf : Nat) : RoOk (callStep AP call lf) := by
  intro t args s x s' h1 h2 h
  unfold callStep at h
  cases t with
  | fn f =>
    simp only at h
    split at h
    · split at h
      · split at h
        · rename_i st he
          exact Fr.finish h1 (Fr.exec hro (Open.push h1 h2 _) he) h
        · rename_i st he
          exact Fr.finish h1 (Fr.exec hro (Open.push h1 h2 _) he) h
        · cases h
      · cases h
    · obtain ⟨as, _, h⟩ := Option.bind_eq_some_iff.1 h
      obtain ⟨z, _, h⟩ := Option.map_eq_some_iff.1 h
      injection h with _ h
      subst h
      exact .refl _
    · cases h
  | yield l =>
    simp only at h
    split at h
    case h_2 => cases h
    split at h
    case isFalse => cases h
    rename_i hcond
    split at h
    case h_2 => cases h
    rename_i st he
    have f1 := Fr.exec hro (Open.push h1 h2 _) he
    have hl : st.sig.lro ≤ l := by rw [f1.lro]; exact hcond.2.1
    have f2 := f1.trans (Fr.setLoop st.sig hl fun p => { p with ready := false })
    have op2 := (Open.push h1 h2 ⟨[], []⟩).fr f2
    split at h
    case isFalse => cases h
    split at h
    · rename_i st' hb
      injection h with h
      injection h with _ h
      subst h
      have f3 := f2.trans (Fr.exec hro op2 hb)
      exact Fr.popped h1 (f3.trans (Fr.setLoop _ (by rw [f3.lro]; exact hcond.2.1) _))
    · rename_i e st' _ hb
      injection h with h
      injection h with _ h
      subst h
      have f3 := f2.trans (Fr.exec hro op2 hb)
      exact Fr.popped h1 (f3.trans (Fr.setLoop _ (by rw [f3.lro]; exact hcond.2.1) _))
    · cases h

end Go.Ax
